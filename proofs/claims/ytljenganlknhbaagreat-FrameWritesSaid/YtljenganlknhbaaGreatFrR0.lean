/- The reference's sizes, walked. Printed by gen_frr0.py. (Layer 19.) -/
import Derived.Test.YtljenganlknhbaaGreatPkM
import Derived.Deep.QuietTactic
import Derived.BigQuiet
import Derived.Deep.CutBlock
namespace Go.Proofs.YtljenganlknhbaaGreat.Fr
set_option linter.unusedVariables false
set_option linter.unusedSimpArgs false
open Go.RowKit Go.Lib
open Mk (MkR aMk)
theorem aloneN_iff (k : Int) (n1 n2 n3 n4 n6 : Nat) : aloneN k n1 n2 n3 n4 n6 = true ↔ ((k = 1 ∨ n1 = 0) ∧ (k = 2 ∨ n2 = 0) ∧ (k = 3 ∨ n3 = 0) ∧ (k = 4 ∨ n4 = 0) ∧ (k = 6 ∨ n6 = 0)) ∧
    ((k = 1 ∧ 1 ≤ n1 ∧ n1 ≤ 64) ∨ (k = 2 ∧ 1 ≤ n2 ∧ n2 ≤ 64) ∨ (k = 3 ∧ 1 ≤ n3 ∧ n3 ≤ 1024) ∨ (k = 4 ∧ n4 ≤ 16) ∨ k = 5 ∨ k = 6) := by
  simp only [aloneN, five, inR, Bool.and_eq_true, decide_eq_true_eq, List.mem_cons, List.mem_nil_iff, forall_eq_or_imp]
  by_cases k1 : k = 1
  · subst k1; simp; omega
  by_cases k2 : k = 2
  · subst k2; simp; omega
  by_cases k3 : k = 3
  · subst k3; simp; omega
  by_cases k4 : k = 4
  · subst k4; simp; omega
  by_cases k6 : k = 6
  · subst k6; simp
  by_cases k5 : k = 5
  · subst k5; simp
  · simp [k1, k2, k3, k4, k5, k6]
theorem bool_no {b : Bool} {p : Prop} (h : b = true ↔ p) (hp : ¬ p) : b = false := by
  cases b
  · rfl
  · exact absurd (h.1 rfl) hp
theorem bool_same {b c : Bool} {p : Prop} (h : b = true ↔ p) (hp : c = true ↔ p) : b = c := by
  cases b <;> cases c <;> simp_all
theorem later_drewN {w0 : World} (x : LaterOf w0) (n : Nat) : ∃ y : LaterOf w0, x.w.drewN n = y.w := ⟨⟨x.w.drewN n, x.h.trans ⟨rfl, rfl, rfl, Nat.le_refl _, fun _ _ => rfl⟩⟩, rfl⟩
/-- What the rounds have seen. -/
def Seen6 (k : Int) (n1 n2 n3 n4 n6 : Nat) (i : Nat) : Prop :=
  (0 < i → (k = 1 ∨ n1 = 0) ∧ n1 ≤ 64) ∧ (1 < i → (k = 2 ∨ n2 = 0) ∧ n2 ≤ 64) ∧ (2 < i → (k = 3 ∨ n3 = 0) ∧ n3 ≤ 1024) ∧ (3 < i → (k = 4 ∨ n4 = 0) ∧ n4 ≤ 16) ∧ (5 < i → (k = 6 ∨ n6 = 0))
set_option maxRecDepth 100000 in
set_option maxHeartbeats 8000000 in
theorem sizes_core (k s d u v : Int) (o1 o2 o3 o4 o5 o6 o7 : Option Addr) (n1 n2 n3 n4 n5 n6 n7 f1 f2 f3 f4 f5 f6 f7 : Nat) (w : World) (hb : n5 ≤ 1000000 ∧ n6 ≤ 1000000 ∧ n7 ≤ 1000000) (hk : 1 ≤ k ∧ k ≤ 6) :
    Calls Tryz.prog 35 #[.agg #[.int .i64 k, .int .i64 s, .int .i64 d, .int .i64 u, .int .i64 v, .slice o1 n1 f1, .slice o2 n2 f2, .slice o3 n3 f3, .slice o4 n4 f4, .slice o5 n5 f5, .slice o6 n6 f6, .slice o7 n7 f7]] w fun e w' => AlOut w (aloneN k n1 n2 n3 n4 (n5 + n6 + n7)) e w' := by
  obtain ⟨hb5, hb6, hb7⟩ := hb
  obtain ⟨nm, hnm⟩ : ∃ n, n = n5 + n6 + n7 := ⟨_, rfl⟩
  have hnmi : (n5 : Int) + n6 + n7 = (nm : Int) := by omega
  rw [← hnm]
  obtain ⟨W3, hW3⟩ : ∃ W, W = ((w.alloc (.cells #[.int .i64 k, .int .i64 s, .int .i64 d, .int .i64 u, .int .i64 v, .slice o1 n1 f1, .slice o2 n2 f2, .slice o3 n3 f3, .slice o4 n4 f4, .slice o5 n5 f5, .slice o6 n6 f6, .slice o7 n7 f7] 30)).alloc (.cells #[.int .i64 (n1 : Int), .int .i64 (n2 : Int), .int .i64 (n3 : Int), .int .i64 (n4 : Int), .int .i64 0, .int .i64 ((n5 : Int) + n6 + n7)] 3)).alloc (.cells #[.int .i64 64, .int .i64 64, .int .i64 1024, .int .i64 16, .int .i64 0, .int .i64 ((n5 : Int) + n6 + n7)] 3) := ⟨_, rfl⟩
  have hbl : Below w.heap.size w W3 := by rw [hW3]; exact (((Below.refl _ _).alloc (Nat.le_refl _) _).alloc (by simp) _).alloc (by simp; omega) _
  have k1 : BlkIs W3 w.heap.size 30 #[.int .i64 k, .int .i64 s, .int .i64 d, .int .i64 u, .int .i64 v, .slice o1 n1 f1, .slice o2 n2 f2, .slice o3 n3 f3, .slice o4 n4 f4, .slice o5 n5 f5, .slice o6 n6 f6, .slice o7 n7 f7] := by rw [hW3]; exact ((BlkIs.new _ _ _).alloc _).alloc _
  have k2 : BlkIs W3 (w.heap.size + 1) 3 #[.int .i64 (n1 : Int), .int .i64 (n2 : Int), .int .i64 (n3 : Int), .int .i64 (n4 : Int), .int .i64 0, .int .i64 ((n5 : Int) + n6 + n7)] := by rw [hW3]; exact (BlkIs.new2 _ _ _ _).alloc _
  have k3 : BlkIs W3 (w.heap.size + 1 + 1) 3 #[.int .i64 64, .int .i64 64, .int .i64 1024, .int .i64 16, .int .i64 0, .int .i64 ((n5 : Int) + n6 + n7)] := by
    rw [hW3]
    have := BlkIs.new ((w.alloc (.cells #[.int .i64 k, .int .i64 s, .int .i64 d, .int .i64 u, .int .i64 v, .slice o1 n1 f1, .slice o2 n2 f2, .slice o3 n3 f3, .slice o4 n4 f4, .slice o5 n5 f5, .slice o6 n6 f6, .slice o7 n7 f7] 30)).alloc (.cells #[.int .i64 (n1 : Int), .int .i64 (n2 : Int), .int .i64 (n3 : Int), .int .i64 (n4 : Int), .int .i64 0, .int .i64 ((n5 : Int) + n6 + n7)] 3)) 3 #[.int .i64 64, .int .i64 64, .int .i64 1024, .int .i64 16, .int .i64 0, .int .i64 ((n5 : Int) + n6 + n7)]
    simpa using this
  have u0 : ∀ X : LaterOf W3, X.w.cell? ⟨w.heap.size, 0, none⟩ = some (.int .i64 k) := fun X => (X.blk k1).cell 0
  have p0 : ∀ X : LaterOf W3, X.w.cell? ⟨w.heap.size + 1, 0, none⟩ = some (.int .i64 (n1 : Int)) := fun X => (X.blk k2).cell 0
  have q0 : ∀ X : LaterOf W3, X.w.cell? ⟨w.heap.size + 1 + 1, 0, none⟩ = some (.int .i64 64) := fun X => (X.blk k3).cell 0
  have p1 : ∀ X : LaterOf W3, X.w.cell? ⟨w.heap.size + 1, 1, none⟩ = some (.int .i64 (n2 : Int)) := fun X => (X.blk k2).cell 1
  have q1 : ∀ X : LaterOf W3, X.w.cell? ⟨w.heap.size + 1 + 1, 1, none⟩ = some (.int .i64 64) := fun X => (X.blk k3).cell 1
  have p2 : ∀ X : LaterOf W3, X.w.cell? ⟨w.heap.size + 1, 2, none⟩ = some (.int .i64 (n3 : Int)) := fun X => (X.blk k2).cell 2
  have q2 : ∀ X : LaterOf W3, X.w.cell? ⟨w.heap.size + 1 + 1, 2, none⟩ = some (.int .i64 1024) := fun X => (X.blk k3).cell 2
  have p3 : ∀ X : LaterOf W3, X.w.cell? ⟨w.heap.size + 1, 3, none⟩ = some (.int .i64 (n4 : Int)) := fun X => (X.blk k2).cell 3
  have q3 : ∀ X : LaterOf W3, X.w.cell? ⟨w.heap.size + 1 + 1, 3, none⟩ = some (.int .i64 16) := fun X => (X.blk k3).cell 3
  have p4 : ∀ X : LaterOf W3, X.w.cell? ⟨w.heap.size + 1, 4, none⟩ = some (.int .i64 0) := fun X => (X.blk k2).cell 4
  have q4 : ∀ X : LaterOf W3, X.w.cell? ⟨w.heap.size + 1 + 1, 4, none⟩ = some (.int .i64 0) := fun X => (X.blk k3).cell 4
  have p5 : ∀ X : LaterOf W3, X.w.cell? ⟨w.heap.size + 1, 5, none⟩ = some (.int .i64 ((n5 : Int) + n6 + n7)) := fun X => (X.blk k2).cell 5
  have q5 : ∀ X : LaterOf W3, X.w.cell? ⟨w.heap.size + 1 + 1, 5, none⟩ = some (.int .i64 ((n5 : Int) + n6 + n7)) := fun X => (X.blk k3).cell 5
  have HB := Lib.hid (fun X : LaterOf W3 => hbl.trans (X.h.mono hbl.size))
  have HW := Lib.hid hW3
  have HK := Lib.hid hk
  have HN := Lib.hid hnmi
  clear hbl k1 k2 k3 hW3 hk hnm hnmi
  go_enter Tryz.func35, Tryz.ntmps35
  go_upto_block 0 with (fail)
  rw [← HW.out]
  obtain ⟨X, hX⟩ := later_at W3
  rw [hX]
  clear hX HW
  go_wp2_with fail
  go_loopw [6] (fun i wr => ∃ (j : Nat) (Y : LaterOf W3), i = .int .i64 (j : Int) ∧ j ≤ 6 ∧ wr = Y.w ∧ Hid (Seen6 k n1 n2 n3 n4 nm j)) (fun i _ => 6 - (RowKit.intOf i).toNat)
  case atStart => exact ⟨0, X, rfl, by omega, rfl, Lib.hid ⟨fun h => by omega, fun h => by omega, fun h => by omega, fun h => by omega, fun h => by omega⟩⟩
  case round =>
    obtain ⟨j, Y, rfl, hj, rfl, HJ⟩ := hrel
    rcases Nat.lt_or_ge j 6 with hlt | hge
    · have hc : j = 0 ∨ j = 1 ∨ j = 2 ∨ j = 3 ∨ j = 4 ∨ j = 5 := by omega
      clear hlt hj
      rcases hc with rfl | rfl | rfl | rfl | rfl | rfl
      · by_cases hkj : k = 1
        · by_cases hm : 64 < n1
          · have HF := Lib.hid (show aloneN k n1 n2 n3 n4 nm = false from bool_no (aloneN_iff k n1 n2 n3 n4 nm) (by omega))
            have e1 : ((1 : Int) != k) = false := by rw [hkj]; rfl
            have e2 : ((1 : Int) == k) = true := by rw [hkj]; rfl
            have e4 : decide (64 < n1) = true := decide_eq_true hm
            have e5 : decide ((64 : Int) < (n1 : Int)) = true := decide_eq_true (by omega)
            have e6 : (64 : Int) < (n1 : Int) := by omega
            clear hkj hm
            go_wp2_with fail
            go_quiet (fail)
            obtain ⟨Z, hZ⟩ := later_drewN Y nq
            rw [hZ]
            clear hZ
            go_wp2_with fail
            go_ret
            exact ⟨by rw [HF.out]; rfl, HB.out Z⟩
          · have HJ2 := Lib.hid (show Seen6 k n1 n2 n3 n4 nm 1 from by
              obtain ⟨h1, h2, h3, h4, h5⟩ := HJ.out
              exact ⟨fun _ => by omega, fun _ => by omega, fun _ => by omega, fun _ => by omega, fun _ => by omega⟩)
            have e1 : ((1 : Int) != k) = false := by rw [hkj]; rfl
            have e2 : ((1 : Int) == k) = true := by rw [hkj]; rfl
            have e4 : decide (64 < n1) = false := decide_eq_false hm
            have e5 : decide ((64 : Int) < (n1 : Int)) = false := decide_eq_false (by omega)
            clear hkj hm
            go_wp2_with fail
            go_quiet (fail)
            obtain ⟨Z, hZ⟩ := later_drewN Y nq
            rw [hZ]
            clear hZ
            go_wp2_with fail
            exact ⟨⟨1, Z, by rfl, by omega, rfl, HJ2⟩, by simp [RowKit.intOf]⟩
        · by_cases hm : 0 < n1
          · have HF := Lib.hid (show aloneN k n1 n2 n3 n4 nm = false from bool_no (aloneN_iff k n1 n2 n3 n4 nm) (by omega))
            have e1 : ((1 : Int) != k) = true := by simpa using fun h : (1 : Int) = k => hkj h.symm
            have e2 : ((1 : Int) == k) = false := by simpa using fun h : (1 : Int) = k => hkj h.symm
            have e3 : ¬ (1 : Int) = k := fun h => hkj h.symm
            have e4 : decide (0 < n1) = true := decide_eq_true hm
            have e5 : decide ((0 : Int) < (n1 : Int)) = true := decide_eq_true (by omega)
            have e6 : (0 : Int) < (n1 : Int) := by omega
            clear hkj
            go_wp2_with fail
            go_quiet (fail)
            obtain ⟨Z, hZ⟩ := later_drewN Y nq
            rw [hZ]
            clear hZ
            go_wp2_with fail
            go_ret
            exact ⟨by rw [HF.out]; rfl, HB.out Z⟩
          · have HJ2 := Lib.hid (show Seen6 k n1 n2 n3 n4 nm 1 from by
              obtain ⟨h1, h2, h3, h4, h5⟩ := HJ.out
              exact ⟨fun _ => by omega, fun _ => by omega, fun _ => by omega, fun _ => by omega, fun _ => by omega⟩)
            have e1 : ((1 : Int) != k) = true := by simpa using fun h : (1 : Int) = k => hkj h.symm
            have e2 : ((1 : Int) == k) = false := by simpa using fun h : (1 : Int) = k => hkj h.symm
            have e3 : ¬ (1 : Int) = k := fun h => hkj h.symm
            have e4 : decide (0 < n1) = false := decide_eq_false hm
            have e5 : decide ((0 : Int) < (n1 : Int)) = false := decide_eq_false (by omega)
            have e7 : decide (64 < n1) = false := decide_eq_false (by omega)
            have e8 : decide ((64 : Int) < (n1 : Int)) = false := decide_eq_false (by omega)
            clear hkj hm
            go_wp2_with fail
            go_quiet (fail)
            obtain ⟨Z, hZ⟩ := later_drewN Y nq
            rw [hZ]
            clear hZ
            go_wp2_with fail
            exact ⟨⟨1, Z, by rfl, by omega, rfl, HJ2⟩, by simp [RowKit.intOf]⟩
      · by_cases hkj : k = 2
        · by_cases hm : 64 < n2
          · have HF := Lib.hid (show aloneN k n1 n2 n3 n4 nm = false from bool_no (aloneN_iff k n1 n2 n3 n4 nm) (by omega))
            have e1 : ((2 : Int) != k) = false := by rw [hkj]; rfl
            have e2 : ((2 : Int) == k) = true := by rw [hkj]; rfl
            have e4 : decide (64 < n2) = true := decide_eq_true hm
            have e5 : decide ((64 : Int) < (n2 : Int)) = true := decide_eq_true (by omega)
            have e6 : (64 : Int) < (n2 : Int) := by omega
            clear hkj hm
            go_wp2_with fail
            go_quiet (fail)
            obtain ⟨Z, hZ⟩ := later_drewN Y nq
            rw [hZ]
            clear hZ
            go_wp2_with fail
            go_ret
            exact ⟨by rw [HF.out]; rfl, HB.out Z⟩
          · have HJ2 := Lib.hid (show Seen6 k n1 n2 n3 n4 nm 2 from by
              obtain ⟨h1, h2, h3, h4, h5⟩ := HJ.out
              exact ⟨fun _ => by omega, fun _ => by omega, fun _ => by omega, fun _ => by omega, fun _ => by omega⟩)
            have e1 : ((2 : Int) != k) = false := by rw [hkj]; rfl
            have e2 : ((2 : Int) == k) = true := by rw [hkj]; rfl
            have e4 : decide (64 < n2) = false := decide_eq_false hm
            have e5 : decide ((64 : Int) < (n2 : Int)) = false := decide_eq_false (by omega)
            clear hkj hm
            go_wp2_with fail
            go_quiet (fail)
            obtain ⟨Z, hZ⟩ := later_drewN Y nq
            rw [hZ]
            clear hZ
            go_wp2_with fail
            exact ⟨⟨2, Z, by rfl, by omega, rfl, HJ2⟩, by simp [RowKit.intOf]⟩
        · by_cases hm : 0 < n2
          · have HF := Lib.hid (show aloneN k n1 n2 n3 n4 nm = false from bool_no (aloneN_iff k n1 n2 n3 n4 nm) (by omega))
            have e1 : ((2 : Int) != k) = true := by simpa using fun h : (2 : Int) = k => hkj h.symm
            have e2 : ((2 : Int) == k) = false := by simpa using fun h : (2 : Int) = k => hkj h.symm
            have e3 : ¬ (2 : Int) = k := fun h => hkj h.symm
            have e4 : decide (0 < n2) = true := decide_eq_true hm
            have e5 : decide ((0 : Int) < (n2 : Int)) = true := decide_eq_true (by omega)
            have e6 : (0 : Int) < (n2 : Int) := by omega
            clear hkj
            go_wp2_with fail
            go_quiet (fail)
            obtain ⟨Z, hZ⟩ := later_drewN Y nq
            rw [hZ]
            clear hZ
            go_wp2_with fail
            go_ret
            exact ⟨by rw [HF.out]; rfl, HB.out Z⟩
          · have HJ2 := Lib.hid (show Seen6 k n1 n2 n3 n4 nm 2 from by
              obtain ⟨h1, h2, h3, h4, h5⟩ := HJ.out
              exact ⟨fun _ => by omega, fun _ => by omega, fun _ => by omega, fun _ => by omega, fun _ => by omega⟩)
            have e1 : ((2 : Int) != k) = true := by simpa using fun h : (2 : Int) = k => hkj h.symm
            have e2 : ((2 : Int) == k) = false := by simpa using fun h : (2 : Int) = k => hkj h.symm
            have e3 : ¬ (2 : Int) = k := fun h => hkj h.symm
            have e4 : decide (0 < n2) = false := decide_eq_false hm
            have e5 : decide ((0 : Int) < (n2 : Int)) = false := decide_eq_false (by omega)
            have e7 : decide (64 < n2) = false := decide_eq_false (by omega)
            have e8 : decide ((64 : Int) < (n2 : Int)) = false := decide_eq_false (by omega)
            clear hkj hm
            go_wp2_with fail
            go_quiet (fail)
            obtain ⟨Z, hZ⟩ := later_drewN Y nq
            rw [hZ]
            clear hZ
            go_wp2_with fail
            exact ⟨⟨2, Z, by rfl, by omega, rfl, HJ2⟩, by simp [RowKit.intOf]⟩
      · by_cases hkj : k = 3
        · by_cases hm : 1024 < n3
          · have HF := Lib.hid (show aloneN k n1 n2 n3 n4 nm = false from bool_no (aloneN_iff k n1 n2 n3 n4 nm) (by omega))
            have e1 : ((3 : Int) != k) = false := by rw [hkj]; rfl
            have e2 : ((3 : Int) == k) = true := by rw [hkj]; rfl
            have e4 : decide (1024 < n3) = true := decide_eq_true hm
            have e5 : decide ((1024 : Int) < (n3 : Int)) = true := decide_eq_true (by omega)
            have e6 : (1024 : Int) < (n3 : Int) := by omega
            clear hkj hm
            go_wp2_with fail
            go_quiet (fail)
            obtain ⟨Z, hZ⟩ := later_drewN Y nq
            rw [hZ]
            clear hZ
            go_wp2_with fail
            go_ret
            exact ⟨by rw [HF.out]; rfl, HB.out Z⟩
          · have HJ2 := Lib.hid (show Seen6 k n1 n2 n3 n4 nm 3 from by
              obtain ⟨h1, h2, h3, h4, h5⟩ := HJ.out
              exact ⟨fun _ => by omega, fun _ => by omega, fun _ => by omega, fun _ => by omega, fun _ => by omega⟩)
            have e1 : ((3 : Int) != k) = false := by rw [hkj]; rfl
            have e2 : ((3 : Int) == k) = true := by rw [hkj]; rfl
            have e4 : decide (1024 < n3) = false := decide_eq_false hm
            have e5 : decide ((1024 : Int) < (n3 : Int)) = false := decide_eq_false (by omega)
            clear hkj hm
            go_wp2_with fail
            go_quiet (fail)
            obtain ⟨Z, hZ⟩ := later_drewN Y nq
            rw [hZ]
            clear hZ
            go_wp2_with fail
            exact ⟨⟨3, Z, by rfl, by omega, rfl, HJ2⟩, by simp [RowKit.intOf]⟩
        · by_cases hm : 0 < n3
          · have HF := Lib.hid (show aloneN k n1 n2 n3 n4 nm = false from bool_no (aloneN_iff k n1 n2 n3 n4 nm) (by omega))
            have e1 : ((3 : Int) != k) = true := by simpa using fun h : (3 : Int) = k => hkj h.symm
            have e2 : ((3 : Int) == k) = false := by simpa using fun h : (3 : Int) = k => hkj h.symm
            have e3 : ¬ (3 : Int) = k := fun h => hkj h.symm
            have e4 : decide (0 < n3) = true := decide_eq_true hm
            have e5 : decide ((0 : Int) < (n3 : Int)) = true := decide_eq_true (by omega)
            have e6 : (0 : Int) < (n3 : Int) := by omega
            clear hkj
            go_wp2_with fail
            go_quiet (fail)
            obtain ⟨Z, hZ⟩ := later_drewN Y nq
            rw [hZ]
            clear hZ
            go_wp2_with fail
            go_ret
            exact ⟨by rw [HF.out]; rfl, HB.out Z⟩
          · have HJ2 := Lib.hid (show Seen6 k n1 n2 n3 n4 nm 3 from by
              obtain ⟨h1, h2, h3, h4, h5⟩ := HJ.out
              exact ⟨fun _ => by omega, fun _ => by omega, fun _ => by omega, fun _ => by omega, fun _ => by omega⟩)
            have e1 : ((3 : Int) != k) = true := by simpa using fun h : (3 : Int) = k => hkj h.symm
            have e2 : ((3 : Int) == k) = false := by simpa using fun h : (3 : Int) = k => hkj h.symm
            have e3 : ¬ (3 : Int) = k := fun h => hkj h.symm
            have e4 : decide (0 < n3) = false := decide_eq_false hm
            have e5 : decide ((0 : Int) < (n3 : Int)) = false := decide_eq_false (by omega)
            have e7 : decide (1024 < n3) = false := decide_eq_false (by omega)
            have e8 : decide ((1024 : Int) < (n3 : Int)) = false := decide_eq_false (by omega)
            clear hkj hm
            go_wp2_with fail
            go_quiet (fail)
            obtain ⟨Z, hZ⟩ := later_drewN Y nq
            rw [hZ]
            clear hZ
            go_wp2_with fail
            exact ⟨⟨3, Z, by rfl, by omega, rfl, HJ2⟩, by simp [RowKit.intOf]⟩
      · by_cases hkj : k = 4
        · by_cases hm : 16 < n4
          · have HF := Lib.hid (show aloneN k n1 n2 n3 n4 nm = false from bool_no (aloneN_iff k n1 n2 n3 n4 nm) (by omega))
            have e1 : ((4 : Int) != k) = false := by rw [hkj]; rfl
            have e2 : ((4 : Int) == k) = true := by rw [hkj]; rfl
            have e4 : decide (16 < n4) = true := decide_eq_true hm
            have e5 : decide ((16 : Int) < (n4 : Int)) = true := decide_eq_true (by omega)
            have e6 : (16 : Int) < (n4 : Int) := by omega
            clear hkj hm
            go_wp2_with fail
            go_quiet (fail)
            obtain ⟨Z, hZ⟩ := later_drewN Y nq
            rw [hZ]
            clear hZ
            go_wp2_with fail
            go_ret
            exact ⟨by rw [HF.out]; rfl, HB.out Z⟩
          · have HJ2 := Lib.hid (show Seen6 k n1 n2 n3 n4 nm 4 from by
              obtain ⟨h1, h2, h3, h4, h5⟩ := HJ.out
              exact ⟨fun _ => by omega, fun _ => by omega, fun _ => by omega, fun _ => by omega, fun _ => by omega⟩)
            have e1 : ((4 : Int) != k) = false := by rw [hkj]; rfl
            have e2 : ((4 : Int) == k) = true := by rw [hkj]; rfl
            have e4 : decide (16 < n4) = false := decide_eq_false hm
            have e5 : decide ((16 : Int) < (n4 : Int)) = false := decide_eq_false (by omega)
            clear hkj hm
            go_wp2_with fail
            go_quiet (fail)
            obtain ⟨Z, hZ⟩ := later_drewN Y nq
            rw [hZ]
            clear hZ
            go_wp2_with fail
            exact ⟨⟨4, Z, by rfl, by omega, rfl, HJ2⟩, by simp [RowKit.intOf]⟩
        · by_cases hm : 0 < n4
          · have HF := Lib.hid (show aloneN k n1 n2 n3 n4 nm = false from bool_no (aloneN_iff k n1 n2 n3 n4 nm) (by omega))
            have e1 : ((4 : Int) != k) = true := by simpa using fun h : (4 : Int) = k => hkj h.symm
            have e2 : ((4 : Int) == k) = false := by simpa using fun h : (4 : Int) = k => hkj h.symm
            have e3 : ¬ (4 : Int) = k := fun h => hkj h.symm
            have e4 : decide (0 < n4) = true := decide_eq_true hm
            have e5 : decide ((0 : Int) < (n4 : Int)) = true := decide_eq_true (by omega)
            have e6 : (0 : Int) < (n4 : Int) := by omega
            clear hkj
            go_wp2_with fail
            go_quiet (fail)
            obtain ⟨Z, hZ⟩ := later_drewN Y nq
            rw [hZ]
            clear hZ
            go_wp2_with fail
            go_ret
            exact ⟨by rw [HF.out]; rfl, HB.out Z⟩
          · have HJ2 := Lib.hid (show Seen6 k n1 n2 n3 n4 nm 4 from by
              obtain ⟨h1, h2, h3, h4, h5⟩ := HJ.out
              exact ⟨fun _ => by omega, fun _ => by omega, fun _ => by omega, fun _ => by omega, fun _ => by omega⟩)
            have e1 : ((4 : Int) != k) = true := by simpa using fun h : (4 : Int) = k => hkj h.symm
            have e2 : ((4 : Int) == k) = false := by simpa using fun h : (4 : Int) = k => hkj h.symm
            have e3 : ¬ (4 : Int) = k := fun h => hkj h.symm
            have e4 : decide (0 < n4) = false := decide_eq_false hm
            have e5 : decide ((0 : Int) < (n4 : Int)) = false := decide_eq_false (by omega)
            have e7 : decide (16 < n4) = false := decide_eq_false (by omega)
            have e8 : decide ((16 : Int) < (n4 : Int)) = false := decide_eq_false (by omega)
            clear hkj hm
            go_wp2_with fail
            go_quiet (fail)
            obtain ⟨Z, hZ⟩ := later_drewN Y nq
            rw [hZ]
            clear hZ
            go_wp2_with fail
            exact ⟨⟨4, Z, by rfl, by omega, rfl, HJ2⟩, by simp [RowKit.intOf]⟩
      · by_cases hkj : k = 5
        · have HJ2 := Lib.hid (show Seen6 k n1 n2 n3 n4 nm 5 from by
            obtain ⟨h1, h2, h3, h4, h5⟩ := HJ.out
            exact ⟨fun _ => by omega, fun _ => by omega, fun _ => by omega, fun _ => by omega, fun _ => by omega⟩)
          have e1 : ((5 : Int) != k) = false := by rw [hkj]; rfl
          have e2 : ((5 : Int) == k) = true := by rw [hkj]; rfl
          clear hkj
          go_wp2_with fail
          go_quiet (fail)
          obtain ⟨Z, hZ⟩ := later_drewN Y nq
          rw [hZ]
          clear hZ
          go_wp2_with fail
          exact ⟨⟨5, Z, by rfl, by omega, rfl, HJ2⟩, by simp [RowKit.intOf]⟩
        · have HJ2 := Lib.hid (show Seen6 k n1 n2 n3 n4 nm 5 from by
            obtain ⟨h1, h2, h3, h4, h5⟩ := HJ.out
            exact ⟨fun _ => by omega, fun _ => by omega, fun _ => by omega, fun _ => by omega, fun _ => by omega⟩)
          have e1 : ((5 : Int) != k) = true := by simpa using fun h : (5 : Int) = k => hkj h.symm
          have e2 : ((5 : Int) == k) = false := by simpa using fun h : (5 : Int) = k => hkj h.symm
          have e3 : ¬ (5 : Int) = k := fun h => hkj h.symm
          clear hkj
          go_wp2_with fail
          go_quiet (fail)
          obtain ⟨Z, hZ⟩ := later_drewN Y nq
          rw [hZ]
          clear hZ
          go_wp2_with fail
          exact ⟨⟨5, Z, by rfl, by omega, rfl, HJ2⟩, by simp [RowKit.intOf]⟩
      · by_cases hkj : k = 6
        · have HJ2 := Lib.hid (show Seen6 k n1 n2 n3 n4 nm 6 from by
            obtain ⟨h1, h2, h3, h4, h5⟩ := HJ.out
            exact ⟨fun _ => by omega, fun _ => by omega, fun _ => by omega, fun _ => by omega, fun _ => by omega⟩)
          have e1 : ((6 : Int) != k) = false := by rw [hkj]; rfl
          have e2 : ((6 : Int) == k) = true := by rw [hkj]; rfl
          clear hkj
          go_wp2_with fail
          go_quiet (fail)
          obtain ⟨Z, hZ⟩ := later_drewN Y nq
          rw [hZ]
          clear hZ
          go_wp2_with fail
          exact ⟨⟨6, Z, by rfl, by omega, rfl, HJ2⟩, by simp [RowKit.intOf]⟩
        · have hnmi := HN.out
          by_cases hm : 0 < nm
          · have HF := Lib.hid (show aloneN k n1 n2 n3 n4 nm = false from bool_no (aloneN_iff k n1 n2 n3 n4 nm) (by omega))
            have e1 : ((6 : Int) != k) = true := by simpa using fun h : (6 : Int) = k => hkj h.symm
            have e2 : ((6 : Int) == k) = false := by simpa using fun h : (6 : Int) = k => hkj h.symm
            have e3 : ¬ (6 : Int) = k := fun h => hkj h.symm
            have e4 : decide (0 < nm) = true := decide_eq_true hm
            have e5 : decide ((0 : Int) < ((n5 : Int) + n6 + n7)) = true := decide_eq_true (by omega)
            have e6 : (0 : Int) < ((n5 : Int) + n6 + n7) := by omega
            clear hkj hnmi
            go_wp2_with fail
            go_quiet (fail)
            obtain ⟨Z, hZ⟩ := later_drewN Y nq
            rw [hZ]
            clear hZ
            go_wp2_with fail
            go_ret
            exact ⟨by rw [HF.out]; rfl, HB.out Z⟩
          · have HJ2 := Lib.hid (show Seen6 k n1 n2 n3 n4 nm 6 from by
              obtain ⟨h1, h2, h3, h4, h5⟩ := HJ.out
              exact ⟨fun _ => by omega, fun _ => by omega, fun _ => by omega, fun _ => by omega, fun _ => by omega⟩)
            have e1 : ((6 : Int) != k) = true := by simpa using fun h : (6 : Int) = k => hkj h.symm
            have e2 : ((6 : Int) == k) = false := by simpa using fun h : (6 : Int) = k => hkj h.symm
            have e3 : ¬ (6 : Int) = k := fun h => hkj h.symm
            have e4 : decide (0 < nm) = false := decide_eq_false hm
            have e5 : decide ((0 : Int) < ((n5 : Int) + n6 + n7)) = false := decide_eq_false (by omega)
            clear hkj hm hnmi
            go_wp2_with fail
            go_quiet (fail)
            obtain ⟨Z, hZ⟩ := later_drewN Y nq
            rw [hZ]
            clear hZ
            go_wp2_with fail
            exact ⟨⟨6, Z, by rfl, by omega, rfl, HJ2⟩, by simp [RowKit.intOf]⟩
    · obtain rfl : j = 6 := by omega
      have hs6 := HJ.out
      have hk := HK.out
      by_cases h3 : 3 < k
      · have HF := Lib.hid (show aloneN k n1 n2 n3 n4 nm = true from (aloneN_iff k n1 n2 n3 n4 nm).2 (by obtain ⟨h1, h2, h3', h4, h5⟩ := hs6; have := h1 (by decide); have := h2 (by decide); have := h3' (by decide); have := h4 (by decide); have := h5 (by decide); omega))
        have e1 : decide (3 < k) = true := decide_eq_true h3
        clear hs6 hk
        go_wp2_with fail
        go_ret
        exact ⟨by rw [HF.out]; rfl, HB.out Y⟩
      · have hc : k = 1 ∨ k = 2 ∨ k = 3 := by omega
        rcases hc with hk1 | hk1 | hk1
        · have HF := Lib.hid (show aloneN k n1 n2 n3 n4 nm = decide (0 < n1) from bool_same (aloneN_iff k n1 n2 n3 n4 nm) (by rw [decide_eq_true_eq]; obtain ⟨h1, h2, h3', h4, h5⟩ := hs6; have := h1 (by decide); have := h2 (by decide); have := h3' (by decide); have := h4 (by decide); have := h5 (by decide); omega))
          have HKK := Lib.hid hk1
          clear hs6 hk h3
          subst hk1
          go_wp2_with fail
          go_ret
          exact ⟨by rw [HF.out]; simp, HB.out Y⟩
        · have HF := Lib.hid (show aloneN k n1 n2 n3 n4 nm = decide (0 < n2) from bool_same (aloneN_iff k n1 n2 n3 n4 nm) (by rw [decide_eq_true_eq]; obtain ⟨h1, h2, h3', h4, h5⟩ := hs6; have := h1 (by decide); have := h2 (by decide); have := h3' (by decide); have := h4 (by decide); have := h5 (by decide); omega))
          have HKK := Lib.hid hk1
          clear hs6 hk h3
          subst hk1
          go_wp2_with fail
          go_ret
          exact ⟨by rw [HF.out]; simp, HB.out Y⟩
        · have HF := Lib.hid (show aloneN k n1 n2 n3 n4 nm = decide (0 < n3) from bool_same (aloneN_iff k n1 n2 n3 n4 nm) (by rw [decide_eq_true_eq]; obtain ⟨h1, h2, h3', h4, h5⟩ := hs6; have := h1 (by decide); have := h2 (by decide); have := h3' (by decide); have := h4 (by decide); have := h5 (by decide); omega))
          have HKK := Lib.hid hk1
          clear hs6 hk h3
          subst hk1
          go_wp2_with fail
          go_ret
          exact ⟨by rw [HF.out]; simp, HB.out Y⟩
theorem sizes_any (m : MsgR) (w : World) (h : m.Reads w) (hs : m.Small) (hk : 1 ≤ m.kind ∧ m.kind ≤ 6) : Calls Tryz.prog 35 #[aMsg m] w fun e w' => e = .returned (.bool (aloneB m.msg)) ∧ Below w.heap.size w w' := by
  obtain ⟨o1, f1, o2, f2, o3, f3, o4, f4, o5, f5, o6, f6, o7, f7, e1, e2, e3, e4, e5, e6, e7⟩ := MsgR.form h
  rw [← aloneN_is]
  unfold aMsg
  rw [e1, e2, e3, e4, e5, e6, e7]
  exact sizes_core _ _ _ _ _ _ _ _ _ _ _ _ _ _ _ _ _ _ _ _ _ _ _ _ _ _ w ⟨hs.2.1.1, hs.2.1.2.1, hs.2.1.2.2.1⟩ hk
end Go.Proofs.YtljenganlknhbaaGreat.Fr
