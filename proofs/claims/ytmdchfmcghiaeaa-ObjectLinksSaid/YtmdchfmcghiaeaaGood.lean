/- object.Good, walked: isRising, goodTree, goodCommit. No conditions but the slices' own cells. -/
import Derived.Test.YtmdchfmcghiaeaaPath
import Derived.Test.YtmdchfmcghiaeaaSlice
import Derived.Test.YtmdchfmcghiaeaaObj1
import Derived.Test.YtmdchfmcghiaeaaRegion
namespace Go.Proofs.Ytmdchfmcghiaeaa.Obj
open Go.RowKit
/-- The strings of a slice, and where they lie. -/
def StrsAt (w : World) (ao : Option Addr) (n : Nat) (f : Nat → ByteArray) : Prop :=
  (n : Int) ≤ 9223372036854775807 ∧ (0 < n → ∃ b off, ao = some ⟨b, off, none⟩ ∧ b < w.heap.size ∧ ∀ i, i < n → w.cell? ⟨b, off + i, none⟩ = some (.string (f i)))
theorem StrsAt.later {w w' : World} {ao : Option Addr} {n : Nat} {f : Nat → ByteArray} (h : StrsAt w ao n f) (hb : Below w.heap.size w w') : StrsAt w' ao n f := by
  refine ⟨h.1, fun hn => ?_⟩
  obtain ⟨b, off, ha, hlt, hc⟩ := h.2 hn
  exact ⟨b, off, ha, Nat.lt_of_lt_of_le hlt hb.size, fun i hi => by rw [hb.cell hlt, hc i hi]⟩
/-- Whether the first n texts rise. -/
def rises (f : Nat → ByteArray) : Nat → Bool
  | 0 => true
  | 1 => true
  | k + 2 => rises f (k + 1) && Op.bytesLess (f k).toList (f (k + 1)).toList
theorem rises_false (f : Nat → ByteArray) (k : Nat) : ∀ d, rises f k = false → rises f (k + d) = false
  | 0, h => h
  | d + 1, h => by
    have := rises_false f k d h
    match hk : k + d with
    | 0 => rw [hk] at this; cases this
    | m + 1 => rw [hk] at this; show rises f (k + d + 1) = false; rw [hk, rises, this]; rfl
theorem rising_any (ao : Option Addr) (n cap : Nat) (f : Nat → ByteArray) (w : World) (h : StrsAt w ao n f) :
    Calls Try.prog 86 #[.slice ao n cap] w fun e w' => e = .returned (.bool (rises f n)) ∧ Below w.heap.size w w' := by
  obtain ⟨hm, hc⟩ := h
  have Hc := Lib.hid hc
  clear hc
  go_enter Try.func86, Try.ntmps86
  go_wp2_with fail
  go_loopw [3] (fun i wr => ∃ k : Nat, i = .int .i64 ((k : Int) + 1) ∧ (k = 0 ∨ k + 1 ≤ n) ∧ rises f (k + 1) = true ∧ DrawsOf w wr) (fun i _ => ((n : Int) - intOf i).toNat)
  case atStart => exact ⟨0, rfl, Or.inl rfl, rfl, DrawsOf.refl w⟩
  case round =>
    obtain ⟨k, rfl, hk, hr, hd⟩ := hrel
    have Hd := Lib.hid (And.intro hd hr)
    rcases Nat.lt_or_ge (k + 1) n with hk1 | hk1
    · obtain ⟨b, off, rfl, hb, hcell⟩ := Hc.out (by omega)
      have c0 : wr.cell? ⟨b, off + k, none⟩ = some (.string (f k)) := by rw [hd.cell]; exact hcell k (by omega)
      have c1 : wr.cell? ⟨b, off + (k + 1), none⟩ = some (.string (f (k + 1))) := by rw [hd.cell]; exact hcell (k + 1) hk1
      have ki : (k : Int) + 1 < n := by omega
      clear hcell hd hr
      go_wp2_with fail
      go_quiet (fail)
      all_goals cases hlt : Op.bytesLess (f k).toList (f (k + 1)).toList
      all_goals go_wp2_with fail
      · go_ret
        refine ⟨?_, (Hd.out.1.drewN _).below _⟩
        have h1 : rises f (k + 2) = false := by rw [rises, hlt, Bool.and_false]
        have h2 := rises_false f (k + 2) (n - (k + 2)) h1
        rw [show k + 2 + (n - (k + 2)) = n by omega] at h2
        rw [h2]; rfl
      · refine ⟨⟨k + 1, rfl, Or.inr hk1, by rw [rises, Hd.out.2, hlt]; rfl, Hd.out.1.drewN _⟩, ?_⟩
        simp [intOf]
        omega
    · have ki : (n : Int) ≤ (k : Int) + 1 := by omega
      clear hd hr
      go_wp2_with fail
      go_ret
      refine ⟨?_, Hd.out.1.below _⟩
      rcases hk with rfl | hk
      · have : n = 0 ∨ n = 1 := by omega
        rcases this with rfl | rfl <;> rfl
      · obtain rfl : n = k + 1 := by omega
        rw [Hd.out.2]; rfl
/-- Whether the first n texts are ids. -/
def ids (f : Nat → ByteArray) : Nat → Bool
  | 0 => true
  | k + 1 => ids f k && ((f k).size : Int) == 32
theorem ids_false (f : Nat → ByteArray) (k : Nat) : ∀ d, ids f k = false → ids f (k + d) = false
  | 0, h => h
  | d + 1, h => by show (ids f (k + d) && _) = false; rw [ids_false f k d h]; rfl
theorem odd_id (s : ByteArray) (w : World) : Calls Try.prog 87 #[.string s] w fun e w' => e = .returned (.bool (!((s.size : Int) == 32))) ∧ w = w' := by
  have H := Lib.hid (Path.ident_good s w)
  generalize ((s.size : Int) == 32) = x at *
  go_enter Try.func87, Try.ntmps87
  go_wp2_with fail
  refine H.out.mono ?_
  rintro e w1 ⟨rfl, rfl⟩
  go_wp2_with fail
  go_ret
  exact ⟨rfl, rfl⟩
theorem index_odd (ao : Option Addr) (n cap : Nat) (f : Nat → ByteArray) (w : World) (h : StrsAt w ao n f) :
    Calls Try.prog 97 #[.slice ao n cap, .func (.func 87) #[] #[]] w fun e w' => ∃ r : Int, e = .returned (.int .i64 r) ∧ decide (0 ≤ r) = !ids f n ∧ w = w' := by
  obtain ⟨hm, hc⟩ := h
  have Hc := Lib.hid hc
  clear hc
  go_enter Try.func97, Try.ntmps97
  go_wp2_with fail
  go_loopw [5, 8] (fun j i wr => ∃ k : Nat, i = .int .i64 (k : Int) ∧ k ≤ n ∧ ids f k = true ∧ wr = w) (fun _ i _ => ((n : Int) - intOf i).toNat)
  case atStart => exact ⟨0, rfl, by omega, rfl, rfl⟩
  case round =>
    obtain ⟨k, rfl, hk, hr, rfl⟩ := hrel
    have Hr := Lib.hid hr
    clear hr
    rcases Nat.lt_or_ge k n with hk1 | hk1
    · obtain ⟨b, off, rfl, hb, hcell⟩ := Hc.out (by omega)
      have c0 : wr.cell? ⟨b, off + k, none⟩ = some (.string (f k)) := hcell k (by omega)
      have ki : (k : Int) < n := by omega
      have Ho := odd_id (f k) wr
      have hid : ids f (k + 1) = (((f k).size : Int) == 32) := by rw [ids, Hr.out]; rfl
      rw [← hid] at Ho
      have Ho := Lib.hid Ho
      clear hcell hid
      go_wp2_with fail
      refine Ho.out.mono ?_
      rintro e w1 ⟨rfl, rfl⟩
      cases hx : ids f (k + 1)
      · go_wp2_with fail
        go_ret
        refine ⟨_, rfl, ?_, rfl⟩
        have := ids_false f (k + 1) (n - (k + 1)) hx
        rw [show k + 1 + (n - (k + 1)) = n by omega] at this
        rw [this]
        simp
      · go_wp2_with fail
        refine ⟨⟨k + 1, rfl, hk1, hx, trivial⟩, ?_⟩
        simp [intOf]
        omega
    · have ki : (n : Int) ≤ (k : Int) := by omega
      go_wp2_with fail
      go_ret
      obtain rfl : k = n := by omega
      exact ⟨_, rfl, by rw [Hr.out]; rfl, rfl⟩
theorem contains_odd (ao : Option Addr) (n cap : Nat) (f : Nat → ByteArray) (w : World) (h : StrsAt w ao n f) :
    Calls Try.prog 88 #[.slice ao n cap, .func (.func 87) #[] #[]] w fun e w' => e = .returned (.bool (!ids f n)) ∧ w = w' := by
  have H := Lib.hid (index_odd ao n cap f w h)
  generalize ids f n = x at *
  go_enter Try.func88, Try.ntmps88
  go_wp2_with fail
  refine H.out.mono ?_
  rintro e w1 ⟨r, rfl, hr, rfl⟩
  cases x
  · have hr' : 0 ≤ r := by simpa using hr
    go_wp2_with fail
    go_ret
    exact ⟨rfl, rfl⟩
  · have hr' : r < 0 := by simpa using hr
    go_wp2_with fail
    go_ret
    exact ⟨rfl, rfl⟩
/-- Whether fields are a commit's. -/
def commitOk (t : ByteArray) (np : Nat) (f : Nat → ByteArray) (h : Int) (n : ByteArray) : Bool :=
  (decide ((np : Int) ≤ 8) && rises f np && ids f np) && (decide (0 ≤ h) && decide (h ≤ 1073741824) && (decide (0 < h) == decide (0 < (np : Int)))) && ((t.size : Int) == 32) && decide ((n.size : Int) ≤ 1000)
theorem commit_parts (t : ByteArray) (np : Nat) (f : Nat → ByteArray) (h : Int) (n : ByteArray) (q1 q2 : Bool) (h1 : q1 = (decide ((np : Int) ≤ 8) && rises f np && ids f np))
    (h2 : q2 = (decide (0 ≤ h) && decide (h ≤ 1073741824) && (decide (0 < h) == decide (0 < (np : Int))))) :
    commitOk t np f h n = (q1 && q2 && ((t.size : Int) == 32) && decide ((n.size : Int) ≤ 1000)) := by rw [h1, h2]; rfl
set_option maxRecDepth 100000 in
set_option maxHeartbeats 1000000 in
theorem good_commit (k : Int) (d : ByteArray) (es : Value) (t : ByteArray) (ao : Option Addr) (np cap : Nat) (f : Nat → ByteArray) (h : Int) (n : ByteArray) (w : World) (hp : StrsAt w ao np f) :
    Calls Try.prog 62 #[obj k d es t (.slice ao np cap) h n] w fun e w' => e = .returned (.bool (commitOk t np f h n)) ∧ Below w.heap.size w w' := by
  have Hp := Lib.hid hp
  have hnp := hp.1
  obtain ⟨W, hW⟩ : ∃ W, W = w.alloc (.cells #[.int .i64 k, .string d, es, .string t, .slice ao np cap, .int .i64 h, .string n] 34) := ⟨_, rfl⟩
  have hblk := BlkIs.new w 34 #[.int .i64 k, .string d, es, .string t, .slice ao np cap, .int .i64 h, .string n]
  have hb0 := (Below.refl w.heap.size w).alloc (Nat.le_refl _) (.cells #[.int .i64 k, .string d, es, .string t, .slice ao np cap, .int .i64 h, .string n] 34)
  rw [← hW] at hblk hb0
  have HW := Lib.hid hW
  have H0 := Lib.hid (And.intro hblk (And.intro hb0 (hp.later hb0)))
  have c3 : W.cell? ⟨w.heap.size, 3, none⟩ = some (.string t) := hblk.cell 3
  have c4 : W.cell? ⟨w.heap.size, 4, none⟩ = some (.slice ao np cap) := hblk.cell 4
  have c5 : W.cell? ⟨w.heap.size, 5, none⟩ = some (.int .i64 h) := hblk.cell 5
  have c6 : W.cell? ⟨w.heap.size, 6, none⟩ = some (.string n) := hblk.cell 6
  clear hW hblk hb0 hp
  unfold obj
  go_enter Try.func62, Try.ntmps62
  by_cases hn8 : (np : Int) ≤ 8
  · go_wp2_with fail
    rw [← HW.out]
    refine (rising_any ao np cap f W H0.out.2.2).mono ?_
    rintro e w1 ⟨rfl, hb1⟩
    have hblk := H0.out.1.below hb1 H0.out.1.lt
    have hbb := H0.out.2.1.trans (hb1.mono H0.out.2.1.size)
    have hp1 := H0.out.2.2.later hb1
    have H1 := Lib.hid (And.intro hblk (And.intro hbb hp1))
    clear c3 c4 c5 c6 hb1 hbb hp1 HW H0
    have c3 : w1.cell? ⟨w.heap.size, 3, none⟩ = some (.string t) := hblk.cell 3
    have c4 : w1.cell? ⟨w.heap.size, 4, none⟩ = some (.slice ao np cap) := hblk.cell 4
    have c5 : w1.cell? ⟨w.heap.size, 5, none⟩ = some (.int .i64 h) := hblk.cell 5
    have c6 : w1.cell? ⟨w.heap.size, 6, none⟩ = some (.string n) := hblk.cell 6
    clear hblk
    cases hr : rises f np
    · go_wp2_with fail
      all_goals
        go_ret
        refine ⟨?_, H1.out.2.1⟩
        rw [commit_parts t np f h n _ _ rfl rfl]
        simp [hr]
    · go_wp2_with fail
      refine (contains_odd ao np cap f w1 H1.out.2.2).mono ?_
      rintro e w2 ⟨rfl, rfl⟩
      cases hi : ids f np
      · go_wp2_with fail
        all_goals
          go_ret
          refine ⟨?_, H1.out.2.1⟩
          rw [commit_parts t np f h n _ _ rfl rfl]
          simp [hi]
      · by_cases hh0 : h < 0
        · have hx : decide (0 ≤ h) = false := decide_eq_false (by omega)
          go_wp2_with fail
          all_goals
            go_ret
            refine ⟨?_, H1.out.2.1⟩
            rw [commit_parts t np f h n _ _ rfl rfl]
            simp [hx]
        · have hh1 : 0 ≤ h := by omega
          clear hh0
          by_cases hhb : 1073741824 < h
          · have hx : decide (h ≤ 1073741824) = false := decide_eq_false (by omega)
            go_wp2_with fail
            all_goals
              go_ret
              refine ⟨?_, H1.out.2.1⟩
              rw [commit_parts t np f h n _ _ rfl rfl]
              simp [hx]
          · have hhs : h ≤ 1073741824 := by omega
            clear hhb
            obtain ⟨q, hq⟩ : ∃ q, (decide (0 < h) == decide (0 < (np : Int))) = q := ⟨_, rfl⟩
            have hq' : (decide (0 < h) == decide (0 < np)) = q := by rw [← hq]; simp
            cases q
            · go_wp2_with fail
              all_goals
                go_ret
                refine ⟨?_, H1.out.2.1⟩
                unfold commitOk
                rw [hq]
                simp
            · go_wp2_with fail
              refine (Path.ident_good t _).mono ?_
              rintro e w5 ⟨rfl, rfl⟩
              cases ht : ((t.size : Int) == 32)
              · go_wp2_with fail
                all_goals
                  go_ret
                  refine ⟨?_, H1.out.2.1⟩
                  rw [commit_parts t np f h n _ _ rfl rfl]
                  simp [ht]
              · go_wp2_with fail
                all_goals
                  go_ret
                  refine ⟨?_, H1.out.2.1⟩
                  unfold commitOk
                  rw [hr, hi, hq, ht, decide_eq_true hn8, decide_eq_true hh1, decide_eq_true hhs]
                  simp
  · have hx8 : decide ((np : Int) ≤ 8) = false := decide_eq_false hn8
    have hn8' : 8 < (np : Int) := by omega
    clear hn8
    go_wp2_with fail
    all_goals
      go_ret
      rw [← HW.out]
      refine ⟨?_, H0.out.2.1⟩
      rw [commit_parts t np f h n _ _ rfl rfl]
      simp [hx8]
end Go.Proofs.Ytmdchfmcghiaeaa.Obj
