/- order's read, walked: the book of facts, or that an id is there twice. Conditions: the slice's cells as they lie. (Layer 11.) -/
import Derived.Test.YthcgdpdijdmelaaGreatOrd5
import Derived.Test.YthcgdpdijdmelaaGreatOrdLaw
import Derived.Carry
namespace Go.Proofs.YthcgdpdijdmelaaGreat.Ord
set_option linter.unusedVariables false
open Go.RowKit Go.Sort Go.Lib
theorem dist_step {f : Nat → Fv} {k : Nat} (h : Dist k f) (hn : ¬ Here k f (f k).id) : Dist (k + 1) f := fun i j hi hj he => by
  rcases Nat.lt_or_ge i k with h1 | h1
  · rcases Nat.lt_or_ge j k with h2 | h2
    · exact h i j h1 h2 he
    · obtain rfl : j = k := by omega
      exact absurd ⟨i, h1, he⟩ hn
  · obtain rfl : i = k := by omega
    rcases Nat.lt_or_ge j i with h2 | h2
    · exact absurd ⟨j, h2, he.symm⟩ hn
    · omega
theorem dist_not {n : Nat} {f : Nat → Fv} {k : Nat} (hk : k < n) (h : Here k f (f k).id) : ¬ Dist n f := fun hd => by
  obtain ⟨i, hi, he⟩ := h
  have := hd i k (by omega) hk he
  omega
set_option maxRecDepth 100000 in
theorem read_any (ao : Option Addr) (n cap : Nat) (f : Nat → Fv) (w : World) (h : FactsAt w ao n f) (mv : Option Nat) (ev : Int) (hyes : Dist n f → mv = some w.heap.size ∧ ev = 0) (hno : ¬ Dist n f → mv = none ∧ ev = 31) :
    Calls Tryz.prog 21 #[.slice ao n cap] w fun e w' => e = .returned (.tuple #[.map mv, .int .i64 ev]) ∧ (Dist n f → SMap w' w.heap.size (bookL n f)) ∧ Below w.heap.size w w' := by
  obtain ⟨hm, hc, hp⟩ := h
  have Hc := Lib.hid hc
  have HY := Lib.hid (And.intro hyes hno)
  clear hc hp hyes hno
  have hmm := @run_makeMap Tryz.prog
  go_enter Tryz.func21, Tryz.ntmps21
  go_wp2_with fail
  clear hmm
  have H0 := Lib.hid (show Dist 0 f ∧ SMap (w.alloc (.map #[] 0)) w.heap.size (bookL 0 f) ∧ Below w.heap.size w (w.alloc (.map #[] 0)) from ⟨fun i j hi => by omega, SMap.new w 0, (Below.refl _ _).alloc (Nat.le_refl _) _⟩)
  go_loopw [12] (fun s12 wr => ∃ k : Nat, s12 = .int .i64 (k : Int) ∧ k ≤ n ∧ Hid (Dist k f ∧ SMap wr w.heap.size (bookL k f) ∧ Below w.heap.size w wr)) (fun i _ => ((n : Int) - intOf i).toNat)
  case atStart => exact ⟨0, rfl, by omega, H0⟩
  case round =>
    obtain ⟨k, rfl, hk, HR⟩ := hrel
    rcases Nat.lt_or_ge k n with hk1 | hk1
    · obtain ⟨b, off, rfl, hlt, hcell⟩ := Hc.out (by omega)
      obtain ⟨c0, c1, c2⟩ := hcell k hk1
      rw [← HR.out.2.2.cell hlt] at c0 c1 c2
      have ki : (k : Int) < n := by omega
      have hz := Tryz.zeroValue28
      have hu := Tryz.underlying58
      have hs := Tryz.underlying9
      obtain ⟨y, hy⟩ : ∃ y, y = f k := ⟨_, rfl⟩
      rw [← hy] at c0 c1 c2
      have HF := Lib.hid hy
      have hsz := Lib.hid (HR.out.2.2.size)
      by_cases hh : Here k f y.id
      · have hnd : ¬ Dist n f := dist_not hk1 (by rw [← hy]; exact hh)
        obtain ⟨i, hi, he⟩ := hh
        obtain ⟨j, hj⟩ := book_some HR.out.1 hi
        rw [he] at hj
        obtain ⟨rfl, rfl⟩ := HY.out.2 hnd
        have V := Lib.hid (lookT_some (.agg #[.string ⟨#[]⟩, .int .i64 0, .slice none 0 0]) hj)
        unfold aggF at V
        have HN := Lib.hid hnd
        clear hj hcell hy he hnd
        go_wp2_with (at_lookup; refine wpList_lookup_ok rfl _ _ rfl hu hs (hz _) rfl (HR.out.2.1.alloc _) y.id rfl V.out ?_)
        go_ret2
        exact ⟨rfl, fun h => absurd h HN.out, (HR.out.2.2.alloc hsz.out _).alloc (by simp [Nat.le_succ_of_le hsz.out]) _⟩
      · have hn := book_none hh
        have V := Lib.hid (lookT_none (.agg #[.string ⟨#[]⟩, .int .i64 0, .slice none 0 0]) hn)
        have HH := Lib.hid hh
        clear hn hh hcell hy
        go_wp2_with (first | (at_lookup; refine wpList_lookup_ok rfl _ _ rfl hu hs (hz _) rfl (HR.out.2.1.alloc _) y.id rfl V.out ?_) | (at_mapUpdate; refine wpList_update_smap rfl _ _ _ rfl hu hs rfl ((HR.out.2.1.alloc _).alloc _) y.id rfl _ rfl ?_; intro w2 hm2 hg2))
        refine ⟨⟨k + 1, rfl, hk1, Lib.hid ⟨dist_step HR.out.1 (by rw [← HF.out]; exact HH.out), ?_, ?_⟩⟩, ?_⟩
        · rw [← bookL_put (by rw [← HF.out]; exact HH.out), ← HF.out]
          exact hm2
        · exact ((HR.out.2.2.alloc hsz.out _).alloc (by simp [Nat.le_succ_of_le hsz.out]) _).trans (grown_below hg2 (Nat.le_refl _) (by simp; have := hsz.out; omega))
        · simp [intOf]
          omega
    · have ki : (n : Int) ≤ (k : Int) := by omega
      obtain rfl : k = n := by omega
      obtain ⟨rfl, rfl⟩ := HY.out.1 HR.out.1
      go_wp2_with fail
      go_ret2
      exact ⟨rfl, fun _ => HR.out.2.1, HR.out.2.2⟩
end Go.Proofs.YthcgdpdijdmelaaGreat.Ord
