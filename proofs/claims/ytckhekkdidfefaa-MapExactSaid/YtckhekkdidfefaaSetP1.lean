/- reliquaryref08.Cut, walked. (Layer 08.) -/
import Derived.Test.YtckhekkdidfefaaSetP0
namespace Go.Proofs.Ytckhekkdidfefaa.Set
set_option linter.unusedVariables false
open Go.RowKit Go.Sort Go.Lib
def pcells (L : Row) : List Value := L.flatMap fun p => [Value.string p.1, Value.int .i64 p.2]
theorem pcells_app (L M : Row) : pcells (L ++ M) = pcells L ++ pcells M := by simp [pcells]
theorem pcells_length (L : Row) : (pcells L).length = L.length * 2 := by
  induction L with
  | nil => rfl
  | cons p r ih => rw [show pcells (p :: r) = [Value.string p.1, Value.int .i64 p.2] ++ pcells r from rfl, List.length_append, ih, List.length_cons]; simp; omega
theorem pcells_get : ∀ (L : Row) (i : Nat) (h : i < L.length), (pcells L)[i * 2]? = some (.string L[i].1) ∧ (pcells L)[i * 2 + 1]? = some (.int .i64 L[i].2)
  | p :: r, 0, _ => ⟨rfl, rfl⟩
  | p :: r, i + 1, h => by
    have := pcells_get r i (by simpa using h)
    rw [show pcells (p :: r) = Value.string p.1 :: Value.int .i64 p.2 :: pcells r from rfl, show (i + 1) * 2 = i * 2 + 1 + 1 by omega]
    simpa using this
theorem pcells_one (x : ByteArray) (y : Int) : ∀ u ∈ [Value.string x, Value.int .i64 y], u.oneCell' = true := by
  intro u hu
  rcases List.mem_cons.1 hu with rfl | hu
  · rfl
  · rcases List.mem_singleton.1 hu with rfl; rfl
theorem PairOff.of_sl {w : World} {base : Nat} {e : TypeId} {v : Value} {L : Row} (h : SlIs w base e 2 v L.length (pcells L)) : PairOff (fun k => k < base) w v L := by
  obtain ⟨ao, cap, rfl, h1, h2, _⟩ := h.form
  refine ⟨ao, cap, rfl, h1, h2, fun hn => ?_⟩
  obtain ⟨g, off, cap', hv, hg, hlt, _, _, hx, _⟩ := h.at_ hn
  injection hv with e1 e2 e3
  subst e1
  have hl := pcells_length L
  refine ⟨g, off, rfl, hlt, by simp only; omega, fun i hi => ?_⟩
  obtain ⟨p0, p1⟩ := pcells_get L i hi
  exact ⟨by rw [hx (i * 2) (by omega)]; exact p0, by rw [Nat.add_assoc, hx (i * 2 + 1) (by omega)]; exact p1⟩
noncomputable def cutL (x : ByteArray) (L : Row) : Row := L.filter fun p => !(p.1.toList == x.toList)
set_option maxRecDepth 100000 in
set_option maxHeartbeats 2000000 in
theorem ref_cut (v : Value) (L : Row) (x : ByteArray) (w : World) (h : PairAt w v L) (hn : L.length ≤ 1000000) :
    Calls Try.prog 26 #[v, .string x] w fun e w' => ∃ v', e = .returned v' ∧ PairOff (fun k => k < w.heap.size) w' v' (cutL x L) ∧ Below w.heap.size w w' := by
  obtain ⟨ao, cap, rfl, hlc, hcm, hcell⟩ := h
  have HC := Lib.hid hcell
  obtain ⟨n, hnn⟩ : ∃ n, n = L.length := ⟨_, rfl⟩
  rw [← hnn] at hn hlc ⊢
  have HL := Lib.hid hnn
  clear hcell hnn
  go_enter Try.func26, Try.ntmps26
  go_wp2_with fail
  have hz0 : SlIs (w.alloc (.cells #[] 50)) w.heap.size 50 2 (.slice (some ⟨w.heap.size, 0, none⟩) 0 0) 0 (pcells []) := SlIs.made (BlkIs.new _ _ _) (Nat.le_refl _) rfl (by decide)
  have H0 := Lib.hid (And.intro hz0 ((Below.refl w.heap.size w).alloc (Nat.le_refl _) (.cells #[] 50)))
  clear hz0
  go_loopw [5, 6] (fun p i wr => ∃ (k m c1 : Nat) (ao1 : Option Addr), p = .slice ao1 m c1 ∧ i = .int .i64 (k : Int) ∧ k ≤ n ∧ m ≤ k ∧
      Hid (∃ M, M = cutL x (L.take k) ∧ M.length = m ∧ SlIs wr w.heap.size 50 2 (.slice ao1 m c1) m (pcells M)) ∧ Hid (Below w.heap.size w wr)) (fun _ i _ => n - (intOf i).toNat)
  case atStart => exact ⟨0, 0, 0, _, rfl, rfl, Nat.zero_le _, Nat.le_refl _, Lib.hid ⟨[], by simp [cutL], rfl, H0.out.1⟩, Lib.hid H0.out.2⟩
  case round =>
    obtain ⟨k, m, c1, ao1, rfl, rfl, hkl, hmk, HM, HB⟩ := hrel
    clear H0
    rcases Nat.lt_or_ge k n with hlt | hge
    · have ki : (k : Int) < n := by omega
      have hkL : k < L.length := by rw [← HL.out]; exact hlt
      obtain ⟨bb, off, rfl, hblt, hcell⟩ := HC.out (by omega)
      obtain ⟨q0, q1⟩ := hcell k hkL
      rw [← HB.out.cell hblt] at q0 q1
      obtain ⟨y, hy⟩ : ∃ y, y = L[k].1 := ⟨_, rfl⟩
      obtain ⟨u, hu⟩ : ∃ u, u = L[k].2 := ⟨_, rfl⟩
      rw [← hy] at q0
      rw [← hu] at q1
      have hcut : cutL x (L.take (k + 1)) = cutL x (L.take k) ++ (if (y.toList == x.toList) = true then [] else [(y, u)]) := by
        unfold cutL
        rw [take_snoc hkL, List.filter_append, hy, hu]
        congr 1
        cases hh : (L[k].1.toList == x.toList) <;> simp [hh]
      have HF := Lib.hid hcut
      clear hcell hy hu hcut
      cases hh : (y.toList == x.toList)
      · rw [hh] at HF
        obtain ⟨M, hM, hml, hs⟩ := HM.out
        have HS := Lib.hid hs
        have HI := Lib.hid (And.intro hM hml)
        have hbw := HB.out
        have hzz := hbw.size
        clear hs hM hml HM
        have hh2 : (y.toList != x.toList) = true := by rw [bne, hh]; rfl
        go_wp2_with (refine wpList_append_sl rfl _ _ _ 35 (by rfl) el_pair (base := w.heap.size) (.slice ao1 m c1) m (pcells M) (by rfl) (HS.out.alloc _) _ 1 [Value.string y, Value.int .i64 u] (by rfl) (SrcIs.own Try.underlying35 (SlIs.made (base := 0) (BlkIs.new _ _ _) (Nat.zero_le _) rfl (by decide))) (pcells_one y u) (by unfold maxLen; omega) (by omega) (by have := hbw.size; simp; omega) ?_)
        intro v3 w3 hs3 hg3 hat3
        obtain ⟨ao2, c2, rfl, -, -, -⟩ := hs3.form
        have hb3 := ((HB.out.alloc hzz (.cells #[.string y, .int .i64 u] 50)).grown hg3 (by simp; omega) fun j hj => ((HS.out.alloc (.cells #[.string y, .int .i64 u] 50)).lt j hj).1)
        have H3 := Lib.hid (And.intro hs3 hb3)
        clear hs3 hg3 hat3 hb3 hbw hzz
        go_wp2_with fail
        have hs3 := H3.out.1
        rw [show [Value.string y, Value.int .i64 u] = pcells [(y, u)] from rfl, ← pcells_app] at hs3
        exact ⟨⟨k + 1, m + 1, c2, ao2, rfl, by simp, by omega, by omega, Lib.hid ⟨_, by rw [HF.out, HI.out.1]; simp, by simp [HI.out.2], hs3⟩, Lib.hid H3.out.2⟩, by simp [intOf]; omega⟩
      · rw [hh] at HF
        have hh2 : (y.toList != x.toList) = false := by rw [bne, hh]; rfl
        go_wp2_with fail
        refine ⟨⟨k + 1, m, c1, ao1, rfl, by simp, by omega, by omega, Lib.hid ?_, HB⟩, by simp [intOf]; omega⟩
        obtain ⟨M, hM, hml, hs⟩ := HM.out
        exact ⟨M, by rw [HF.out, hM]; simp, hml, hs⟩
    · have ki : decide ((k : Int) < n) = false := decide_eq_false (by omega)
      obtain rfl : k = n := by omega
      go_wp2_with fail
      go_ret
      obtain ⟨M, hM, hml, hs⟩ := HM.out
      rw [HL.out, List.take_length] at hM
      rw [← hml] at hs ⊢
      rw [← hM]
      exact ⟨_, rfl, PairOff.of_sl hs, HB.out⟩
end Go.Proofs.Ytckhekkdidfefaa.Set
