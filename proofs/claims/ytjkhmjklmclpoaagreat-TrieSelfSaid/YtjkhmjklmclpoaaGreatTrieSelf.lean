/- THE LAW TrieSelf, walked: a set draws nothing from itself; from few it draws what it lacks. Printed by gen_self.py. (Layer 10.) -/
import Derived.Test.YtjkhmjklmclpoaaGreatTrL
namespace Go.Proofs.YtjkhmjklmclpoaaGreat.Tr
set_option linter.unusedVariables false
set_option linter.unusedSimpArgs false
open Go.RowKit Go.Lib
open Set (StrAt scells El Rise)
theorem mk_bytes (w : World) : (Instr.makeSlice 40 (.int .i64 29) (.int .i64 29)).run Tryz.prog w = .ok (.slice (some ⟨w.heap.size, 0, none⟩) 29 29) (w.alloc (.cells (Array.replicate 29 (.int .u8 0)) 5)) := by
  obtain ⟨i, hi, z0, z1, z2⟩ := info_parts Bld.infoU8
  have := run_makeSlice (P := Tryz.prog) (w := w) 40 5 i (.int .u8 0) Tryz.underlying40 hi z0 .i64 .i64 29 29 (by decide) (by decide) (by rw [z1]; decide) (by rw [z2]; decide) (by decide)
  rw [z1] at this
  have e : madeCells (Value.int IntKind.u8 0).cells (Int.toNat 29 * 1) = Array.replicate 29 (.int .u8 0) := by kernel_rfl
  rw [e] at this
  exact this
theorem zeros_text (W : World) (b n : Nat) (hb : BlkIs W b 5 (Array.replicate n (.int .u8 0))) (hn : n ≤ 1000) :
    (convert 40 9 (.slice (some ⟨b, 0, none⟩) n n)).run Tryz.prog W = .ok (.string ⟨(List.replicate n (0 : UInt8)).toArray⟩) W := by
  have hsl : SlIs W 0 5 1 (.slice (some ⟨b, 0, none⟩) n n) n (bcells (List.replicate n 0)) := by
    have := SlIs.made (n := n) (size := 1) (base := 0) hb (Nat.zero_le _) (by simp) (by unfold maxLen; omega)
    have e : bcells (List.replicate n 0) = (Array.replicate n (.int .u8 0 : Value)).toList := by
      simp [bcells]
    rw [e]
    exact this
  exact SlIs.text (P := Tryz.prog) (dst := 9) Tryz.underlying40 Tryz.underlying5 Tryz.underlying9 hsl
theorem three_text (W : World) (b : Nat) (p0 p1 p2 : UInt8) (hb : BlkIs W b 37 #[.int .u8 (p0.toNat : Int), .int .u8 (p1.toNat : Int), .int .u8 (p2.toNat : Int)]) :
    (convert 40 9 (.slice (some ⟨b, 0, none⟩) 3 3)).run Tryz.prog W = .ok (.string ⟨#[p0, p1, p2]⟩) W := by
  have := run_convert_bytes_back (P := Tryz.prog) W 40 9 5 ⟨b, 0, none⟩ 3 [p0, p1, p2] Tryz.underlying40 Tryz.underlying5 Tryz.underlying9 (fun j hj => by
    rw [Addr.add_lit, Nat.zero_add, hb.cell j]
    match j, hj with
    | 0, _ => rfl
    | 1, _ => rfl
    | 2, _ => rfl)
  exact this
theorem hex_pfx (x : ByteArray) (k : Nat) (hk : k ≤ 64) : pfxB ((hexS x).extract 0 k) = true ∧ ((hexS x).extract 0 k).size = k := by
  have hz : (hexS x).size = 64 := by simp [hexS, ByteArray.size, hexL_length]
  have hs : ((hexS x).extract 0 k).size = k := by rw [ByteArray.size_extract]; omega
  refine ⟨?_, hs⟩
  unfold pfxB
  rw [hs, decide_eq_true hk, Bool.true_and]
  refine dgOk_iff.2 fun i hi => ?_
  have hi2 : i < k := by omega
  have e : ((hexS x).extract 0 k)[i]'hi = sgn (nib x i) := by
    rw [ByteArray.getElem_extract]
    simp only [Nat.zero_add]
    have : (hexL x 64)[i]'(by rw [hexL_length]; omega) = sgn (nib x i) := by simp [hexL]
    exact this
  rw [e]
  exact sgn_dg ⟨nib x i, nib_lt x i⟩
/-- From itself a set draws nothing. -/
theorem self_none {a : List ByteArray} {p : ByteArray} (h : IsSet a) (hp : pfxB p = true) (hn : a.length ≤ 1000000) :
    drawE a (cellC (belowL a p) p) = 0 ∧ drawL a (cellC (belowL a p) p) = [] ∧ drawA a (cellC (belowL a p) p) = [] := by
  have hE : drawE a (cellC (belowL a p) p) = 0 := by unfold drawE; rw [holds_true h]; exact chk_cell h hp hn
  refine ⟨hE, ?_, ?_⟩
  · unfold drawL
    rw [if_pos hE]
    unfold lacksL
    rw [List.filter_eq_nil_iff]
    intro x hx
    have hxa : x ∈ a := by
      rw [cellC_ids] at hx
      split at hx
      · exact (List.mem_filter.1 hx).1
      · cases hx
    rw [Set.has_true hxa]
    simp
  · unfold drawA
    rw [if_pos hE, cellC_kids]
    by_cases h8 : (belowL a p).length ≤ 8
    · rw [cellS_few h8]; rfl
    · have hlt := many_short h hp h8
      have hk := kids_are h hlt h8
      have hk16 : (cellS 65 p.size (belowL a p)).2.length = 16 := by rw [hk]; simp
      have key : ∀ k, k ≤ 16 → asksU a (cellC (belowL a p) p) k = [] := by
        intro k
        induction k with
        | zero => intro _; rfl
        | succ k ih =>
          intro hk1
          rw [asksU_succ, ih (by omega), cellC_kids, cellC_pre, hk]
          rw [getElem!_pos ((List.range 16).map fun d => mineS a (ext p d)) k (by simp; omega)]
          simp
      rw [hk16]
      exact key 16 (Nat.le_refl _)
theorem few_draw {a b : List ByteArray} (ha : IsSet a) (hb : IsSet b) (h8 : b.length ≤ 8) :
    drawE a (cellC b ⟨#[]⟩) = 0 ∧ drawL a (cellC b ⟨#[]⟩) = b.filter (fun x => !(Set.has a x)) ∧ drawA a (cellC b ⟨#[]⟩) = [] := by
  have hc := chk_cell (p := ⟨#[]⟩) hb pfx_empty (by omega)
  rw [below_empty (fun y hy => hb.size hy)] at hc
  have hE : drawE a (cellC b ⟨#[]⟩) = 0 := by unfold drawE; rw [holds_true ha]; exact hc
  refine ⟨hE, ?_, ?_⟩
  · unfold drawL
    rw [if_pos hE]
    unfold lacksL
    rw [cellC_ids, if_pos h8]
  · unfold drawA
    rw [if_pos hE, cellC_kids, cellS_few h8]
    rfl
theorem isOf_self {l m : List ByteArray} (h : Set.IsOf l m) (hl : Rise l) : m = l := Set.rise_ext h.1 hl h.2
theorem part_filter (l a : List ByteArray) : l.filter (Set.partOf a false) = l.filter fun x => !(Set.has a x) := by
  apply List.filter_congr
  intro x _
  unfold Set.partOf
  cases Set.has a x <;> rfl
set_option maxRecDepth 100000 in
set_option maxHeartbeats 8000000 in
theorem self_any (ao bo : Option Addr) (n na m mb : Nat) (f g : Nat → List UInt8) (p0 p1 p2 : UInt8) (w : World) (hf : B32At w ao n f) (hg : B32At w bo m g) :
    Calls Tryz.prog 8 #[.slice ao n na, .slice bo m mb, .agg #[.int .u8 (p0.toNat : Int), .int .u8 (p1.toNat : Int), .int .u8 (p2.toNat : Int)]] w fun e w' => e = .returned (.bool true) ∧ Below w.heap.size w w' := by
  obtain ⟨W0, hW0⟩ : ∃ W0, W0 = w.alloc (.cells #[.int .u8 (p0.toNat : Int), .int .u8 (p1.toNat : Int), .int .u8 (p2.toNat : Int)] 37) := ⟨_, rfl⟩
  obtain ⟨B, hB⟩ : ∃ B, B = w.heap.size := ⟨_, rfl⟩
  have K0 := Lib.hid (show BlkIs W0 B 37 #[.int .u8 (p0.toNat : Int), .int .u8 (p1.toNat : Int), .int .u8 (p2.toNat : Int)] by rw [hW0, hB]; exact BlkIs.new _ _ _)
  have HW := Lib.hid (show Below w.heap.size w W0 by rw [hW0]; exact (Below.refl _ _).alloc (Nat.le_refl _) _)
  have HF := Lib.hid (hf.later HW.out)
  have HG := Lib.hid (hg.later HW.out)
  have A := Lib.hid (awake_any W0)
  have hn63 := hf.1
  have hm63 := hg.1
  have H0 := Lib.hid (And.intro hW0 hB)
  clear hW0 hB hf hg
  go_enter Tryz.func8, Tryz.ntmps8
  go_upto_region 1 with (fail)
  rw [← H0.out.1, ← H0.out.2]
  clear H0
  go_wp2_with fail
  refine A.out.mono ?_
  rintro e w1 ⟨rfl, hb1⟩
  have B1 := Lib.hid hb1
  clear A hb1
  by_cases h80 : (80 : Int) < (n : Int)
  · go_wp2_with fail
    go_ret
    exact ⟨rfl, HW.out.trans (B1.out.mono HW.out.size)⟩
  have h80' : decide ((80 : Int) < (n : Int)) = false := decide_eq_false h80
  have h80n : decide (80 < n) = false := decide_eq_false (by omega)
  have HN80 := Lib.hid (show n ≤ 80 by omega)
  clear h80
  by_cases h8 : (8 : Int) < (m : Int)
  · have h8n : 8 < m := by omega
    go_wp2_with fail
    go_ret
    exact ⟨rfl, HW.out.trans (B1.out.mono HW.out.size)⟩
  have h8' : decide ((8 : Int) < (m : Int)) = false := decide_eq_false h8
  have h8n : decide (8 < m) = false := decide_eq_false (by omega)
  have HM8 := Lib.hid (show m ≤ 8 by omega)
  clear h8
  have SA := Lib.hid (sorted_any ao n na f w1 (HF.out.later B1.out) (by have := HN80.out; omega))
  go_wp2_with fail
  refine SA.out.mono ?_
  rintro e w2 ⟨ua, a, rfl, hsa, hseta, hb2⟩
  have B2 := Lib.hid (B1.out.trans (hb2.mono B1.out.size))
  have SAt := Lib.hid (StrAt.of_sl hsa)
  have HSA := Lib.hid (show IsSet a ∧ a.length ≤ 80 from ⟨hseta.1, Nat.le_trans hseta.2.2 HN80.out⟩)
  obtain ⟨oa, ca, rfl, -, -, -⟩ := hsa.form
  clear SA hsa hseta hb2
  have SB := Lib.hid (sorted_any bo m mb g w2 (HG.out.later B2.out) (by have := HM8.out; omega))
  go_wp2_with fail
  refine SB.out.mono ?_
  rintro e w3 ⟨ub, b, rfl, hsb, hsetb, hb3⟩
  have B3 := Lib.hid (B2.out.trans (hb3.mono B2.out.size))
  have SBt := Lib.hid (StrAt.of_sl hsb)
  have SAt := Lib.hid (SAt.out.later hb3)
  have HSB := Lib.hid (show IsSet b ∧ b.length ≤ 8 from ⟨hsetb.1, Nat.le_trans hsetb.2.2 HM8.out⟩)
  obtain ⟨ob, cb, rfl, -, -, -⟩ := hsb.form
  clear SB hsb hsetb hb3
  go_upto_region 7 with (fail)
  have K3 := K0.out.below B3.out K0.out.lt
  have hbd : Below w3.heap.size w3 w3.drew := ⟨rfl, rfl, rfl, Nat.le_refl _, fun _ _ => rfl⟩
  obtain ⟨X, hX⟩ : ∃ X : ByteArray, X = ⟨#[p0, p1, p2]⟩ ++ ⟨(List.replicate 29 (0 : UInt8)).toArray⟩ := ⟨_, rfl⟩
  obtain ⟨P3, hP3⟩ : ∃ P : ByteArray, P = ⟨#[p0, p1, p2]⟩ := ⟨_, rfl⟩
  obtain ⟨Z29, hZ29⟩ : ∃ P : ByteArray, P = ⟨(List.replicate 29 (0 : UInt8)).toArray⟩ := ⟨_, rfl⟩
  have hz3 : P3.size = 3 := by rw [hP3]; rfl
  have hz29 : Z29.size = 29 := by rw [hZ29]; simp [ByteArray.size]
  have hXX : P3 ++ Z29 = X := by rw [hX, hP3, hZ29]
  have hXz : X.size = 32 := by rw [← hXX, ByteArray.size_append, hz3, hz29]
  have TH := Lib.hid (fun W hb => three_text W B p0 p1 p2 hb)
  have ZR := Lib.hid (fun W b hb => zeros_text W b 29 hb (by decide))
  have MK := mk_bytes
  rw [← hP3] at TH
  rw [← hZ29] at ZR
  have HX := Lib.hid (fun W => hex_any X hXz W)
  obtain ⟨k, hk⟩ : ∃ k, k = p2.toNat % 5 := ⟨_, rfl⟩
  have hk5 : k < 5 := by omega
  have hk64 : k ≤ 64 := by omega
  have q1 : (k : Int) ≤ 64 := by omega
  have q2 : (0 : Int) ≤ (k : Int) := by omega
  have q3 : ¬ (9223372036854775807 < P3.size + Z29.size) := by omega
  have hkm : (p2.toNat : Int).tmod 5 = (k : Int) := by rw [Int.tmod_eq_emod_of_nonneg (by omega), hk]; omega
  have hkw : IntKind.i64.wrap (p2.toNat : Int) = (p2.toNat : Int) := IntWalk.i64_in _ (by have := p2.toNat_lt; omega)
  have hkw2 : wrap64 (p2.toNat : Int) = (p2.toNat : Int) := by unfold wrap64; have := p2.toNat_lt; omega
  obtain ⟨Hx, hHx⟩ : ∃ H, H = hexS X := ⟨_, rfl⟩
  have hpq : pfxB (Hx.extract 0 k) = true ∧ (Hx.extract 0 k).size = k := by rw [hHx]; exact hex_pfx X k hk64
  have hpf := hpq.1
  have hpz := hpq.2
  rw [← hHx] at HX
  have hHz : Hx.size = 64 := by rw [hHx]; simp [hexS, ByteArray.size, hexL_length]
  obtain ⟨pp, hpp⟩ : ∃ p, p = Hx.extract 0 k := ⟨_, rfl⟩
  rw [← hpp] at hpf hpz
  have hpp2 := hpp.symm
  have HPF := Lib.hid (And.intro hpf hpz)
  clear hX hXz hP3 hZ29 hk hpf hpz hHx hpp hbd hpq
  refine wp_region_held_drew (S := fun W => BlkIs W B 37 #[.int .u8 (p0.toNat : Int), .int .u8 (p1.toNat : Int), .int .u8 (p2.toNat : Int)]) (by kernel_rfl) K3 (fun hHeld => ?_)
  obtain ⟨W4, hW4⟩ : ∃ W4, W4 = w3.drew := ⟨_, rfl⟩
  have B34 := Lib.hid (show Below w3.heap.size w3 W4 by rw [hW4]; exact ⟨rfl, rfl, rfl, Nat.le_refl _, fun _ _ => rfl⟩)
  rw [← hW4] at hHeld ⊢
  clear hW4
  refine wpAnyH_take (i := 0) (v := .slice (some ⟨B, 0, none⟩) 3 3) rfl (by kernel_rfl) (by kernel_rfl) (by kernel_rfl) (fun _ _ _ h => h) (Or.inl ⟨by rfl, fun w hSw => ?_⟩) (by assumption) ?_
  · obtain hB3 := hSw
    go_simp
  simp only [Act.put, List.setIfInBounds_toArray, List.set_cons_zero, List.set_cons_succ]
  refine wpAnyH_take (i := 1) (v := .string P3) rfl (by kernel_rfl) (by kernel_rfl) (by kernel_rfl) (fun _ _ _ h => h) (Or.inl ⟨by rfl, fun w hSw => ?_⟩) (by assumption) ?_
  · have hconv := TH.out w hSw
    go_simp
  simp only [Act.put, List.setIfInBounds_toArray, List.set_cons_zero, List.set_cons_succ]
  refine wpAnyH_take (i := 6) (v := .pointer (some ⟨B, 2, none⟩)) rfl (by kernel_rfl) (by kernel_rfl) (by kernel_rfl) (fun _ _ _ h => h) (Or.inl ⟨by rfl, fun w hSw => ?_⟩) (by assumption) ?_
  · have hc2 : w.cell? ⟨B, 2, none⟩ = some (.int .u8 (p2.toNat : Int)) := BlkIs.cell hSw 2
    go_simp
  simp only [Act.put, List.setIfInBounds_toArray, List.set_cons_zero, List.set_cons_succ]
  refine wpAnyH_take (i := 7) (v := .int .u8 (p2.toNat : Int)) rfl (by kernel_rfl) (by kernel_rfl) (by kernel_rfl) (fun _ _ _ h => h) (Or.inl ⟨by rfl, fun w hSw => ?_⟩) (by assumption) ?_
  · have hc2 : w.cell? ⟨B, 2, none⟩ = some (.int .u8 (p2.toNat : Int)) := BlkIs.cell hSw 2
    go_simp
  simp only [Act.put, List.setIfInBounds_toArray, List.set_cons_zero, List.set_cons_succ]
  refine wpAnyH_take (i := 8) (v := .int .i64 (p2.toNat : Int)) rfl (by kernel_rfl) (by kernel_rfl) (by kernel_rfl) (fun _ _ _ h => h) (Or.inl ⟨by rfl, fun w hSw => ?_⟩) (by assumption) ?_
  · have hc2 : w.cell? ⟨B, 2, none⟩ = some (.int .u8 (p2.toNat : Int)) := BlkIs.cell hSw 2
    go_simp
  simp only [Act.put, List.setIfInBounds_toArray, List.set_cons_zero, List.set_cons_succ]
  refine wpAnyH_take (i := 9) (v := .int .i64 (k : Int)) rfl (by kernel_rfl) (by kernel_rfl) (by kernel_rfl) (fun _ _ _ h => h) (Or.inl ⟨by rfl, fun w hSw => ?_⟩) (by assumption) ?_
  · have hc2 : w.cell? ⟨B, 2, none⟩ = some (.int .u8 (p2.toNat : Int)) := BlkIs.cell hSw 2
    go_simp
  simp only [Act.put, List.setIfInBounds_toArray, List.set_cons_zero, List.set_cons_succ]
  refine wpAnyH_ready (rs := [2]) (by kernel_rfl) (by simp) ?_
  refine AllReadyH.cons rfl (fun K hK => ?_) AllReadyH.nil
  go_simp
  obtain ⟨N, hN⟩ : ∃ N, N = W4.heap.size := ⟨_, rfl⟩
  obtain ⟨W5, hW5⟩ : ∃ W5, W5 = W4.alloc (.cells (Array.replicate 29 (.int .u8 0)) 5) := ⟨_, rfl⟩
  have K5 := ZR.out W5 N (by rw [hW5, hN]; exact BlkIs.new _ _ _)
  have h45 : Below W4.heap.size W4 W5 := by rw [hW5]; exact (Below.refl _ _).alloc (Nat.le_refl _) _
  have B35 := Lib.hid (B34.out.trans (h45.mono B34.out.size))
  have B5 := Lib.hid (B3.out.trans (B35.out.mono B3.out.size))
  rw [← hN, ← hW5]
  refine hK.out _ _ ?_ (fun hHeld => ?_)
  · exact K0.out.below B5.out K0.out.lt
  clear hK K hN hW5 h45 MK
  refine wpAnyH_ready (rs := [3]) (by kernel_rfl) (by simp) ?_
  refine AllReadyH.cons rfl (fun K hK => ?_) AllReadyH.nil
  go_simp
  refine hK.out _ _ ?_ (fun hHeld => ?_)
  · exact K0.out.below B5.out K0.out.lt
  clear hK K K5
  refine wpAnyH_take (i := 4) (v := .string X) rfl (by kernel_rfl) (by kernel_rfl) (by kernel_rfl) (fun _ _ _ h => h) (Or.inl ⟨by rfl, fun w hSw => ?_⟩) (by assumption) ?_
  · skip
    go_simp
  simp only [Act.put, List.setIfInBounds_toArray, List.set_cons_zero, List.set_cons_succ]
  refine wpAnyH_ready (rs := [5]) (by kernel_rfl) (by simp) ?_
  refine AllReadyH.cons rfl (fun K hK => ?_) AllReadyH.nil
  go_simp
  go_wp2_with (
    go_at_call 19
    refine (HX.out W5).mono ?_
    rintro e w6 ⟨rfl, hb6⟩
    have B6 := Lib.hid (B5.out.trans (hb6.mono B5.out.size))
    have B36 := Lib.hid (B35.out.trans (hb6.mono B35.out.size))
    clear hb6)
  refine hK.out _ _ ?_ (fun hHeld => ?_)
  · exact K0.out.below B6.out K0.out.lt
  clear hK K HX
  refine wpAnyH_take (i := 10) (v := .string pp) rfl (by kernel_rfl) (by kernel_rfl) (by kernel_rfl) (fun _ _ _ h => h) (Or.inl ⟨by rfl, fun w hSw => ?_⟩) (by assumption) ?_
  · skip
    go_simp
  simp only [Act.put, List.setIfInBounds_toArray, List.set_cons_zero, List.set_cons_succ]
  refine wpAnyH_take (i := 11) (v := .string pp) rfl (by kernel_rfl) (by kernel_rfl) (by kernel_rfl) (fun _ _ _ h => h) (Or.inl ⟨by rfl, fun w hSw => ?_⟩) (by assumption) ?_
  · skip
    go_simp
  simp only [Act.put, List.setIfInBounds_toArray, List.set_cons_zero, List.set_cons_succ]
  refine wpAnyH_done (by kernel_rfl) ?_ _
  clear hHeld hkm hkw hkw2 hz3 hz29 hXX hHz hpp2 q1 q2 q3 K3
  have SA6 := Lib.hid (SAt.out.later B36.out)
  have SB6 := Lib.hid (SBt.out.later B36.out)
  have hpp6 : (pp.size : Int) ≤ 9223372036854775807 := by have := HPF.out.2; omega
  have LK := Lib.hid (look_any _ a pp w6 SA6.out (by have := HSA.out.2; omega) hpp6)
  have hlk := look_ok HSA.out.1 HPF.out.1
  obtain ⟨hs1, hs2, hs3⟩ := self_none HSA.out.1 HPF.out.1 (by have := HSA.out.2; omega)
  have hcr : (cellC (belowL a pp) pp).ids.length ≤ 1000000 ∧ (cellC (belowL a pp) pp).kids.length ≤ 1000000 := by
    obtain ⟨_, h2⟩ := chk_ok (chk_cell HSA.out.1 HPF.out.1 (by have := HSA.out.2; omega))
    rcases h2 with ⟨a1, _, a3, _⟩ | ⟨a1, a2, _⟩
    · rw [a1]; exact ⟨by omega, by simp⟩
    · rw [a1, a2]; exact ⟨by simp, by omega⟩
  have hpre : (cellC (belowL a pp) pp).pre.size ≤ 64 := by rw [cellC_pre]; have := HPF.out.2; omega
  obtain ⟨c, hc⟩ : ∃ c, c = cellC (belowL a pp) pp := ⟨_, rfl⟩
  rw [← hc] at hlk hs1 hs2 hs3 hcr hpre
  have HC := Lib.hid (And.intro hlk (And.intro hs1 (And.intro hs2 (And.intro hs3 (And.intro hcr hpre)))))
  clear hlk hs1 hs2 hs3 hcr hpre hc hpp6
  go_wp2_with fail
  refine LK.out.mono ?_
  rintro e w7 ⟨v, rfl, ⟨vi, vk, hv, hi7, hk7⟩, hb7⟩
  rw [HC.out.1.1] at hv hi7 hk7
  rw [HC.out.1.2]
  subst hv
  unfold aggC
  have B7 := Lib.hid (B6.out.trans (hb7.mono B6.out.size))
  have B67 := Lib.hid hb7
  obtain ⟨oi, ci, rfl, -, -, -⟩ := id hi7
  obtain ⟨ok, ck, rfl, -, -, -⟩ := id hk7
  obtain ⟨G, hG⟩ : ∃ G, G = w7.heap.size := ⟨_, rfl⟩
  obtain ⟨W8, hW8⟩ : ∃ W8, W8 = w7.alloc (.cells #[.string c.pre, .int .i64 c.cnt, .string c.sum, .slice oi c.ids.length ci, .slice ok c.kids.length ck] 25) := ⟨_, rfl⟩
  have h78 : Below w7.heap.size w7 W8 := by rw [hW8]; exact (Below.refl _ _).alloc (Nat.le_refl _) _
  have K8 := Lib.hid (show BlkIs W8 G 25 #[.string c.pre, .int .i64 c.cnt, .string c.sum, .slice oi c.ids.length ci, .slice ok c.kids.length ck] by rw [hW8, hG]; exact BlkIs.new _ _ _)
  have B8 := Lib.hid (B7.out.trans (h78.mono B7.out.size))
  have B68 := Lib.hid (B67.out.trans (h78.mono B67.out.size))
  have hGs : w6.heap.size ≤ G := by rw [hG]; exact B67.out.size
  have DR := Lib.hid (draw_any _ a c _ _ W8 (SA6.out.later B68.out) (hi7.later h78) (hk7.later h78) (by have := HSA.out.2; omega) HC.out.2.2.2.2.1.1 HC.out.2.2.2.2.1.2 (by have := HC.out.2.2.2.2.2; omega))
  have H8 := Lib.hid (And.intro hW8 hG)
  have x0 : W8.cell? ⟨G, 0, none⟩ = some (.string c.pre) := K8.out.cell 0
  have x1 : W8.cell? ⟨G, 1, none⟩ = some (.int .i64 c.cnt) := K8.out.cell 1
  have x2 : W8.cell? ⟨G, 2, none⟩ = some (.string c.sum) := K8.out.cell 2
  have x3 : W8.cell? ⟨G, 3, none⟩ = some (.slice oi c.ids.length ci) := K8.out.cell 3
  have x4 : W8.cell? ⟨G, 4, none⟩ = some (.slice ok c.kids.length ck) := K8.out.cell 4
  clear hi7 hk7 hb7 hW8 hG h78 LK
  go_upto_region 9 with (fail)
  rw [← H8.out.1, ← H8.out.2]
  clear H8
  go_wp2_with fail
  refine DR.out.mono ?_
  rintro e w9 ⟨u, v, rfl, hu, hv, hb9⟩
  rw [HC.out.2.1]
  rw [HC.out.2.2.1] at hu
  rw [HC.out.2.2.2.1] at hv
  obtain ⟨o1, c1, rfl, -, -, -⟩ := hu
  obtain ⟨o2, c2, rfl, -, -, -⟩ := hv
  have B9 := Lib.hid (B8.out.trans (hb9.mono B8.out.size))
  have B69 := Lib.hid (B68.out.trans (hb9.mono B68.out.size))
  have K9 := Lib.hid (K8.out.below hb9 K8.out.lt)
  clear DR hb9 x0 x1 x2 x3 x4
  have LK2 := Lib.hid (look_own _ b ⟨#[]⟩ w9 (SB6.out.later B69.out) (by have := HSB.out.2; omega) (by decide))
  have hlk := look_ok (p := ⟨#[]⟩) HSB.out.1 pfx_empty
  rw [below_empty (fun y hy => HSB.out.1.size hy)] at hlk
  obtain ⟨hs1, hs2, hs3⟩ := few_draw HSA.out.1 HSB.out.1 HSB.out.2
  have hcr : (cellC b ⟨#[]⟩).ids.length ≤ 1000000 ∧ (cellC b ⟨#[]⟩).kids.length ≤ 1000000 := by
    rw [cellC_ids, cellC_kids, if_pos HSB.out.2, cellS_few HSB.out.2]
    exact ⟨by have := HSB.out.2; omega, by simp⟩
  have hpre : (cellC b ⟨#[]⟩).pre.size ≤ 64 := by rw [cellC_pre]; decide
  obtain ⟨d, hd⟩ : ∃ c, c = cellC b ⟨#[]⟩ := ⟨_, rfl⟩
  rw [← hd] at hlk hs1 hs2 hs3 hcr hpre
  have HD := Lib.hid (And.intro hlk (And.intro hs1 (And.intro hs2 (And.intro hs3 (And.intro hcr hpre)))))
  clear hlk hs1 hs2 hs3 hcr hpre hd
  go_wp2_with fail
  refine LK2.out.mono ?_
  rintro e w10 ⟨v, rfl, ⟨vi, vk, hv, hi10, hk10⟩, hb10⟩
  rw [HD.out.1.1] at hv hi10 hk10
  rw [HD.out.1.2]
  subst hv
  unfold aggC
  have B10 := Lib.hid (B9.out.trans (hb10.mono B9.out.size))
  have B610 := Lib.hid (B69.out.trans (hb10.mono B69.out.size))
  have K10 := Lib.hid (K9.out.below hb10 K9.out.lt)
  obtain ⟨oj, cj, rfl, -, -, -⟩ := hi10.form
  obtain ⟨ol, cl, rfl, -, -, -⟩ := hk10.form
  have hG9 : G < w9.heap.size := K9.out.lt
  have x0 : w10.cell? ⟨G, 0, none⟩ = some (.string c.pre) := K10.out.cell 0
  have x1 : w10.cell? ⟨G, 1, none⟩ = some (.int .i64 c.cnt) := K10.out.cell 1
  have x2 : w10.cell? ⟨G, 2, none⟩ = some (.string c.sum) := K10.out.cell 2
  have x3 : w10.cell? ⟨G, 3, none⟩ = some (.slice oi c.ids.length ci) := K10.out.cell 3
  have x4 : w10.cell? ⟨G, 4, none⟩ = some (.slice ok c.kids.length ck) := K10.out.cell 4
  have xf : ∀ i, w10.frozen? ⟨G, i, none⟩ = false := fun i => K10.out.free i
  obtain ⟨W11, hW11⟩ : ∃ W11, W11 = (((((w10.setCell ⟨G, 0, none⟩ (.string d.pre)).setCell ⟨G, 1, none⟩ (.int .i64 d.cnt)).setCell ⟨G, 2, none⟩ (.string d.sum)).setCell ⟨G, 3, none⟩ (.slice oj d.ids.length cj)).setCell ⟨G, 4, none⟩ (.slice ol d.kids.length cl)) := ⟨_, rfl⟩
  have K11 := Lib.hid (show BlkIs W11 G 25 #[.string d.pre, .int .i64 d.cnt, .string d.sum, .slice oj d.ids.length cj, .slice ol d.kids.length cl] by rw [hW11]; exact put5 K10.out ⟨_, _, _, _, _, rfl⟩ _ _ _ _ _)
  have B611 := Lib.hid (show Below w6.heap.size w6 W11 by rw [hW11]; exact put5_below B610.out hGs _ _ _ _ _)
  have H11 := Lib.hid hW11
  -- the rows of the second cell lie apart from the box
  have hi11 : StrAt W11 (.slice oj d.ids.length cj) d.ids := by
    rw [hW11]
    exact StrAt.of_sl (own_put5 hi10 hG9 _ _ _ _ _)
  have hk11 : StrAt W11 (.slice ol d.kids.length cl) d.kids := by
    rw [hW11]
    exact StrAt.of_sl (own_put5 hk10 hG9 _ _ _ _ _)
  have DR2 := Lib.hid (draw_any _ a d _ _ W11 (SA6.out.later B611.out) hi11 hk11 (by have := HSA.out.2; omega) HD.out.2.2.2.2.1.1 HD.out.2.2.2.2.1.2 (by have := HD.out.2.2.2.2.2; omega))
  clear hi10 hk10 hi11 hk11 hW11 hb10 LK2
  go_upto_region 13 with (fail)
  rw [← H11.out]
  clear H11 x0 x1 x2 x3 x4 xf
  have x0 : W11.cell? ⟨G, 0, none⟩ = some (.string d.pre) := K11.out.cell 0
  have x1 : W11.cell? ⟨G, 1, none⟩ = some (.int .i64 d.cnt) := K11.out.cell 1
  have x2 : W11.cell? ⟨G, 2, none⟩ = some (.string d.sum) := K11.out.cell 2
  have x3 : W11.cell? ⟨G, 3, none⟩ = some (.slice oj d.ids.length cj) := K11.out.cell 3
  have x4 : W11.cell? ⟨G, 4, none⟩ = some (.slice ol d.kids.length cl) := K11.out.cell 4
  go_wp2_with fail
  refine DR2.out.mono ?_
  rintro e w12 ⟨u, v, rfl, hu, hv, hb12⟩
  rw [HD.out.2.1]
  rw [HD.out.2.2.1] at hu
  rw [HD.out.2.2.2.1] at hv
  obtain ⟨L, hL⟩ : ∃ L, L = b.filter (fun x => !(Set.has a x)) := ⟨_, rfl⟩
  rw [← hL] at hu
  have hLn : L.length ≤ 8 := by rw [hL]; exact Nat.le_trans (List.length_filter_le _ _) HSB.out.2
  obtain ⟨o3, c3, rfl, -, -, -⟩ := id hu
  obtain ⟨o4, c4, rfl, -, -, -⟩ := hv
  have B612 := Lib.hid (B611.out.trans (hb12.mono B611.out.size))
  have SU := Lib.hid hu
  have HL := Lib.hid hL
  clear DR2 hb12 hu hL x0 x1 x2 x3 x4
  have O1 := Lib.hid (Set.of_string _ b w12 (SB6.out.later B612.out) (by have := HSB.out.2; omega))
  go_wp2_with fail
  refine O1.out.mono ?_
  rintro e w13 ⟨g1, kv1, vv1, lb, rfl, hlb, hs1, hb13⟩
  obtain rfl := isOf_self hlb HSB.out.1.rise
  have B613 := Lib.hid (B612.out.trans (hb13.mono B612.out.size))
  have S1 := Lib.hid hs1
  have SU13 := Lib.hid (SU.out.later hb13)
  clear O1 hlb hs1 hb13
  have O2 := Lib.hid (Set.of_string _ a w13 (SA6.out.later B613.out) (by have := HSA.out.2; omega))
  go_wp2_with fail
  refine O2.out.mono ?_
  rintro e w14 ⟨g2, kv2, vv2, la, rfl, hla, hs2, hb14⟩
  obtain rfl := isOf_self hla HSA.out.1.rise
  have B614 := Lib.hid (B613.out.trans (hb14.mono B613.out.size))
  have MI := Lib.hid (Set.minus_string _ g1 _ g2 kv1 vv1 kv2 vv2 lb la w14 (S1.out.later hb14) hs2 (by have := HSB.out.2; omega) (by have := HSA.out.2; omega))
  have SU14 := Lib.hid (SU13.out.later hb14)
  clear O2 hla hs2 hb14
  go_wp2_with fail
  refine MI.out.mono ?_
  rintro e w15 ⟨g3, kv3, vv3, rfl, hs3, hb15⟩
  rw [part_filter, ← HL.out] at hs3
  have B615 := Lib.hid (B614.out.trans (hb15.mono B614.out.size))
  have S3 := Lib.hid hs3
  have SU15 := Lib.hid (SU14.out.later hb15)
  clear MI hs3 hb15
  have hLr : Rise L := S3.out.rise
  have O3 := Lib.hid (Set.of_string _ L w15 SU15.out (by omega))
  go_wp2_with fail
  refine O3.out.mono ?_
  rintro e w16 ⟨g4, kv4, vv4, lu, rfl, hlu, hs4, hb16⟩
  obtain rfl := isOf_self hlu hLr
  have B616 := Lib.hid (B615.out.trans (hb16.mono B615.out.size))
  have S3' := Lib.hid (S3.out.later hb16)
  have LE := Lib.hid (Set.len_string _ g3 kv3 vv3 lu w16 S3'.out)
  have WI := Lib.hid (Set.within_string _ g4 _ g3 kv4 vv4 kv3 vv3 lu lu w16 hs4 S3'.out (by omega) (by omega))
  have hself : lu.filter (Set.partOf lu false) = [] := by
    rw [part_filter, List.filter_eq_nil_iff]
    intro x hx
    rw [Set.has_true hx]
    simp
  rw [hself] at WI
  have HF := Lib.hid (HW.out.trans ((B6.out.trans (B616.out.mono B6.out.size)).mono HW.out.size))
  have zl : ((lu.length : Int) == (lu.length : Int)) = true := by simp
  clear O3 hlu hs4 hb16 hself hLr
  go_wp2_with fail
  refine LE.out.mono ?_
  rintro e _ ⟨rfl, rfl⟩
  clear LE
  go_wp2_with fail
  refine WI.out.mono ?_
  rintro e w17 ⟨rfl, hb17⟩
  have HF2 := Lib.hid (HF.out.trans (hb17.mono HF.out.size))
  clear WI hb17
  go_wp2_with fail
  go_ret
  exact ⟨rfl, HF2.out⟩
theorem self_arg (ao : Option Addr) (n na : Nat) (f : Nat → List UInt8) (bo : Option Addr) (m mb : Nat) (g : Nat → List UInt8) (pr : List UInt8) (w : World) (hf : B32At w ao n f) (hg : B32At w bo m g) (hp : pr.length = 3) :
    Calls Tryz.prog 8 #[.slice ao n na, .slice bo m mb, .agg (bcells pr).toArray] w fun e w' => e = .returned (.bool true) ∧ Below w.heap.size w w' := by
  match pr, hp with
  | [p0, p1, p2], _ => exact self_any ao bo n na m mb f g p0 p1 p2 w hf hg
end Go.Proofs.YtjkhmjklmclpoaaGreat.Tr
