/- THE LAW TrieSpoilt, walked: a right cell of which a field is changed is told. (Layer 10.) -/
import Derived.Test.YtjkhmjklmclpoaaGreatTrK
namespace Go.Proofs.YtjkhmjklmclpoaaGreat.Tr
set_option linter.unusedVariables false
set_option linter.unusedSimpArgs false
open Go.RowKit Go.Lib
open Set (StrAt scells El Rise)
theorem chk_other_sum {c : Cp} (h : chk c = 0) {S : ByteArray} (hS : S ≠ c.sum) : chk { c with sum := S } = 20 := by
  obtain ⟨hp, h⟩ := chk_ok h
  have hcn : 0 ≤ c.cnt ∧ c.cnt ≤ 1073741824 := by
    rename_i h0
    unfold chk at h0
    by_cases h1 : pfxB c.pre = false ∨ c.cnt < 0 ∨ 1073741824 < c.cnt
    · rw [if_pos h1] at h0; omega
    · constructor
      · exact Int.not_lt.1 fun hh => h1 (Or.inr (Or.inl hh))
      · exact Int.not_lt.1 fun hh => h1 (Or.inr (Or.inr hh))
  have h1 : ¬ (pfxB c.pre = false ∨ c.cnt < 0 ∨ 1073741824 < c.cnt) := by
    rw [hp]
    rintro (h | h | h)
    · cases h
    · omega
    · omega
  rcases h with ⟨a1, a2, a3, a4, a5, a6⟩ | ⟨a1, a2, a3, a4, a5, a6⟩
  · rw [chk_leaf (c := { c with sum := S }) h1 (by dsimp only; omega)]
    unfold leafChk
    rw [if_neg (by
      dsimp only
      rintro (h | h | h | h)
      · exact h a4
      · rw [a1] at h; simp at h
      · exact h a2
      · exact h (by omega)), if_pos (by dsimp only; rw [← a6]; exact hS)]
  · rw [chk_sum (c := { c with sum := S }) h1 (by dsimp only; omega) (by
      dsimp only
      rintro (h | h | h | h)
      · rw [a1] at h; simp at h
      · exact h a2
      · rw [all32_iff.2 a3] at h; cases h
      · omega), if_neg (by dsimp only; rw [← a5]; exact hS)]
theorem chk_other_cnt {c : Cp} (h : chk c = 0) (h8 : c.cnt ≤ 8) {n : Int} (hn : c.cnt < n) : chk { c with cnt := n } = 4 := by
  obtain ⟨hp, h⟩ := chk_ok h
  rcases h with ⟨a1, a2, a3, a4, a5, a6⟩ | ⟨a1, a2, a3, a4, a5, a6⟩
  · by_cases h1 : pfxB c.pre = false ∨ n < 0 ∨ 1073741824 < n
    · exact chk_form (c := { c with cnt := n }) h1 rfl
    by_cases h2 : n ≤ 8
    · rw [chk_leaf (c := { c with cnt := n }) h1 h2]
      exact leafChk_form (Or.inl (by dsimp only; omega)) rfl
    · exact chk_kids (c := { c with cnt := n }) h1 h2 (Or.inr (Or.inl (by dsimp only; rw [a1]; simp))) rfl
  · omega
theorem chk_other_pre {c : Cp} {p : ByteArray} (hp : pfxB p = false) : chk { c with pre := p } = 4 := chk_form (c := { c with pre := p }) (Or.inl hp) rfl
theorem idx_in (x : Int) {i : Nat} (h0 : 0 < i) (h : i ≤ 1000) : ∃ j : Nat, j < i ∧ IntKind.i64.wrap ((IntKind.u64.wrap x).tmod (i : Int)) = (j : Int) := by
  have h1 : 0 ≤ IntKind.u64.wrap x := by
    show 0 ≤ x % _
    exact Int.emod_nonneg _ (by decide)
  rw [Int.tmod_eq_emod_of_nonneg h1]
  have h2 := Int.emod_nonneg (IntKind.u64.wrap x) (show (i : Int) ≠ 0 by omega)
  have h3 := Int.emod_lt_of_pos (IntKind.u64.wrap x) (show 0 < (i : Int) by omega)
  refine ⟨((IntKind.u64.wrap x) % (i : Int)).toNat, by omega, ?_⟩
  rw [IntWalk.i64_in _ (by omega)]
  omega
set_option maxRecDepth 100000 in
set_option maxHeartbeats 4000000 in
theorem spoilt_any (ao : Option Addr) (n cap : Nat) (f : Nat → List UInt8) (at_ : Int) (by_ : UInt8) (w : World) (h : B32At w ao n f) :
    Calls Tryz.prog 6 #[.slice ao n cap, .int .i64 at_, .int .u8 (by_.toNat : Int)] w fun e w' => e = .returned (.bool true) ∧ Below w.heap.size w w' := by
  have A := Lib.hid (awake_any w)
  have HF := Lib.hid h
  have hn63 := h.1
  clear h
  go_enter Tryz.func6, Tryz.ntmps6
  go_wp2_with fail
  refine A.out.mono ?_
  rintro e w1 ⟨rfl, hb1⟩
  have HB1 := Lib.hid hb1
  have HF1 := Lib.hid (HF.out.later hb1)
  clear A hb1 HF
  by_cases h80 : (80 : Int) < (n : Int)
  · go_wp2_with fail
    go_ret
    exact ⟨rfl, HB1.out⟩
  have h80' : decide ((80 : Int) < (n : Int)) = false := decide_eq_false h80
  have h80n : decide (80 < n) = false := decide_eq_false (by omega)
  have hn80 : n ≤ 80 := by omega
  by_cases hby : by_.toNat = 0
  · have k1 : ((by_.toNat : Int) == 0) = true := by simp [hby]
    have k2 : decide ((by_.toNat : Int) = 0) = true := decide_eq_true (by omega)
    clear h80 hn80
    go_wp2_with fail
    go_ret
    exact ⟨rfl, HB1.out⟩
  have k1 : ((by_.toNat : Int) == 0) = false := by simp; omega
  have k2 : decide ((by_.toNat : Int) = 0) = false := decide_eq_false (by omega)
  have HBY := Lib.hid hby
  have HN80 := Lib.hid hn80
  clear h80 hby hn80
  have SO := Lib.hid (sorted_any ao n cap f w1 HF1.out (by have := HN80.out; omega))
  go_wp2_with fail
  refine SO.out.mono ?_
  rintro e w2 ⟨u, l, rfl, hs, hset, hb2⟩
  have HB2 := Lib.hid (HB1.out.trans (hb2.mono HB1.out.size))
  have hln : l.length ≤ 80 := Nat.le_trans hset.2.2 HN80.out
  have hlk := look_ok (p := ⟨#[]⟩) hset.1 pfx_empty
  rw [below_empty (fun y hy => hset.1.size hy)] at hlk
  have hck := chk_cell (p := ⟨#[]⟩) hset.1 pfx_empty (by omega)
  rw [below_empty (fun y hy => hset.1.size hy)] at hck
  have hz := cellS_size 65 0 l
  have hsum := cellC_sum l ⟨#[]⟩
  have hcnt := cellC_cnt l ⟨#[]⟩
  obtain ⟨aoL, capL, rfl, -, -, -⟩ := hs.form
  have LK := Lib.hid (look_any _ l ⟨#[]⟩ w2 (StrAt.of_sl hs) (by omega) (by decide))
  obtain ⟨c, hc⟩ : ∃ c, c = cellC l ⟨#[]⟩ := ⟨_, rfl⟩
  rw [← hc] at hlk hck hsum hcnt
  have hsz : c.sum.size = 32 := by rw [hsum]; exact hz
  obtain ⟨pre, cnt, sum, ids, kids⟩ := c
  have HLK := Lib.hid hlk
  have HCK := Lib.hid hck
  dsimp only at hsz hcnt
  have hcn : 0 ≤ cnt ∧ cnt ≤ 80 := by omega
  have HSZ := Lib.hid (And.intro hsz hcn)
  have hrow : ids.length ≤ 1000000 ∧ kids.length ≤ 1000000 ∧ (pre.size : Int) ≤ 9223372036854775807 := by
    obtain ⟨h1, h2⟩ := chk_ok hck
    have hp := pfx_size h1
    dsimp only at h1 h2 hp
    rcases h2 with ⟨a1, a2, a3, _⟩ | ⟨a1, a2, _⟩
    · rw [a1]; exact ⟨by omega, by simp, by omega⟩
    · rw [a1]; exact ⟨by simp, by omega, by omega⟩
  have HROW := Lib.hid hrow
  clear SO hs hset hb2 hln hlk hck hz hsum hcnt hc hrow hcn
  go_wp2_with fail
  refine LK.out.mono ?_
  rintro e w3 ⟨v, rfl, ⟨vi, vk, hv, hi3, hk3⟩, hb3⟩
  rw [HLK.out.1] at hv hi3 hk3
  rw [HLK.out.2]
  subst hv
  dsimp only at hi3 hk3
  unfold aggC
  dsimp only
  have HB3 := Lib.hid (HB2.out.trans (hb3.mono HB2.out.size))
  obtain ⟨oi, ci, rfl, -, -, -⟩ := id hi3
  obtain ⟨ok, ck, rfl, -, -, -⟩ := id hk3
  obtain ⟨G, hG⟩ : ∃ G, G = w3.heap.size := ⟨_, rfl⟩
  obtain ⟨W4, hW4⟩ : ∃ W4, W4 = w3.alloc (.cells #[.string pre, .int .i64 cnt, .string sum, .slice oi ids.length ci, .slice ok kids.length ck] 25) := ⟨_, rfl⟩
  have h34 : Below w3.heap.size w3 W4 := by rw [hW4]; exact (Below.refl _ _).alloc (Nat.le_refl _) _
  have K4 := Lib.hid (show BlkIs W4 G 25 #[.string pre, .int .i64 cnt, .string sum, .slice oi ids.length ci, .slice ok kids.length ck] by rw [hW4, hG]; exact BlkIs.new _ _ _)
  have HB4 := Lib.hid (HB3.out.trans (h34.mono HB3.out.size))
  have HI := Lib.hid (hi3.later h34)
  have HK := Lib.hid (hk3.later h34)
  have CK := Lib.hid (fun (c' : Cp) (hids : c'.ids = ids) (hkids : c'.kids = kids) (hpre : (c'.pre.size : Int) ≤ 9223372036854775807) W (hW : Below W4.heap.size W4 W) => check_any c' (.slice oi ids.length ci) (.slice ok kids.length ck) W (by rw [hids]; exact HI.out.later hW) (by rw [hkids]; exact HK.out.later hW) (by rw [hids]; exact HROW.out.1) (by rw [hkids]; exact HROW.out.2.1) hpre)
  have H4 := Lib.hid (And.intro hW4 hG)
  have x0 : W4.cell? ⟨G, 0, none⟩ = some (.string pre) := K4.out.cell 0
  have x1 : W4.cell? ⟨G, 1, none⟩ = some (.int .i64 cnt) := K4.out.cell 1
  have x2 : W4.cell? ⟨G, 2, none⟩ = some (.string sum) := K4.out.cell 2
  have x3 : W4.cell? ⟨G, 3, none⟩ = some (.slice oi ids.length ci) := K4.out.cell 3
  have x4 : W4.cell? ⟨G, 4, none⟩ = some (.slice ok kids.length ck) := K4.out.cell 4
  have z1 : ((sum.size : Int) != 32) = false := by simp; omega
  obtain ⟨k, hk, hkw⟩ := idx_in at_ (show 0 < 32 by omega) (by omega)
  have hkw2 : IntKind.i64.wrap ((IntKind.u64.wrap at_).tmod 32) = (k : Int) := hkw
  clear hi3 hk3 hb3 hW4 hG h34 LK hkw
  go_upto_region 6 with (fail)
  rw [← H4.out.1, ← H4.out.2]
  clear H4
  go_upto_region 9 with (fail)
  obtain ⟨D, hD⟩ : ∃ D, D = W4.heap.size := ⟨_, rfl⟩
  obtain ⟨W5, hW5⟩ : ∃ W5, W5 = W4.alloc (.cells #[.string pre, .int .i64 cnt, .string sum, .slice oi ids.length ci, .slice ok kids.length ck] 25) := ⟨_, rfl⟩
  have B5 := Lib.hid (show Below W4.heap.size W4 W5 by rw [hW5]; exact (Below.refl _ _).alloc (Nat.le_refl _) _)
  have K5 := Lib.hid (show BlkIs W5 D 25 #[.string pre, .int .i64 cnt, .string sum, .slice oi ids.length ci, .slice ok kids.length ck] by rw [hW5, hD]; exact BlkIs.new _ _ _)
  have hGD : G < D := by rw [hD]; exact K4.out.lt
  have hD4 : W4.heap.size ≤ D := by omega
  have H5 := Lib.hid (And.intro hW5 hD)
  have XC := Lib.hid (show ∀ W, Below W4.heap.size W4 W → W.cell? ⟨G, 0, none⟩ = some (.string pre) ∧ W.cell? ⟨G, 1, none⟩ = some (.int .i64 cnt) ∧ W.cell? ⟨G, 2, none⟩ = some (.string sum) ∧ W.cell? ⟨G, 3, none⟩ = some (.slice oi ids.length ci) ∧ W.cell? ⟨G, 4, none⟩ = some (.slice ok kids.length ck) from fun W hb => by
    have K := K4.out.below hb K4.out.lt
    exact ⟨K.cell 0, K.cell 1, K.cell 2, K.cell 3, K.cell 4⟩)
  clear hW5 hD
  go_upto_region 10 with (fail)
  rw [← H5.out.1, ← H5.out.2]
  clear H5 x0 x1 x2 x3 x4 z1 hkw2
  obtain ⟨x0, x1, x2, x3, x4⟩ := XC.out W5 B5.out
  have hk32 : k < sum.size := by have := HSZ.out.1; omega
  have hsz := HSZ.out.1
  obtain ⟨b0, hb0⟩ : ∃ b, b = sum[k]'hk32 := ⟨_, rfl⟩
  have hix := hb0.symm
  obtain ⟨y, hy⟩ : ∃ y, y = b0.toNat ^^^ by_.toNat := ⟨_, rfl⟩
  have hxr : bits BinOp.xor IntKind.u8 (b0.toNat : Int) (by_.toNat : Int) = (y : Int) := by rw [hy]; exact u8_xor_nat _ _ b0.toNat_lt by_.toNat_lt
  have hy256 : y < 256 := by rw [hy]; exact Nat.xor_lt_two_pow (n := 8) b0.toNat_lt by_.toNat_lt
  have hyne : y ≠ b0.toNat := fun e => HBY.out (by
    rw [hy] at e
    have := congrArg (fun z => b0.toNat ^^^ z) e
    simpa [← Nat.xor_assoc] using this)
  obtain ⟨E, hE⟩ : ∃ E : ByteArray, E = ⟨#[UInt8.ofNat y]⟩ := ⟨_, rfl⟩
  obtain ⟨S1, hS1⟩ : ∃ S, S = sum.extract 0 k := ⟨_, rfl⟩
  obtain ⟨S2, hS2⟩ : ∃ S, S = sum.extract (k + 1) 32 := ⟨_, rfl⟩
  obtain ⟨S3, hS3⟩ : ∃ S, S = S1 ++ E := ⟨_, rfl⟩
  obtain ⟨S', hS'⟩ : ∃ S, S = S3 ++ S2 := ⟨_, rfl⟩
  have hE1 : E.size = 1 := by rw [hE]; rfl
  have hS1z : S1.size = k := by rw [hS1, ByteArray.size_extract]; omega
  have hS2z : S2.size ≤ 32 := by rw [hS2, ByteArray.size_extract]; omega
  have hne : S' ≠ sum := fun e => by
    have h1 := congrArg (fun s : ByteArray => s.data.toList[k]?) e
    rw [hS', hS3, hE] at h1
    have h2 : S1.data.toList.length = k := by simpa using hS1z
    have h3 : k < sum.data.toList.length := by simpa using hk32
    simp only [ByteArray.data_append, Array.toList_append] at h1
    rw [List.getElem?_append_left (by simp; omega), List.getElem?_append_right (by omega), h2, Nat.sub_self, List.getElem?_eq_getElem h3] at h1
    have h4 : sum.data.toList[k] = b0 := by rw [hb0]; rfl
    rw [h4] at h1
    have h5 : UInt8.ofNat y = b0 := by simpa using h1
    apply hyne
    rw [← h5, UInt8.toNat_ofNat']
    omega
  have TX := Lib.hid (fun W b (hb : BlkIs W b 5 #[.int .u8 (y : Int)]) => show (convert 40 9 (.slice (some ⟨b, 0, none⟩) 1 1)).run Tryz.prog W = .ok (.string E) W from by
    have hsl : SlIs W 0 5 1 (.slice (some ⟨b, 0, none⟩) 1 1) 1 (bcells [UInt8.ofNat y]) := by
      have := SlIs.made (n := 1) (size := 1) (base := 0) hb (Nat.zero_le _) rfl (by decide)
      have e : bcells [UInt8.ofNat y] = [.int .u8 (y : Int)] := by
        simp only [bcells, List.map_cons, List.map_nil, UInt8.toNat_ofNat']
        rw [Nat.mod_eq_of_lt (by omega)]
      rw [e]
      exact this
    have := SlIs.text (P := Tryz.prog) (dst := 9) Tryz.underlying40 Tryz.underlying5 Tryz.underlying9 hsl
    rw [this, hE])
  have hx1 := hS1.symm
  have hx2 := hS2.symm
  have hx3 := hS3.symm
  have hx4 := hS'.symm
  have hS3z : S3.size = k + 1 := by rw [hS3, ByteArray.size_append]; omega
  have l1 : (k : Int) ≤ 32 := by omega
  have l2 : (0 : Int) ≤ (k : Int) + 1 := by omega
  have l3 : (k : Int) + 1 ≤ 32 := by omega
  have l4 : (k : Int) < 32 := by omega
  have l5 : IntKind.i64.wrap ((k : Int) + 1) = ((k + 1 : Nat) : Int) := IntWalk.i64_in _ (by omega)
  have m1 : ¬ (9223372036854775807 < S1.size + E.size) := by omega
  have m2 : ¬ (9223372036854775807 < S3.size + S2.size) := by omega
  have HNE := Lib.hid hne
  have hbd5 : Below W5.heap.size W5 W5.drew := ⟨rfl, rfl, rfl, Nat.le_refl _, fun _ _ => rfl⟩
  clear hb0 hy hE hS1 hS2 hS3 hS' hyne hne hy256
  refine wp_region_held_drew (S := fun W => W.cell? ⟨G, 2, none⟩ = some (.string sum)) (by kernel_rfl) x2 (fun hHeld => ?_)
  refine wpAnyH_take (i := 0) (v := .pointer (some ⟨G, 2, none⟩)) rfl (by kernel_rfl) (by kernel_rfl) (by kernel_rfl) (fun _ _ _ h => h) (Or.inl ⟨by rfl, fun w hSw => ?_⟩) (by assumption) ?_
  · skip
    go_simp
  simp only [Act.put, List.setIfInBounds_toArray, List.set_cons_zero, List.set_cons_succ]
  refine wpAnyH_take (i := 1) (v := .string sum) rfl (by kernel_rfl) (by kernel_rfl) (by kernel_rfl) (fun _ _ _ h => h) (Or.inl ⟨by rfl, fun w hSw => ?_⟩) (by assumption) ?_
  · skip
    go_simp
  simp only [Act.put, List.setIfInBounds_toArray, List.set_cons_zero, List.set_cons_succ]
  refine wpAnyH_take (i := 2) (v := .int .i64 (k : Int)) rfl (by kernel_rfl) (by kernel_rfl) (by kernel_rfl) (fun _ _ _ h => h) (Or.inl ⟨by rfl, fun w hSw => ?_⟩) (by assumption) ?_
  · skip
    go_simp
  simp only [Act.put, List.setIfInBounds_toArray, List.set_cons_zero, List.set_cons_succ]
  refine wpAnyH_take (i := 3) (v := .string S1) rfl (by kernel_rfl) (by kernel_rfl) (by kernel_rfl) (fun _ _ _ h => h) (Or.inl ⟨by rfl, fun w hSw => ?_⟩) (by assumption) ?_
  · skip
    go_simp
  simp only [Act.put, List.setIfInBounds_toArray, List.set_cons_zero, List.set_cons_succ]
  refine wpAnyH_take (i := 4) (v := .pointer (some ⟨G, 2, none⟩)) rfl (by kernel_rfl) (by kernel_rfl) (by kernel_rfl) (fun _ _ _ h => h) (Or.inl ⟨by rfl, fun w hSw => ?_⟩) (by assumption) ?_
  · skip
    go_simp
  simp only [Act.put, List.setIfInBounds_toArray, List.set_cons_zero, List.set_cons_succ]
  refine wpAnyH_take (i := 5) (v := .string sum) rfl (by kernel_rfl) (by kernel_rfl) (by kernel_rfl) (fun _ _ _ h => h) (Or.inl ⟨by rfl, fun w hSw => ?_⟩) (by assumption) ?_
  · skip
    go_simp
  simp only [Act.put, List.setIfInBounds_toArray, List.set_cons_zero, List.set_cons_succ]
  refine wpAnyH_take (i := 6) (v := .int .i64 (k : Int)) rfl (by kernel_rfl) (by kernel_rfl) (by kernel_rfl) (fun _ _ _ h => h) (Or.inl ⟨by rfl, fun w hSw => ?_⟩) (by assumption) ?_
  · skip
    go_simp
  simp only [Act.put, List.setIfInBounds_toArray, List.set_cons_zero, List.set_cons_succ]
  refine wpAnyH_take (i := 7) (v := .int .u8 (b0.toNat : Int)) rfl (by kernel_rfl) (by kernel_rfl) (by kernel_rfl) (fun _ _ _ h => h) (Or.inl ⟨by rfl, fun w hSw => ?_⟩) (by assumption) ?_
  · skip
    go_simp
  simp only [Act.put, List.setIfInBounds_toArray, List.set_cons_zero, List.set_cons_succ]
  refine wpAnyH_take (i := 8) (v := .int .u8 (by_.toNat : Int)) rfl (by kernel_rfl) (by kernel_rfl) (by kernel_rfl) (fun _ _ _ h => h) (Or.inl ⟨by rfl, fun w hSw => ?_⟩) (by assumption) ?_
  · skip
    go_simp
  simp only [Act.put, List.setIfInBounds_toArray, List.set_cons_zero, List.set_cons_succ]
  refine wpAnyH_take (i := 9) (v := .int .u8 (y : Int)) rfl (by kernel_rfl) (by kernel_rfl) (by kernel_rfl) (fun _ _ _ h => h) (Or.inl ⟨by rfl, fun w hSw => ?_⟩) (by assumption) ?_
  · skip
    go_simp
  simp only [Act.put, List.setIfInBounds_toArray, List.set_cons_zero, List.set_cons_succ]
  refine wpAnyH_take (i := 13) (v := .pointer (some ⟨G, 2, none⟩)) rfl (by kernel_rfl) (by kernel_rfl) (by kernel_rfl) (fun _ _ _ h => h) (Or.inl ⟨by rfl, fun w hSw => ?_⟩) (by assumption) ?_
  · skip
    go_simp
  simp only [Act.put, List.setIfInBounds_toArray, List.set_cons_zero, List.set_cons_succ]
  refine wpAnyH_take (i := 14) (v := .string sum) rfl (by kernel_rfl) (by kernel_rfl) (by kernel_rfl) (fun _ _ _ h => h) (Or.inl ⟨by rfl, fun w hSw => ?_⟩) (by assumption) ?_
  · skip
    go_simp
  simp only [Act.put, List.setIfInBounds_toArray, List.set_cons_zero, List.set_cons_succ]
  refine wpAnyH_take (i := 15) (v := .int .i64 (k : Int)) rfl (by kernel_rfl) (by kernel_rfl) (by kernel_rfl) (fun _ _ _ h => h) (Or.inl ⟨by rfl, fun w hSw => ?_⟩) (by assumption) ?_
  · skip
    go_simp
  simp only [Act.put, List.setIfInBounds_toArray, List.set_cons_zero, List.set_cons_succ]
  refine wpAnyH_take (i := 16) (v := .int .i64 ((k : Int) + 1)) rfl (by kernel_rfl) (by kernel_rfl) (by kernel_rfl) (fun _ _ _ h => h) (Or.inl ⟨by rfl, fun w hSw => ?_⟩) (by assumption) ?_
  · skip
    go_simp
  simp only [Act.put, List.setIfInBounds_toArray, List.set_cons_zero, List.set_cons_succ]
  refine wpAnyH_take (i := 17) (v := .string S2) rfl (by kernel_rfl) (by kernel_rfl) (by kernel_rfl) (fun _ _ _ h => h) (Or.inl ⟨by rfl, fun w hSw => ?_⟩) (by assumption) ?_
  · skip
    go_simp
  simp only [Act.put, List.setIfInBounds_toArray, List.set_cons_zero, List.set_cons_succ]
  refine wpAnyH_ready (rs := [10]) (by kernel_rfl) (by simp) ?_
  refine AllReadyH.cons rfl (fun K hK => ?_) AllReadyH.nil
  go_simp
  obtain ⟨N, hN⟩ : ∃ N, N = W5.heap.size := ⟨_, rfl⟩
  obtain ⟨W6, hW6⟩ : ∃ W6, W6 = (W5.alloc (.cells #[.int .u8 (y : Int)] 5)).drew := ⟨_, rfl⟩
  have K6 := TX.out W6 N (by rw [hW6, hN]; exact (BlkIs.new W5 _ _).drew)
  have B56 := Lib.hid (show Below W5.heap.size W5 W6 by rw [hW6]; exact Below.drew ((Below.refl _ _).alloc (Nat.le_refl _) _))
  have B6 := Lib.hid (B5.out.trans (B56.out.mono B5.out.size))
  rw [← hN, ← hW6]
  refine hK.out _ _ ?_ (fun hHeld => ?_)
  · exact (XC.out W6 B6.out).2.2.1
  clear hK K hN hW6
  refine wpAnyH_ready (rs := [11]) (by kernel_rfl) (by simp) ?_
  refine AllReadyH.cons rfl (fun K hK => ?_) AllReadyH.nil
  go_simp
  refine hK.out _ _ ?_ (fun hHeld => ?_)
  · exact (XC.out W6 B6.out).2.2.1
  clear hK K K6
  refine wpAnyH_take (i := 12) (v := .string S3) rfl (by kernel_rfl) (by kernel_rfl) (by kernel_rfl) (fun _ _ _ h => h) (Or.inl ⟨by rfl, fun w hSw => ?_⟩) (by assumption) ?_
  · skip
    go_simp <;> omega
  simp only [Act.put, List.setIfInBounds_toArray, List.set_cons_zero, List.set_cons_succ]
  refine wpAnyH_take (i := 18) (v := .string S') rfl (by kernel_rfl) (by kernel_rfl) (by kernel_rfl) (fun _ _ _ h => h) (Or.inl ⟨by rfl, fun w hSw => ?_⟩) (by assumption) ?_
  · skip
    go_simp <;> omega
  simp only [Act.put, List.setIfInBounds_toArray, List.set_cons_zero, List.set_cons_succ]
  refine wpAnyH_take (i := 19) (v := .pointer (some ⟨D, 2, none⟩)) rfl (by kernel_rfl) (by kernel_rfl) (by kernel_rfl) (fun _ _ _ h => h) (Or.inl ⟨by rfl, fun w hSw => ?_⟩) (by assumption) ?_
  · skip
    go_simp
  simp only [Act.put, List.setIfInBounds_toArray, List.set_cons_zero, List.set_cons_succ]
  have KD6 := K5.out.below B56.out K5.out.lt
  have y2 : W6.cell? ⟨D, 2, none⟩ = some (.string sum) := KD6.cell 2
  have yf : ∀ i, W6.frozen? ⟨D, i, none⟩ = false := fun i => KD6.free i
  refine wpAnyH_ready (rs := [20]) (by kernel_rfl) (by simp) ?_
  refine AllReadyH.cons rfl (fun K hK => ?_) AllReadyH.nil
  go_simp
  have hD6 : W4.heap.size ≤ (⟨D, 2, none⟩ : Addr).block := hD4
  have B7 := Lib.hid (B6.out.setCell hD6 (.string S'))
  have K7 := Lib.hid (show BlkIs (W6.setCell ⟨D, 2, none⟩ (.string S')) D 25 #[.string pre, .int .i64 cnt, .string S', .slice oi ids.length ci, .slice ok kids.length ck] from KD6.put 2 _)
  refine hK.out _ _ ?_ (fun hHeld => ?_)
  · exact (XC.out _ B7.out).2.2.1
  clear hK K hHeld y2 yf KD6 hD6
  refine wpAnyH_done (by kernel_rfl) ?_ _
  obtain ⟨W7, hW7⟩ : ∃ W7, W7 = W6.setCell ⟨D, 2, none⟩ (.string S') := ⟨_, rfl⟩
  rw [← hW7] at B7 K7 ⊢
  clear hW7 hx1 hx2 hx3 hx4 hix hxr x0 x1 x2 x3 x4 hbd5
  have y0 : W7.cell? ⟨D, 0, none⟩ = some (.string pre) := K7.out.cell 0
  have y1 : W7.cell? ⟨D, 1, none⟩ = some (.int .i64 cnt) := K7.out.cell 1
  have y2 : W7.cell? ⟨D, 2, none⟩ = some (.string S') := K7.out.cell 2
  have y3 : W7.cell? ⟨D, 3, none⟩ = some (.slice oi ids.length ci) := K7.out.cell 3
  have y4 : W7.cell? ⟨D, 4, none⟩ = some (.slice ok kids.length ck) := K7.out.cell 4
  have C1 := CK.out ⟨pre, cnt, S', ids, kids⟩ rfl rfl HROW.out.2.2 W7 B7.out
  have e1 : chk ⟨pre, cnt, S', ids, kids⟩ = 20 := chk_other_sum HCK.out HNE.out
  rw [e1] at C1
  have C1 := Lib.hid C1
  clear e1
  go_wp2_with fail
  refine C1.out.mono ?_
  rintro e w8 ⟨rfl, hb8⟩
  have B8 := Lib.hid (B7.out.trans (hb8.mono B7.out.size))
  have K8 := K7.out.below hb8 K7.out.lt
  clear C1 hb8 y0 y1 y2 y3 y4
  obtain ⟨x0, x1, x2, x3, x4⟩ := XC.out w8 B8.out
  have y0 : w8.cell? ⟨D, 0, none⟩ = some (.string pre) := K8.cell 0
  have y1 : w8.cell? ⟨D, 1, none⟩ = some (.int .i64 cnt) := K8.cell 1
  have y2 : w8.cell? ⟨D, 2, none⟩ = some (.string S') := K8.cell 2
  have y3 : w8.cell? ⟨D, 3, none⟩ = some (.slice oi ids.length ci) := K8.cell 3
  have y4 : w8.cell? ⟨D, 4, none⟩ = some (.slice ok kids.length ck) := K8.cell 4
  have yf : ∀ i, w8.frozen? ⟨D, i, none⟩ = false := fun i => K8.free i
  have HK8 := Lib.hid K8
  have hDG1 : D ≠ G := by omega
  have hDG2 : G ≠ D := by omega
  clear K8
  go_upto_region 14 with (fail)
  obtain ⟨W9, hW9⟩ : ∃ W9, W9 = (((((w8.setCell ⟨D, 0, none⟩ (.string pre)).setCell ⟨D, 1, none⟩ (.int .i64 cnt)).setCell ⟨D, 2, none⟩ (.string sum)).setCell ⟨D, 3, none⟩ (.slice oi ids.length ci)).setCell ⟨D, 4, none⟩ (.slice ok kids.length ck)) := ⟨_, rfl⟩
  have K9 := Lib.hid (show BlkIs W9 D 25 #[.string pre, .int .i64 cnt, .string sum, .slice oi ids.length ci, .slice ok kids.length ck] by rw [hW9]; exact put5 HK8.out ⟨_, _, _, _, _, rfl⟩ _ _ _ _ _)
  have B9 := Lib.hid (show Below W4.heap.size W4 W9 by rw [hW9]; exact put5_below B8.out hD4 _ _ _ _ _)
  rw [← hW9]
  clear hW9 x0 x1 x2 x3 x4 y0 y1 y2 y3 y4 yf HK8
  obtain ⟨x0, x1, x2, x3, x4⟩ := XC.out W9 B9.out
  have y0 : W9.cell? ⟨D, 0, none⟩ = some (.string pre) := K9.out.cell 0
  have y1 : W9.cell? ⟨D, 1, none⟩ = some (.int .i64 cnt) := K9.out.cell 1
  have y2 : W9.cell? ⟨D, 2, none⟩ = some (.string sum) := K9.out.cell 2
  have y3 : W9.cell? ⟨D, 3, none⟩ = some (.slice oi ids.length ci) := K9.out.cell 3
  have y4 : W9.cell? ⟨D, 4, none⟩ = some (.slice ok kids.length ck) := K9.out.cell 4
  have yf : ∀ i, W9.frozen? ⟨D, i, none⟩ = false := fun i => K9.out.free i
  obtain ⟨c9, hc9⟩ : ∃ c, c = cnt + 1 + (k : Int) := ⟨_, rfl⟩
  have hcn := HSZ.out.2
  have w1 : IntKind.i64.wrap (cnt + 1) = cnt + 1 := IntWalk.i64_in _ (by omega)
  have w2 : IntKind.i64.wrap (cnt + 1 + (k : Int)) = c9 := by rw [hc9]; exact IntWalk.i64_in _ (by omega)
  have w3 : cnt + 1 + (k : Int) = c9 := hc9.symm
  have w4 : wrap64 c9 = c9 := by unfold wrap64; omega
  have w5 : wrap64 (cnt + 1) = cnt + 1 := by unfold wrap64; omega
  have HC9 := Lib.hid hc9
  have hD9 : W4.heap.size ≤ (⟨D, 1, none⟩ : Addr).block := hD4
  obtain ⟨WA, hWA⟩ : ∃ WA, WA = W9.setCell ⟨D, 1, none⟩ (.int .i64 c9) := ⟨_, rfl⟩
  have KA := Lib.hid (show BlkIs WA D 25 #[.string pre, .int .i64 c9, .string sum, .slice oi ids.length ci, .slice ok kids.length ck] by rw [hWA]; exact K9.out.put 1 _)
  have BA := Lib.hid (show Below W4.heap.size W4 WA by rw [hWA]; exact B9.out.setCell hD9 _)
  have HWA := Lib.hid hWA
  clear hc9 hcn hWA hD9
  go_upto_region 15 with (fail)
  rw [← HWA.out]
  clear x0 x1 x2 x3 x4 y0 y1 y2 y3 y4 yf w1 w2 w3 w4 w5 HWA
  have tailX : Hid (∀ W, Below W4.heap.size W4 W → (∃ a b c d e, BlkIs W D 25 #[a, b, c, d, e]) → True) := Lib.hid fun _ _ _ => trivial
  obtain ⟨x0, x1, x2, x3, x4⟩ := XC.out WA BA.out
  have y0 : WA.cell? ⟨D, 0, none⟩ = some (.string pre) := KA.out.cell 0
  have y1 : WA.cell? ⟨D, 1, none⟩ = some (.int .i64 c9) := KA.out.cell 1
  have y2 : WA.cell? ⟨D, 2, none⟩ = some (.string sum) := KA.out.cell 2
  have y3 : WA.cell? ⟨D, 3, none⟩ = some (.slice oi ids.length ci) := KA.out.cell 3
  have y4 : WA.cell? ⟨D, 4, none⟩ = some (.slice ok kids.length ck) := KA.out.cell 4
  have yf : ∀ i, WA.frozen? ⟨D, i, none⟩ = false := fun i => KA.out.free i
  have PX := Lib.hid (show chk ⟨⟨#[120]⟩, cnt, sum, ids, kids⟩ = 4 from chk_other_pre (c := ⟨pre, cnt, sum, ids, kids⟩) (by decide))
  by_cases h8 : cnt ≤ 8
  · have e1 : chk ⟨pre, c9, sum, ids, kids⟩ = 4 := chk_other_cnt HCK.out h8 (by have := HC9.out; dsimp only; omega)
    have C1 := CK.out ⟨pre, c9, sum, ids, kids⟩ rfl rfl HROW.out.2.2 WA BA.out
    rw [e1] at C1
    have C1 := Lib.hid C1
    clear e1
    go_wp2_with fail
    refine C1.out.mono ?_
    rintro e wB ⟨rfl, hbB⟩
    have BB := Lib.hid (BA.out.trans (hbB.mono BA.out.size))
    have KB := Lib.hid (KA.out.below hbB KA.out.lt)
    clear C1 hbB x0 x1 x2 x3 x4 y0 y1 y2 y3 y4 yf
    obtain ⟨x0, x1, x2, x3, x4⟩ := XC.out wB BB.out
    have y0 : wB.cell? ⟨D, 0, none⟩ = some (.string pre) := KB.out.cell 0
    have y1 : wB.cell? ⟨D, 1, none⟩ = some (.int .i64 c9) := KB.out.cell 1
    have y2 : wB.cell? ⟨D, 2, none⟩ = some (.string sum) := KB.out.cell 2
    have y3 : wB.cell? ⟨D, 3, none⟩ = some (.slice oi ids.length ci) := KB.out.cell 3
    have y4 : wB.cell? ⟨D, 4, none⟩ = some (.slice ok kids.length ck) := KB.out.cell 4
    have yf : ∀ i, wB.frozen? ⟨D, i, none⟩ = false := fun i => KB.out.free i
    obtain ⟨WC, hWC⟩ : ∃ WC, WC = (((((wB.setCell ⟨D, 0, none⟩ (.string pre)).setCell ⟨D, 1, none⟩ (.int .i64 cnt)).setCell ⟨D, 2, none⟩ (.string sum)).setCell ⟨D, 3, none⟩ (.slice oi ids.length ci)).setCell ⟨D, 4, none⟩ (.slice ok kids.length ck)) := ⟨_, rfl⟩
    have KC := Lib.hid (show BlkIs WC D 25 #[.string pre, .int .i64 cnt, .string sum, .slice oi ids.length ci, .slice ok kids.length ck] by rw [hWC]; exact put5 KB.out ⟨_, _, _, _, _, rfl⟩ _ _ _ _ _)
    have BC := Lib.hid (show Below W4.heap.size W4 WC by rw [hWC]; exact put5_below BB.out hD4 _ _ _ _ _)
    have HWC := Lib.hid hWC
    clear hWC
    go_upto_region 18 with (fail)
    rw [← HWC.out]
    clear x0 x1 x2 x3 x4 y0 y1 y2 y3 y4 yf HWC
    have y0 : WC.cell? ⟨D, 0, none⟩ = some (.string pre) := KC.out.cell 0
    have yf : ∀ i, WC.frozen? ⟨D, i, none⟩ = false := fun i => KC.out.free i
    have hD0 : W4.heap.size ≤ (⟨D, 0, none⟩ : Addr).block := hD4
    obtain ⟨WE, hWE⟩ : ∃ WE, WE = WC.setCell ⟨D, 0, none⟩ (.string ⟨#[120]⟩) := ⟨_, rfl⟩
    have KE := Lib.hid (show BlkIs WE D 25 #[.string ⟨#[120]⟩, .int .i64 cnt, .string sum, .slice oi ids.length ci, .slice ok kids.length ck] by rw [hWE]; exact KC.out.put 0 _)
    have BE := Lib.hid (show Below W4.heap.size W4 WE by rw [hWE]; exact BC.out.setCell hD0 _)
    have HWE := Lib.hid hWE
    clear hWE hD0
    go_upto_region 19 with (fail)
    rw [← HWE.out]
    clear y0 yf HWE
    have y0 : WE.cell? ⟨D, 0, none⟩ = some (.string ⟨#[120]⟩) := KE.out.cell 0
    have y1 : WE.cell? ⟨D, 1, none⟩ = some (.int .i64 cnt) := KE.out.cell 1
    have y2 : WE.cell? ⟨D, 2, none⟩ = some (.string sum) := KE.out.cell 2
    have y3 : WE.cell? ⟨D, 3, none⟩ = some (.slice oi ids.length ci) := KE.out.cell 3
    have y4 : WE.cell? ⟨D, 4, none⟩ = some (.slice ok kids.length ck) := KE.out.cell 4
    have C2 := CK.out ⟨⟨#[120]⟩, cnt, sum, ids, kids⟩ rfl rfl (by show ((⟨#[120]⟩ : ByteArray).size : Int) ≤ _; decide) WE BE.out
    rw [PX.out] at C2
    have C2 := Lib.hid C2
    go_wp2_with fail
    refine C2.out.mono ?_
    rintro e wF ⟨rfl, hbF⟩
    have BF := Lib.hid (HB4.out.trans ((BE.out.trans (hbF.mono BE.out.size)).mono HB4.out.size))
    clear C2 hbF y0 y1 y2 y3 y4
    go_wp2_with fail
    go_ret
    exact ⟨rfl, BF.out⟩
  · have h8' : decide (cnt ≤ 8) = false := decide_eq_false h8
    obtain ⟨wB, hwB⟩ : ∃ wB, wB = WA := ⟨_, rfl⟩
    subst hwB
    have BB := Lib.hid BA.out
    have KB := Lib.hid KA.out
    clear h8 y0 y1 y2 y3 y4 yf x0 x2 x3 x4
    obtain ⟨x0, x1, x2, x3, x4⟩ := XC.out wB BB.out
    have y0 : wB.cell? ⟨D, 0, none⟩ = some (.string pre) := KB.out.cell 0
    have y1 : wB.cell? ⟨D, 1, none⟩ = some (.int .i64 c9) := KB.out.cell 1
    have y2 : wB.cell? ⟨D, 2, none⟩ = some (.string sum) := KB.out.cell 2
    have y3 : wB.cell? ⟨D, 3, none⟩ = some (.slice oi ids.length ci) := KB.out.cell 3
    have y4 : wB.cell? ⟨D, 4, none⟩ = some (.slice ok kids.length ck) := KB.out.cell 4
    have yf : ∀ i, wB.frozen? ⟨D, i, none⟩ = false := fun i => KB.out.free i
    obtain ⟨WC, hWC⟩ : ∃ WC, WC = (((((wB.setCell ⟨D, 0, none⟩ (.string pre)).setCell ⟨D, 1, none⟩ (.int .i64 cnt)).setCell ⟨D, 2, none⟩ (.string sum)).setCell ⟨D, 3, none⟩ (.slice oi ids.length ci)).setCell ⟨D, 4, none⟩ (.slice ok kids.length ck)) := ⟨_, rfl⟩
    have KC := Lib.hid (show BlkIs WC D 25 #[.string pre, .int .i64 cnt, .string sum, .slice oi ids.length ci, .slice ok kids.length ck] by rw [hWC]; exact put5 KB.out ⟨_, _, _, _, _, rfl⟩ _ _ _ _ _)
    have BC := Lib.hid (show Below W4.heap.size W4 WC by rw [hWC]; exact put5_below BB.out hD4 _ _ _ _ _)
    have HWC := Lib.hid hWC
    clear hWC
    go_upto_region 18 with (fail)
    rw [← HWC.out]
    clear x0 x1 x2 x3 x4 y0 y1 y2 y3 y4 yf HWC
    have y0 : WC.cell? ⟨D, 0, none⟩ = some (.string pre) := KC.out.cell 0
    have yf : ∀ i, WC.frozen? ⟨D, i, none⟩ = false := fun i => KC.out.free i
    have hD0 : W4.heap.size ≤ (⟨D, 0, none⟩ : Addr).block := hD4
    obtain ⟨WE, hWE⟩ : ∃ WE, WE = WC.setCell ⟨D, 0, none⟩ (.string ⟨#[120]⟩) := ⟨_, rfl⟩
    have KE := Lib.hid (show BlkIs WE D 25 #[.string ⟨#[120]⟩, .int .i64 cnt, .string sum, .slice oi ids.length ci, .slice ok kids.length ck] by rw [hWE]; exact KC.out.put 0 _)
    have BE := Lib.hid (show Below W4.heap.size W4 WE by rw [hWE]; exact BC.out.setCell hD0 _)
    have HWE := Lib.hid hWE
    clear hWE hD0
    go_upto_region 19 with (fail)
    rw [← HWE.out]
    clear y0 yf HWE
    have y0 : WE.cell? ⟨D, 0, none⟩ = some (.string ⟨#[120]⟩) := KE.out.cell 0
    have y1 : WE.cell? ⟨D, 1, none⟩ = some (.int .i64 cnt) := KE.out.cell 1
    have y2 : WE.cell? ⟨D, 2, none⟩ = some (.string sum) := KE.out.cell 2
    have y3 : WE.cell? ⟨D, 3, none⟩ = some (.slice oi ids.length ci) := KE.out.cell 3
    have y4 : WE.cell? ⟨D, 4, none⟩ = some (.slice ok kids.length ck) := KE.out.cell 4
    have C2 := CK.out ⟨⟨#[120]⟩, cnt, sum, ids, kids⟩ rfl rfl (by show ((⟨#[120]⟩ : ByteArray).size : Int) ≤ _; decide) WE BE.out
    rw [PX.out] at C2
    have C2 := Lib.hid C2
    go_wp2_with fail
    refine C2.out.mono ?_
    rintro e wF ⟨rfl, hbF⟩
    have BF := Lib.hid (HB4.out.trans ((BE.out.trans (hbF.mono BE.out.size)).mono HB4.out.size))
    clear C2 hbF y0 y1 y2 y3 y4
    go_wp2_with fail
    go_ret
    exact ⟨rfl, BF.out⟩
theorem spoilt_arg (ao : Option Addr) (n cap : Nat) (f : Nat → List UInt8) (at_ z : Int) (w : World) (h : B32At w ao n f) (hz : (Lit.int .u8 z).wf = true) :
    Calls Tryz.prog 6 #[.slice ao n cap, .int .i64 at_, .int .u8 z] w fun e w' => e = .returned (.bool true) ∧ Below w.heap.size w w' := by
  have hb : 0 ≤ z ∧ z < 256 := by
    simp [Lit.wf, IntKind.min, IntKind.max, IntKind.signed, IntKind.bits] at hz
    omega
  have := spoilt_any ao n cap f at_ (UInt8.ofNat z.toNat) w h
  rwa [show ((UInt8.ofNat z.toNat).toNat : Int) = z by rw [UInt8.toNat_ofNat']; omega] at this
end Go.Proofs.YtjkhmjklmclpoaaGreat.Tr
