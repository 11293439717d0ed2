/- What the law of the sums says in plain: the counts of the longer prefixes make up the whole; a digit's sign. No program is walked but one that makes bytes. (Layer 10.) -/
import Derived.Test.YtjkhmjklmclpoaaGreatTrL
namespace Go.Proofs.YtjkhmjklmclpoaaGreat.Tr
set_option linter.unusedVariables false
set_option linter.unusedSimpArgs false
open Go.RowKit Go.Lib
open Set (StrAt scells El Rise)
/-- The ids below the first k longer prefixes. -/
def msum (a : List ByteArray) (p : ByteArray) : Nat → Nat
  | 0 => 0
  | k + 1 => msum a p k + (belowL a (ext p k)).length
theorem filter_part (dep k : Nat) : ∀ L : List ByteArray, (L.filter fun x => decide (dgt x dep < ((k + 1 : Nat) : Int))).length = (L.filter fun x => decide (dgt x dep < (k : Int))).length + (L.filter fun x => decide (dgt x dep = (k : Int))).length
  | [] => rfl
  | x :: r => by
    have ih := filter_part dep k r
    simp only [List.filter_cons]
    rcases Int.lt_trichotomy (dgt x dep) (k : Int) with h | h | h
    · have d1 : decide (dgt x dep < (k : Int)) = true := decide_eq_true h
      have d2 : decide (dgt x dep < ((k + 1 : Nat) : Int)) = true := decide_eq_true (by omega)
      have d3 : decide (dgt x dep = (k : Int)) = false := decide_eq_false (by omega)
      simp only [d1, d2, d3, if_true, Bool.false_eq_true, if_false, List.length_cons]
      omega
    · have d1 : decide (dgt x dep < (k : Int)) = false := decide_eq_false (by omega)
      have d2 : decide (dgt x dep < ((k + 1 : Nat) : Int)) = true := decide_eq_true (by omega)
      have d3 : decide (dgt x dep = (k : Int)) = true := decide_eq_true h
      simp only [d1, d2, d3, if_true, Bool.false_eq_true, if_false, List.length_cons]
      omega
    · have d1 : decide (dgt x dep < (k : Int)) = false := decide_eq_false (by omega)
      have d2 : decide (dgt x dep < ((k + 1 : Nat) : Int)) = false := decide_eq_false (by omega)
      have d3 : decide (dgt x dep = (k : Int)) = false := decide_eq_false (by omega)
      simp only [d1, d2, d3, if_true, Bool.false_eq_true, if_false, List.length_cons]
      omega
theorem msum_is {a : List ByteArray} {p : ByteArray} (hp : p.size < 64) : ∀ k, k ≤ 16 → msum a p k = ((belowL a p).filter fun x => decide (dgt x p.size < (k : Int))).length
  | 0, _ => by
    refine Eq.symm ?_
    show _ = 0
    rw [List.length_eq_zero_iff, List.filter_eq_nil_iff]
    intro x hx
    have hx2 := (hasB_iff.1 (List.mem_filter.1 hx).2).1
    unfold dgt
    rw [if_pos ⟨hx2, hp⟩]
    simp
  | k + 1, hk => by
    show msum a p k + _ = _
    rw [msum_is hp k (by omega), below_ext a (by omega) hp, filter_part]
theorem msum_all {a : List ByteArray} {p : ByteArray} (hp : p.size < 64) : msum a p 16 = (belowL a p).length := by
  rw [msum_is hp 16 (Nat.le_refl _)]
  congr 1
  refine List.filter_eq_self.2 fun x hx => ?_
  have hx2 := (hasB_iff.1 (List.mem_filter.1 hx).2).1
  unfold dgt
  rw [if_pos ⟨hx2, hp⟩]
  have := nib_lt x p.size
  simp
  omega
theorem msum_le {a : List ByteArray} {p : ByteArray} (hp : p.size < 64) {k : Nat} (hk : k ≤ 16) : msum a p k ≤ a.length := by
  rw [msum_is hp k hk]
  exact Nat.le_trans (List.length_filter_le _ _) (List.length_filter_le _ _)
theorem pfx_ext {p : ByteArray} {d : Nat} (hp : pfxB p = true) (hz : p.size < 64) (hd : d < 16) : pfxB (ext p d) = true := by
  unfold pfxB at hp ⊢
  rw [Bool.and_eq_true] at hp
  rw [ext_size, decide_eq_true (by omega), Bool.true_and]
  refine dgOk_iff.2 fun i hi => ?_
  rw [ext_size] at hi
  have h1 := dgOk_iff.1 hp.2
  rcases Nat.lt_or_ge i p.size with h | h
  · have e : (ext p d)[i]'(by rw [ext_size]; exact hi) = p[i]'h := by
      unfold ext
      exact ByteArray.getElem_append_left h
    rw [e]
    exact h1 i h
  · obtain rfl : i = p.size := by omega
    have e : (ext p d)[p.size]'(by rw [ext_size]; exact hi) = sgn d := by
      exact (ByteArray.getElem_append_right (a := p) (b := ⟨#[sgn d]⟩) (hle := Nat.le_refl p.size) (h := by show p.size < (ext p d).size; rw [ext_size]; exact hi)).trans (by simp; rfl)
    rw [e]
    exact sgn_dg ⟨d, hd⟩
theorem sign_of {z : List UInt8} (hz : z.length = 31) {d : Nat} (hd : d < 16) : (hexS (⟨z.toArray⟩ ++ ⟨#[UInt8.ofNat d]⟩)).extract 63 64 = ⟨#[sgn d]⟩ := by
  have e1 : ((⟨z.toArray⟩ : ByteArray) ++ ⟨#[UInt8.ofNat d]⟩)[31]! = UInt8.ofNat d := by
    have hs : ((⟨z.toArray⟩ : ByteArray) ++ ⟨#[UInt8.ofNat d]⟩).size = 32 := by rw [ByteArray.size_append]; simp [ByteArray.size, hz]
    rw [getElem!_pos _ 31 (by omega)]
    have hz2 : (⟨z.toArray⟩ : ByteArray).size = 31 := by simp [ByteArray.size, hz]
    exact (ByteArray.getElem_append_right (a := ⟨z.toArray⟩) (b := ⟨#[UInt8.ofNat d]⟩) (i := 31) (hle := by omega) (h := by omega)).trans (by simp [hz2]; rfl)
  have e2 : nib ((⟨z.toArray⟩ : ByteArray) ++ ⟨#[UInt8.ofNat d]⟩) 63 = d := by
    unfold nib
    rw [if_neg (by decide), show 63 / 2 = 31 from rfl, e1, UInt8.toNat_ofNat']
    omega
  apply ByteArray.ext
  rw [ByteArray.data_extract]
  apply Array.ext'
  show ((hexL _ 64).toArray.extract 63 64).toList = [sgn d]
  rw [Array.toList_extract]
  show ((hexL _ 64).drop 63).take 1 = [sgn d]
  unfold hexL
  rw [← List.map_drop, ← List.map_take, show ((List.range 64).drop 63).take 1 = [63] by decide]
  simp only [List.map_cons, List.map_nil, e2]
/-- The cell at the longer prefix. -/
theorem look_ext {a : List ByteArray} {p : ByteArray} {d : Nat} (h : IsSet a) (hp : pfxB p = true) (hz : p.size < 64) (hd : d < 16) : lookC a (ext p d) = cellC (belowL a (ext p d)) (ext p d) ∧ lookE a (ext p d) = 0 :=
  look_ok h (pfx_ext hp hz hd)
theorem kid_at {a : List ByteArray} {p : ByteArray} {d : Nat} (h : IsSet a) (hz : p.size < 64) (h8 : ¬ (belowL a p).length ≤ 8) (hd : d < 16) : (cellC (belowL a p) p).kids[d]! = (cellC (belowL a (ext p d)) (ext p d)).sum := by
  rw [cellC_kids, kids_are h hz h8, cellC_sum]
  rw [getElem!_pos _ d (by simp; exact hd)]
  simp [mineS]
theorem sum_many {l : List ByteArray} {p : ByteArray} (h8 : ¬ l.length ≤ 8) : (cellC l p).sum = innerS (cellC l p).kids := by
  rw [cellC_sum, cellC_kids]
  show (if l.length ≤ 8 then (leafS l, []) else (innerS (kidsG (fun r => (cellS 64 (p.size + 1) r).1) p.size 16 0 l), kidsG (fun r => (cellS 64 (p.size + 1) r).1) p.size 16 0 l)).1 = innerS (if l.length ≤ 8 then (leafS l, []) else (innerS (kidsG (fun r => (cellS 64 (p.size + 1) r).1) p.size 16 0 l), kidsG (fun r => (cellS 64 (p.size + 1) r).1) p.size 16 0 l)).2
  rw [if_neg h8]
theorem sum_few {l : List ByteArray} {p : ByteArray} (h8 : l.length ≤ 8) : (cellC l p).sum = leafS l := by
  rw [cellC_sum, cellS_few h8]
theorem catL_snoc (l : List ByteArray) (x : ByteArray) : catL (l ++ [x]) = catL l ++ x.data.toList := by simp [catL]
theorem catL_take {l : List ByteArray} {k : Nat} (hk : k < l.length) : catL (l.take (k + 1)) = catL (l.take k) ++ (l[k]!).data.toList := by
  rw [List.take_add_one, List.getElem?_eq_getElem hk, getElem!_pos l k hk]
  exact catL_snoc _ _
theorem mk_bytes (w : World) : (Instr.makeSlice 40 (.int .i64 29) (.int .i64 29)).run Tryz.prog w = .ok (.slice (some ⟨w.heap.size, 0, none⟩) 29 29) (w.alloc (.cells (Array.replicate 29 (.int .u8 0)) 5)) := by
  obtain ⟨i, hi, z0, z1, z2⟩ := info_parts Bld.infoU8
  have := run_makeSlice (P := Tryz.prog) (w := w) 40 5 i (.int .u8 0) Tryz.underlying40 hi z0 .i64 .i64 29 29 (by decide) (by decide) (by rw [z1]; decide) (by rw [z2]; decide) (by decide)
  rw [z1] at this
  have e : madeCells (Value.int IntKind.u8 0).cells (Int.toNat 29 * 1) = Array.replicate 29 (.int .u8 0) := by kernel_rfl
  rw [e] at this
  exact this
theorem zeros_text (W : World) (b n : Nat) (hb : BlkIs W b 5 (Array.replicate n (.int .u8 0))) (hn : n ≤ 1000) :
    (convert 40 9 (.slice (some ⟨b, 0, none⟩) n n)).run Tryz.prog W = .ok (.string ⟨(List.replicate n (0 : UInt8)).toArray⟩) W := by
  have hsl : SlIs W 0 5 1 (.slice (some ⟨b, 0, none⟩) n n) n (bcells (List.replicate n 0)) := by
    have := SlIs.made (n := n) (size := 1) (base := 0) hb (Nat.zero_le _) (by simp) (by unfold maxLen; omega)
    have e : bcells (List.replicate n 0) = (Array.replicate n (.int .u8 0 : Value)).toList := by
      simp [bcells]
    rw [e]
    exact this
  exact SlIs.text (P := Tryz.prog) (dst := 9) Tryz.underlying40 Tryz.underlying5 Tryz.underlying9 hsl
theorem three_text (W : World) (b : Nat) (p0 p1 p2 : UInt8) (hb : BlkIs W b 37 #[.int .u8 (p0.toNat : Int), .int .u8 (p1.toNat : Int), .int .u8 (p2.toNat : Int)]) :
    (convert 40 9 (.slice (some ⟨b, 0, none⟩) 3 3)).run Tryz.prog W = .ok (.string ⟨#[p0, p1, p2]⟩) W := by
  have := run_convert_bytes_back (P := Tryz.prog) W 40 9 5 ⟨b, 0, none⟩ 3 [p0, p1, p2] Tryz.underlying40 Tryz.underlying5 Tryz.underlying9 (fun j hj => by
    rw [Addr.add_lit, Nat.zero_add, hb.cell j]
    match j, hj with
    | 0, _ => rfl
    | 1, _ => rfl
    | 2, _ => rfl)
  exact this
theorem hex_pfx (x : ByteArray) (k : Nat) (hk : k ≤ 64) : pfxB ((hexS x).extract 0 k) = true ∧ ((hexS x).extract 0 k).size = k := by
  have hz : (hexS x).size = 64 := by simp [hexS, ByteArray.size, hexL_length]
  have hs : ((hexS x).extract 0 k).size = k := by rw [ByteArray.size_extract]; omega
  refine ⟨?_, hs⟩
  unfold pfxB
  rw [hs, decide_eq_true hk, Bool.true_and]
  refine dgOk_iff.2 fun i hi => ?_
  have hi2 : i < k := by omega
  have e : ((hexS x).extract 0 k)[i]'hi = sgn (nib x i) := by
    rw [ByteArray.getElem_extract]
    simp only [Nat.zero_add]
    have : (hexL x 64)[i]'(by rw [hexL_length]; omega) = sgn (nib x i) := by simp [hexL]
    exact this
  rw [e]
  exact sgn_dg ⟨nib x i, nib_lt x i⟩
theorem mk_31 (w : World) : (Instr.makeSlice 40 (.int .i64 31) (.int .i64 31)).run Tryz.prog w = .ok (.slice (some ⟨w.heap.size, 0, none⟩) 31 31) (w.alloc (.cells (Array.replicate 31 (.int .u8 0)) 5)) := by
  obtain ⟨i, hi, z0, z1, z2⟩ := info_parts Bld.infoU8
  have := run_makeSlice (P := Tryz.prog) (w := w) 40 5 i (.int .u8 0) Tryz.underlying40 hi z0 .i64 .i64 31 31 (by decide) (by decide) (by rw [z1]; decide) (by rw [z2]; decide) (by decide)
  rw [z1] at this
  have e : madeCells (Value.int IntKind.u8 0).cells (Int.toNat 31 * 1) = Array.replicate 31 (.int .u8 0) := by kernel_rfl
  rw [e] at this
  exact this
theorem byte_text (W : World) (b d : Nat) (hd : d < 256) (hb : BlkIs W b 5 #[.int .u8 (d : Int)]) :
    (convert 40 9 (.slice (some ⟨b, 0, none⟩) 1 1)).run Tryz.prog W = .ok (.string ⟨#[UInt8.ofNat d]⟩) W := by
  have hsl : SlIs W 0 5 1 (.slice (some ⟨b, 0, none⟩) 1 1) 1 (bcells [UInt8.ofNat d]) := by
    have := SlIs.made (n := 1) (size := 1) (base := 0) hb (Nat.zero_le _) rfl (by decide)
    have e : bcells [UInt8.ofNat d] = [.int .u8 (d : Int)] := by
      simp only [bcells, List.map_cons, List.map_nil, UInt8.toNat_ofNat']
      rw [Nat.mod_eq_of_lt (by omega)]
    rw [e]
    exact this
  exact SlIs.text (P := Tryz.prog) (dst := 9) Tryz.underlying40 Tryz.underlying5 Tryz.underlying9 hsl
/-- A drawn region's ways meet: what is shown of a state once serves every way to it. -/
theorem wp_region_via {P : Program} {id : Nat} {ops : Array Oper} {Q : Exit → Act → World → Prop} {a : Act} {w : World} {S : World → Prop} (n : Nat) (listed : Array Bool)
    (g : Act → Nat → Nat → Nat → Value → Value → Act) (C : Nat → Nat → Nat → Value → Value → World → Prop)
    (h2 : ∀ x y z u v W, C x y z u v W → wpAnyH P .any ops Q S n listed (g a x y z u v) W)
    (h1 : (∀ x y z u v W, C x y z u v W → wpAnyH P .any ops Q S n listed (g a x y z u v) W) → (Code.region id ops true).wp P Q a w) : (Code.region id ops true).wp P Q a w := h1 h2
theorem wpAnyH_cast {P : Program} {md : Region.Mode} {ops : Array Oper} {Q : Exit → Act → World → Prop} {S : World → Prop} {n n' : Nat} {listed listed' : Array Bool} {a : Act} {w : World} (hn : n = n') (hl : listed = listed')
    (h : wpAnyH P md ops Q S n' listed' a w) : wpAnyH P md ops Q S n listed a w := by
  subst hn; subst hl; exact h
/-- idx % 7, as the law draws it. -/
theorem idx_in7 (x : Int) : ∃ j : Nat, j < 7 ∧ IntKind.i64.wrap ((IntKind.u64.wrap x).tmod (7 : Int)) = (j : Int) := by
  have h0 : 0 ≤ IntKind.u64.wrap x := by
    show 0 ≤ x % _
    exact Int.emod_nonneg _ (by decide)
  refine ⟨((IntKind.u64.wrap x).tmod 7).toNat, ?_, ?_⟩
  · rw [Int.tmod_eq_emod_of_nonneg h0]; omega
  · rw [Int.tmod_eq_emod_of_nonneg h0]
    rw [IntWalk.i64_in _ (by omega)]
    omega
theorem few_kids {l : List ByteArray} {p q s : ByteArray} {n : Int} {is ks : List ByteArray} (h : (⟨q, n, s, is, ks⟩ : Cp) = cellC l p) (h8 : l.length ≤ 8) : ks.length = 0 := by
  have := cellC_kids l p
  rw [← h, cellS_few h8] at this
  rw [show ks = [] from this]
  rfl
theorem many_kids {a : List ByteArray} {p q s : ByteArray} {n : Int} {is ks : List ByteArray} (ha : IsSet a) (hp : pfxB p = true) (h : (⟨q, n, s, is, ks⟩ : Cp) = cellC (belowL a p) p) (h8 : ¬ (belowL a p).length ≤ 8) : ks.length = 16 := by
  have := cellC_kids (belowL a p) p
  rw [← h, kids_are ha (many_short ha hp h8) h8] at this
  rw [show ks = _ from this]
  simp
theorem many_sizes {a : List ByteArray} {p q s : ByteArray} {n : Int} {is ks : List ByteArray} (ha : IsSet a) (hp : pfxB p = true) (h : (⟨q, n, s, is, ks⟩ : Cp) = cellC (belowL a p) p) (h8 : ¬ (belowL a p).length ≤ 8) : ∀ x, x ∈ ks → x.size = 32 := by
  have := cellC_kids (belowL a p) p
  rw [← h, kids_are ha (many_short ha hp h8) h8] at this
  rw [show ks = _ from this]
  intro x hx
  obtain ⟨d, -, rfl⟩ := List.mem_map.1 hx
  exact cellS_size _ _ _
end Go.Proofs.YtjkhmjklmclpoaaGreat.Tr
