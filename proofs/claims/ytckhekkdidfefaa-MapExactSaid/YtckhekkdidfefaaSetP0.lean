/- Pairs of a text and a number, two cells each: rows that can be read; reliquaryref08.Get, walked. (Layer 08.) -/
import Derived.Test.YtckhekkdidfefaaSetMC
namespace Go.Proofs.Ytckhekkdidfefaa.Set
set_option linter.unusedVariables false
open Go.RowKit Go.Sort Go.Lib
theorem el_pair : ElemOk Try.prog 35 50 2 24 := ElemOk.mk' (z := .agg #[.string ⟨#[]⟩, .int .i64 0]) Try.underlying35 (by kernel_rfl) rfl
/-- A row of pairs that can be read. -/
def PairAt (w : World) (v : Value) (L : Row) : Prop := ∃ (ao : Option Addr) (cap : Nat), v = .slice ao L.length cap ∧ L.length ≤ cap ∧ cap ≤ maxLen ∧
  (0 < L.length → ∃ b off, ao = some ⟨b, off, none⟩ ∧ b < w.heap.size ∧ ∀ i (h : i < L.length), w.cell? ⟨b, off + i * 2, none⟩ = some (.string L[i].1) ∧ w.cell? ⟨b, off + i * 2 + 1, none⟩ = some (.int .i64 L[i].2))
theorem PairAt.later {w w' : World} {v : Value} {L : Row} (h : PairAt w v L) (hb : Below w.heap.size w w') : PairAt w' v L := by
  obtain ⟨ao, cap, hv, h1, h2, h3⟩ := h
  refine ⟨ao, cap, hv, h1, h2, fun hn => ?_⟩
  obtain ⟨b, off, ha, hlt, hc⟩ := h3 hn
  exact ⟨b, off, ha, Nat.lt_of_lt_of_le hlt hb.size, fun i hi => by rw [hb.cell hlt, hb.cell hlt]; exact hc i hi⟩
/-- The same, its row in no block of S. -/
def PairOff (S : Nat → Prop) (w : World) (v : Value) (L : Row) : Prop := ∃ (ao : Option Addr) (cap : Nat), v = .slice ao L.length cap ∧ L.length ≤ cap ∧ cap ≤ maxLen ∧
  (0 < L.length → ∃ b off, ao = some ⟨b, off, none⟩ ∧ b < w.heap.size ∧ ¬ S b ∧ ∀ i (h : i < L.length), w.cell? ⟨b, off + i * 2, none⟩ = some (.string L[i].1) ∧ w.cell? ⟨b, off + i * 2 + 1, none⟩ = some (.int .i64 L[i].2))
theorem PairOff.at_ {S : Nat → Prop} {w : World} {v : Value} {L : Row} (h : PairOff S w v L) : PairAt w v L := by
  obtain ⟨ao, cap, hv, h1, h2, h3⟩ := h
  refine ⟨ao, cap, hv, h1, h2, fun hn => ?_⟩
  obtain ⟨b, off, ha, hlt, -, hc⟩ := h3 hn
  exact ⟨b, off, ha, hlt, hc⟩
theorem PairOff.chg {S S' : Nat → Prop} {w w' : World} {v : Value} {L : Row} (h : PairOff S w v L) (hc : Chg S w w') (hs : ∀ k, S' k → S k ∨ w.heap.size ≤ k) : PairOff S' w' v L := by
  obtain ⟨ao, cap, hv, h1, h2, h3⟩ := h
  refine ⟨ao, cap, hv, h1, h2, fun hn => ?_⟩
  obtain ⟨b, off, ha, hlt, hb, hx⟩ := h3 hn
  have hk := hc.block b hlt hb
  have hcell : ∀ o, w'.cell? ⟨b, o, none⟩ = w.cell? ⟨b, o, none⟩ := fun o => by unfold World.cell?; simp only [hk]
  refine ⟨b, off, ha, Nat.lt_of_lt_of_le hlt hc.size, fun h => ?_, fun i hi => by rw [hcell, hcell]; exact hx i hi⟩
  rcases hs b h with h | h
  · exact hb h
  · omega
theorem ref_get (v : Value) (L : Row) (x : ByteArray) (w : World) (h : PairAt w v L) (hr : Rise (ks L)) (hn : L.length ≤ 1000000) :
    Calls Try.prog 21 #[v, .string x] w fun e w' => e = .returned (.tuple #[.int .i64 (mget L x), .bool (has (ks L) x)]) ∧ w = w' := by
  obtain ⟨ao, cap, rfl, hlc, hcm, hcell⟩ := h
  have HC := Lib.hid hcell
  have HR := Lib.hid hr
  obtain ⟨n, hnn⟩ : ∃ n, n = L.length := ⟨_, rfl⟩
  rw [← hnn] at hn hlc ⊢
  have HL := Lib.hid hnn
  clear hcell hr hnn
  go_enter Try.func21, Try.ntmps21
  go_wp2_with fail
  go_loopw [6] (fun i wr => ∃ k : Nat, i = .int .i64 (k : Int) ∧ k ≤ n ∧ Hid (¬ x ∈ (ks L).take k) ∧ w = wr) (fun i _ => n - (intOf i).toNat)
  case atStart => exact ⟨0, rfl, Nat.zero_le _, Lib.hid (by simp), rfl⟩
  case round =>
    obtain ⟨k, rfl, hkl, HM, rfl⟩ := hrel
    rcases Nat.lt_or_ge k n with hlt | hge
    · have ki : (k : Int) < n := by omega
      have hkL : k < L.length := by rw [← HL.out]; exact hlt
      obtain ⟨bb, off, rfl, hblt, hcell⟩ := HC.out (by omega)
      obtain ⟨c0, c1⟩ := hcell k hkL
      obtain ⟨y, hy⟩ : ∃ y, y = L[k].1 := ⟨_, rfl⟩
      obtain ⟨u, hu⟩ : ∃ u, u = L[k].2 := ⟨_, rfl⟩
      rw [← hy] at c0
      rw [← hu] at c1
      have HY := Lib.hid (And.intro hy hu)
      clear hcell hy hu
      obtain ⟨c, hc⟩ : ∃ c, c = (y.toList == x.toList) := ⟨_, rfl⟩
      have hcc := hc.symm
      have hcu : c = true ↔ y = x := by rw [hc, beq_iff_eq, ByteArray.toList_eq, ByteArray.toList_eq]; exact ⟨bytes_inj, fun h => by rw [h]⟩
      have HU := Lib.hid hcu
      clear hc hcu
      cases c
      · go_wp2_with fail
        refine ⟨⟨k + 1, by simp, by omega, Lib.hid ?_, trivial⟩, by simp [intOf]; omega⟩
        rw [take_snoc (by rw [ks_len]; exact hkL), List.mem_append, List.mem_singleton, List.getElem_map, ← HY.out.1]
        rintro (h1 | h1)
        · exact HM.out h1
        · have := HU.out.2 h1.symm
          cases this
      · go_wp2_with fail
        go_ret2
        have hyx := HU.out.1 (by simp)
        have hm : (x, u) ∈ L := by rw [← hyx, HY.out.1, HY.out.2]; exact List.getElem_mem hkL
        exact ⟨by rw [has_true (mem_key hm), mget_mem HR.out hm]; rfl, rfl⟩
    · have ki : decide ((k : Int) < n) = false := decide_eq_false (by omega)
      obtain rfl : k = n := by omega
      go_wp2_with fail
      go_ret2
      have hx := HM.out
      rw [HL.out, ← ks_len L, List.take_length] at hx
      exact ⟨by rw [has_false hx, mget_out hx]; rfl, rfl⟩
end Go.Proofs.Ytckhekkdidfefaa.Set
