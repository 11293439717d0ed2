/- sorted: a set of ids out of arrays, walked. (Layer 10.) -/
import Derived.Test.YtjkhmjklmclpoaaGreatTrP
import Derived.Test.YtjkhmjklmclpoaaGreatMkSet2
namespace Go.Proofs.YtjkhmjklmclpoaaGreat.Tr
set_option linter.unusedVariables false
set_option linter.unusedSimpArgs false
open Go.RowKit Go.Lib
open Set (StrAt scells El Rise)
/-- Arrays of 32 bytes as they lie. -/
def B32At (w : World) (ao : Option Addr) (n : Nat) (f : Nat → List UInt8) : Prop :=
  (n : Int) ≤ 9223372036854775807 ∧ (0 < n → ∃ b off, ao = some ⟨b, off, none⟩ ∧ b < w.heap.size ∧ ∀ i, i < n → ∀ j, j < 32 → w.cell? ⟨b, off + i * 32 + j, none⟩ = some (.int .u8 ((f i)[j]!).toNat)) ∧ ∀ i, i < n → (f i).length = 32
theorem B32At.later {w w' : World} {ao : Option Addr} {n : Nat} {f : Nat → List UInt8} (h : B32At w ao n f) (hb : Below w.heap.size w w') : B32At w' ao n f := by
  refine ⟨h.1, fun hn => ?_, h.2.2⟩
  obtain ⟨b, off, ha, hlt, hc⟩ := h.2.1 hn
  exact ⟨b, off, ha, Nat.lt_of_lt_of_le hlt hb.size, fun i hi j hj => by rw [hb.cell hlt]; exact hc i hi j hj⟩
def b32 (l : List UInt8) : ByteArray := ⟨l.toArray⟩
theorem b32_size {l : List UInt8} (h : l.length = 32) : (b32 l).size = 32 := by simpa [b32, ByteArray.size] using h
/-- The ids of arrays. -/
def SetOf (n : Nat) (f : Nat → List UInt8) (l : List ByteArray) : Prop := IsSet l ∧ (∀ x, x ∈ l ↔ ∃ i, i < n ∧ x = b32 (f i)) ∧ l.length ≤ n
theorem b32_text (W : World) {b off : Nat} {l : List UInt8} (hl : l.length = 32) (h : ∀ j, j < 32 → W.cell? ⟨b, off + j, none⟩ = some (.int .u8 (l[j]!).toNat)) :
    (convert 40 9 (.slice (some ⟨b, off, none⟩) 32 32)).run Tryz.prog W = .ok (.string (b32 l)) W := by
  have := run_convert_bytes_back (P := Tryz.prog) W 40 9 5 ⟨b, off, none⟩ 32 l Tryz.underlying40 Tryz.underlying5 Tryz.underlying9 (fun j hj => by
    rw [Addr.add_lit, h j (by omega), getElem!_pos l j hj])
  rw [hl] at this
  exact this
set_option maxRecDepth 100000 in
set_option maxHeartbeats 2000000 in
theorem sorted_any (ao : Option Addr) (n cap : Nat) (f : Nat → List UInt8) (w : World) (h : B32At w ao n f) (hn : n ≤ 1000) :
    Calls Tryz.prog 18 #[.slice ao n cap] w fun e w' => ∃ u l, e = .returned u ∧ SlIs w' w.heap.size 9 1 u l.length (scells l) ∧ SetOf n f l ∧ Below w.heap.size w w' := by
  have HF := Lib.hid h
  have OF := Lib.hid (Set.of_string (.slice none 0 0) [] w (strAt_nil w) (by decide))
  clear h
  go_enter Tryz.func18, Tryz.ntmps18
  go_wp2_with fail
  refine OF.out.mono ?_
  rintro e w1 ⟨g, kv, vv, l0, rfl, hl0, hset, hb1⟩
  have hl0' : l0 = [] := by
    cases l0 with
    | nil => rfl
    | cons x r => exact absurd ((hl0.2 x).1 (List.mem_cons_self)) (by simp)
  subst hl0'
  have I0 := Lib.hid (And.intro hset hb1)
  clear OF hl0 hset hb1
  go_wp2_with fail
  go_loopw [4] (fun c wr => ∃ (k : Nat) (kv vv : Value) (l : List ByteArray), c = .int .i64 (k : Int) ∧ k ≤ n ∧ Hid (Set.StrSet wr w.heap.size g kv vv l ∧ (∀ x, x ∈ l ↔ ∃ i, i < k ∧ x = b32 (f i)) ∧ l.length ≤ k ∧ Below w.heap.size w wr)) (fun c _ => ((n : Int) - intOf c).toNat)
  case atStart => exact ⟨0, kv, vv, [], rfl, by omega, Lib.hid ⟨I0.out.1, fun x => ⟨fun h => absurd h (by simp), fun ⟨i, hi, _⟩ => by omega⟩, by simp, I0.out.2⟩⟩
  case round =>
    obtain ⟨k, kv, vv, l, rfl, hk, HK⟩ := hrel
    have hlk := HK.out.2.2.1
    rcases Nat.lt_or_ge k n with h1 | h1
    · have k1 : (k : Int) < n := by omega
      have kw : IntKind.i64.wrap ((k : Int) + 1) = ((k + 1 : Nat) : Int) := IntWalk.i64_in _ (by omega)
      obtain ⟨b, off, hao, hlt, hc⟩ := HF.out.2.1 (by omega)
      subst hao
      have hconv := b32_text wr (b := b) (off := off + k * 32) (HF.out.2.2 k h1) (fun j hj => by rw [HK.out.2.2.2.cell hlt]; exact hc k h1 j hj)
      obtain ⟨x, hx⟩ : ∃ x, x = b32 (f k) := ⟨_, rfl⟩
      rw [← hx] at hconv
      have HX := Lib.hid hx
      have AD := Lib.hid (Set.add_string w.heap.size g kv vv l x wr HK.out.1 (by omega))
      clear hc hx
      go_wp2_with fail
      refine AD.out.mono ?_
      rintro e w3 ⟨kv', vv', rfl, hset3, hchg, hown⟩
      have H3 := Lib.hid (show Set.StrSet w3 w.heap.size g kv' vv' (Set.ins x l) ∧ (∀ y, y ∈ Set.ins x l ↔ ∃ i, i < k + 1 ∧ y = b32 (f i)) ∧ (Set.ins x l).length ≤ k + 1 ∧ Below w.heap.size w w3 from by
        refine ⟨hset3, fun y => ?_, ?_, HK.out.2.2.2.trans (hchg.below HK.out.2.2.2.size fun j hj => (HK.out.1.own hj).1)⟩
        · rw [Set.mem_ins, HK.out.2.1 y]
          constructor
          · rintro (rfl | ⟨i, hi, he⟩)
            · exact ⟨k, by omega, HX.out⟩
            · exact ⟨i, by omega, he⟩
          · rintro ⟨i, hi, he⟩
            rcases Nat.lt_or_ge i k with h5 | h5
            · exact Or.inr ⟨i, h5, he⟩
            · obtain rfl : i = k := by omega
              exact Or.inl (he.trans HX.out.symm)
        · by_cases hm : x ∈ l
          · rw [Set.ins_of hm]; omega
          · rw [Set.ins_length hm]; omega)
      clear AD hset3 hchg hown hconv
      go_wp2_with fail
      refine ⟨⟨k + 1, kv', vv', _, by simp, by omega, H3⟩, ?_⟩
      simp [intOf]
      omega
    · have k1 : decide ((k : Int) < n) = false := decide_eq_false (by omega)
      have k2 : ¬ ((k : Int) < n) := by omega
      obtain rfl : k = n := by omega
      have LI := Lib.hid (Set.list_string w.heap.size g kv vv l wr HK.out.1 (by omega))
      go_wp2_with fail
      refine LI.out.mono ?_
      rintro e w3 ⟨u, rfl, hs, hb⟩
      have H3 := Lib.hid (show SlIs w3 w.heap.size 9 1 u l.length (scells l) ∧ Below w.heap.size w w3 from ⟨hs.mono HK.out.2.2.2.size, HK.out.2.2.2.trans (hb.mono HK.out.2.2.2.size)⟩)
      clear LI hs hb
      go_wp2_with fail
      go_ret
      refine ⟨_, l, rfl, H3.out.1, ⟨isSet_of HK.out.1.rise fun x hx => ?_, HK.out.2.1, HK.out.2.2.1⟩, H3.out.2⟩
      obtain ⟨i, hi, rfl⟩ := (HK.out.2.1 x).1 hx
      exact b32_size (HF.out.2.2 i hi)
end Go.Proofs.YtjkhmjklmclpoaaGreat.Tr
