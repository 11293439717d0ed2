/- object.Links, walked: what an object names, rising, each once. Conditions: at most 1,000,000 entries; the slices readable. -/
import Derived.Test.YtmdchfmcghiaeaaLinkSort
import Derived.Test.YtmdchfmcghiaeaaEncodeAll
namespace Go.Proofs.Ytmdchfmcghiaeaa.Obj
set_option linter.unusedVariables false
open Go.RowKit Go.Sort Go.Lib
open Oct (Moved)
/-- The first n links as cells. -/
def lcells (f : Nat → Lk) : Nat → List Value
  | 0 => []
  | k + 1 => lcells f k ++ encL (f k)
theorem lcells_length (f : Nat → Lk) : ∀ n, (lcells f n).length = n * 2
  | 0 => rfl
  | k + 1 => by rw [lcells, List.length_append, lcells_length f k, encL_length]; omega
theorem lcells_get (f : Nat → Lk) : ∀ n i, i < n → (lcells f n)[i * 2]? = some (.int .i64 (f i).1) ∧ (lcells f n)[i * 2 + 1]? = some (.string (f i).2)
  | k + 1, i, h => by
    rw [lcells]
    have hl := lcells_length f k
    rcases Nat.lt_or_ge i k with h' | h'
    · rw [List.getElem?_append_left (by omega), List.getElem?_append_left (by omega)]
      exact lcells_get f k i h'
    · obtain rfl : i = k := by omega
      rw [List.getElem?_append_right (by omega), List.getElem?_append_right (by omega), hl]
      simp [encL, show i * 2 + 1 - i * 2 = 1 by omega]
theorem lcells_congr {f g : Nat → Lk} : ∀ n, (∀ i, i < n → f i = g i) → lcells f n = lcells g n
  | 0, _ => rfl
  | k + 1, h => by rw [lcells, lcells, lcells_congr k fun i hi => h i (by omega), h k (by omega)]
theorem el_link : ElemOk Try.prog 50 53 2 24 := ElemOk.mk' (z := .agg #[.int .i64 0, .string ⟨#[]⟩]) Try.underlying50 (by kernel_rfl) rfl
/-- The row of the first n links. -/
def rowL (f : Nat → Lk) (n : Nat) : Array Lk := ((List.range n).map f).toArray
theorem rowL_size (f : Nat → Lk) (n : Nat) : (rowL f n).size = n := by simp [rowL]
theorem rowL_get (f : Nat → Lk) (n i : Nat) (hi : i < n) : (rowL f n)[i]! = f i := by simp [rowL, hi]
theorem holds_sl {w : World} {base n : Nat} {e : TypeId} {v : Value} {f : Nat → Lk} (h : SlIs w base e 2 v n (lcells f n)) (hn : 0 < n) :
    ∃ g off cap, v = .slice (some ⟨g, off, none⟩) n cap ∧ base ≤ g ∧ g < w.heap.size ∧ n ≤ cap ∧ cap ≤ maxLen ∧ HoldsK encL 2 w g off (rowL f n) := by
  obtain ⟨g, off, cap, hv, hg, hlt, hc, hm, hcell, hfr⟩ := h.at_ hn
  have hl := lcells_length f n
  refine ⟨g, off, cap, hv, hg, hlt, hc, hm, fun j hj => ?_⟩
  have hj' : j < n * 2 := by simpa [size_flatK, rowL_size] using hj
  have hd : j / 2 < n := by omega
  refine ⟨?_, hfr j (by omega)⟩
  rw [hcell j (by omega), get_flatK _ _ _ _ (by rw [rowL_size]; exact hj'), rowL_get f n _ hd]
  obtain ⟨e0, e1⟩ := lcells_get f n (j / 2) hd
  rcases Nat.mod_two_eq_zero_or_one j with h0 | h0
  · rw [h0, show (lcells f n)[j]? = (lcells f n)[j / 2 * 2]? from by congr 1; omega, e0]
    rfl
  · rw [h0, show (lcells f n)[j]? = (lcells f n)[j / 2 * 2 + 1]? from by congr 1; omega, e1]
    rfl
/-- Sorted, and each once. -/
def srtL (f : Nat → Lk) (n : Nat) : Array Lk := ((rowL f n).toList.mergeSort fun x y => !(ltOf cfL) y x).toArray
theorem srtL_size (f : Nat → Lk) (n : Nat) : (srtL f n).size = n := by simp [srtL, rowL]
def outL (f : Nat → Lk) (n : Nat) : List Lk := compactUpTo (srtL f n) n
/-- The slice behind the sort. -/
def SortedAt (w : World) (base : Nat) (v : Value) (n : Nat) (f : Nat → Lk) : Prop :=
  ∃ ao cap, v = .slice ao n cap ∧ n ≤ cap ∧ (0 < n → ∃ g off, ao = some ⟨g, off, none⟩ ∧ base ≤ g ∧ g < w.heap.size ∧ HoldsK encL 2 w g off (srtL f n))
theorem sort_sl (base n : Nat) (f : Nat → Lk) (v : Value) (w : World) (h : SlIs w base 53 2 v n (lcells f n)) (hb : base ≤ w.heap.size) (hn : n < 4611686018427387904) :
    Calls Try.prog 66 #[v, .func (.func 67) #[] #[]] w fun e w' => e = .returned (.tuple #[]) ∧ SortedAt w' base v n f ∧ Below base w w' := by
  rcases Nat.eq_zero_or_pos n with rfl | h0
  · obtain ⟨ao, cap, rfl, _, _, _⟩ := h.form
    refine (sort_none ao cap w).mono ?_
    rintro e w' ⟨rfl, rfl⟩
    exact ⟨rfl, ⟨ao, cap, rfl, by omega, fun hh => absurd hh (by omega)⟩, Below.refl _ _⟩
  · obtain ⟨g, off, cap, rfl, hg, hlt, hc, hm, hH⟩ := holds_sl h h0
    have S := sort_link g off cap (rowL f n) w hH hlt (by rw [rowL_size]; exact hn)
    rw [rowL_size] at S
    refine S.mono ?_
    rintro e w' ⟨rfl, q, os, rfl⟩
    have hp : HoldsK encL 2 (putRowK encL 2 (Sort.ahead w q) g off (srtL f n)) g off (srtL f n) := holdsK_putRowK encL 2 _ g off (rowL f n) _ (holdsK_ahead encL 2 w q g off _ hH) (by rw [srtL_size, rowL_size])
    have hm := moved_putRowK w q g off (srtL f n)
    have hlt' : g < (putRowK encL 2 (Sort.ahead w q) g off (srtL f n)).heap.size := Nat.lt_of_lt_of_le hlt hm.size
    have hgr : Below (putRowK encL 2 (Sort.ahead w q) g off (srtL f n)).heap.size (putRowK encL 2 (Sort.ahead w q) g off (srtL f n)) (grow (putRowK encL 2 (Sort.ahead w q) g off (srtL f n)) os) :=
      ⟨rfl, rfl, rfl, by simp [grow], fun k hk => by simp [grow, Array.getElem?_append, hk]⟩
    refine ⟨rfl, ⟨_, cap, rfl, hc, fun _ => ⟨g, off, rfl, hg, Nat.lt_of_lt_of_le hlt' hgr.size, ?_⟩⟩, ?_⟩
    · exact holdsK_grow encL 2 _ os g off _ hlt' hp
    · exact ((hm.below (Nat.le_of_lt hlt)).mono hg).trans (hgr.mono (Nat.le_trans hb hm.size))
/-- Links handed back. -/
def LinksOut (w : World) (v : Value) (l : List Lk) : Prop := ∃ ao cap, v = .slice ao l.length cap ∧ LinksAt w ao l.length (fun i => l[i]!)
theorem LinksOut.later {w w' : World} {v : Value} {l : List Lk} (h : LinksOut w v l) (hb : Below w.heap.size w w') : LinksOut w' v l := by
  obtain ⟨ao, cap, hv, hl⟩ := h
  exact ⟨ao, cap, hv, hl.later hb⟩
theorem compact_none (ao : Option Addr) (cap : Nat) (w : World) : Calls Try.prog 71 #[.slice ao 0 cap] w fun e w' => e = .returned (.slice ao 0 cap) ∧ w = w' := by
  go_enter Try.func71, Try.ntmps71
  go_wp2_with fail
  go_ret
  exact ⟨rfl, rfl⟩
theorem compact_sl (base n : Nat) (f : Nat → Lk) (v : Value) (w : World) (h : SortedAt w base v n f) (hb : base ≤ w.heap.size) (hn : n ≤ 9223372036854775807) :
    Calls Try.prog 71 #[v] w fun e w' => (∃ u, e = .returned u ∧ LinksOut w' u (outL f n)) ∧ Below base w w' := by
  obtain ⟨ao, cap, rfl, hc, h1⟩ := h
  rcases Nat.eq_zero_or_pos n with rfl | h0
  · refine (compact_none ao cap w).mono ?_
    rintro e w' ⟨rfl, rfl⟩
    exact ⟨⟨_, rfl, ao, cap, rfl, by show ((0 : Nat) : Int) ≤ _; decide, fun hh => absurd hh (Nat.lt_irrefl 0)⟩, Below.refl _ _⟩
  · obtain ⟨g, off, rfl, hg, hlt, hH⟩ := h1 h0
    have C := compact_link g off cap (srtL f n) w hH hlt (by rw [srtL_size]; exact hn) (by rw [srtL_size]; exact hc)
    rw [srtL_size] at C
    refine C.mono ?_
    rintro e w' ⟨⟨rfl, h2, h3⟩, -⟩
    rw [srtL_size] at h2 ⊢
    exact ⟨⟨_, rfl, _, cap, rfl, h2⟩, (h3.below (Nat.le_of_lt hlt)).mono hg⟩
end Go.Proofs.Ytmdchfmcghiaeaa.Obj
