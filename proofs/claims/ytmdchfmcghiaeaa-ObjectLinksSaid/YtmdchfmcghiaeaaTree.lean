/- object.goodTree, walked. No conditions but the slice's own cells. -/
import Derived.Test.YtmdchfmcghiaeaaGood
namespace Go.Proofs.Ytmdchfmcghiaeaa.Obj
open Go.RowKit
/-- The entries of a slice, and where they lie. -/
def EntsAt (w : World) (ao : Option Addr) (n : Nat) (nm : Nat → ByteArray) (kd : Nat → Int) (id : Nat → ByteArray) : Prop :=
  (n : Int) ≤ 9223372036854775807 ∧ (0 < n → ∃ b off, ao = some ⟨b, off, none⟩ ∧ b < w.heap.size ∧
    ∀ i, i < n → w.cell? ⟨b, off + i * 3, none⟩ = some (.string (nm i)) ∧ w.cell? ⟨b, off + i * 3 + 1, none⟩ = some (.int .i64 (kd i)) ∧ w.cell? ⟨b, off + i * 3 + 2, none⟩ = some (.string (id i)))
theorem EntsAt.later {w w' : World} {ao : Option Addr} {n : Nat} {nm : Nat → ByteArray} {kd : Nat → Int} {id : Nat → ByteArray} (h : EntsAt w ao n nm kd id) (hb : Below w.heap.size w w') : EntsAt w' ao n nm kd id := by
  refine ⟨h.1, fun hn => ?_⟩
  obtain ⟨b, off, ha, hlt, hc⟩ := h.2 hn
  exact ⟨b, off, ha, Nat.lt_of_lt_of_le hlt hb.size, fun i hi => by rw [hb.cell hlt, hb.cell hlt, hb.cell hlt]; exact hc i hi⟩
/-- Whether one entry, and each of the first n, can be a tree's. -/
def entOk (nm : ByteArray) (kd : Int) (id : ByteArray) : Bool := Path.nameOk nm && (kd == 1 || kd == 2) && ((id.size : Int) == 32)
def entsOk (nm : Nat → ByteArray) (kd : Nat → Int) (id : Nat → ByteArray) : Nat → Bool
  | 0 => true
  | k + 1 => entsOk nm kd id k && entOk (nm k) (kd k) (id k)
theorem entsOk_false (nm : Nat → ByteArray) (kd : Nat → Int) (id : Nat → ByteArray) (k : Nat) : ∀ d, entsOk nm kd id k = false → entsOk nm kd id (k + d) = false
  | 0, h => h
  | d + 1, h => by show (entsOk nm kd id (k + d) && _) = false; rw [entsOk_false nm kd id k d h]; rfl
def treeOk (n : Nat) (nm : Nat → ByteArray) (kd : Nat → Int) (id : Nat → ByteArray) : Bool := entsOk nm kd id n && decide ((n : Int) ≤ 256) && rises nm n
/-- The first n texts as cells. -/
def texts (f : Nat → ByteArray) : Nat → List Value
  | 0 => []
  | k + 1 => texts f k ++ [.string (f k)]
theorem texts_length (f : Nat → ByteArray) : ∀ n, (texts f n).length = n
  | 0 => rfl
  | k + 1 => by rw [texts, List.length_append, texts_length f k]; rfl
theorem texts_get (f : Nat → ByteArray) : ∀ n i, i < n → (texts f n)[i]? = some (.string (f i))
  | k + 1, i, h => by
    rw [texts]
    rcases Nat.lt_or_ge i k with h' | h'
    · rw [List.getElem?_append_left (by rw [texts_length]; exact h')]; exact texts_get f k i h'
    · obtain rfl : i = k := by omega
      rw [List.getElem?_append_right (by rw [texts_length]; exact Nat.le_refl _), texts_length]; simp
theorem StrsAt.own {w : World} {base n : Nat} {e : TypeId} {v : Value} {f : Nat → ByteArray} (h : SlIs w base e 1 v n (texts f n)) : ∃ ao cap, v = .slice ao n cap ∧ StrsAt w ao n f := by
  obtain ⟨ao, cap, rfl, h1, h2, h3⟩ := h.form
  refine ⟨ao, cap, rfl, by unfold maxLen at h2; omega, fun hn => ?_⟩
  obtain ⟨g, off, cap', hv, hg, hlt, _, _, hc, _⟩ := h.at_ hn
  obtain ⟨rfl, _, _⟩ : ao = some ⟨g, off, none⟩ ∧ n = n ∧ cap = cap' := by simpa using hv
  exact ⟨g, off, rfl, hlt, fun i hi => by rw [hc i (by rw [texts_length]; exact hi)]; exact texts_get f n i hi⟩
theorem el_str : ElemOk Try.prog 25 9 1 16 := ElemOk.mk' (z := .string ⟨#[]⟩) Try.underlying25 (by kernel_rfl) rfl
set_option maxRecDepth 100000 in
set_option maxHeartbeats 1000000 in
theorem tree_any (ao : Option Addr) (n cap : Nat) (nm : Nat → ByteArray) (kd : Nat → Int) (id : Nat → ByteArray) (w : World) (h : EntsAt w ao n nm kd id) (hn : n ≤ 1000000) :
    Calls Try.prog 61 #[.slice ao n cap] w fun e w' => e = .returned (.bool (treeOk n nm kd id)) ∧ Below w.heap.size w w' := by
  obtain ⟨hm, hc⟩ := h
  have Hc := Lib.hid hc
  clear hc
  go_enter Try.func61, Try.ntmps61
  go_wp2_with fail
  go_loopw [3, 8] (fun v i wr => ∃ k : Nat, i = .int .i64 (k : Int) ∧ k ≤ n ∧ entsOk nm kd id k = true ∧ SlIs wr w.heap.size 9 1 v k (texts nm k) ∧ Below w.heap.size w wr) (fun _ i _ => ((n : Int) - intOf i).toNat)
  case atStart => exact ⟨0, rfl, by omega, rfl, SlIs.nil_ _ _ _ _, Below.refl _ _⟩
  case round =>
    obtain ⟨k, rfl, hk, hr, hs, hb⟩ := hrel
    have H := Lib.hid (And.intro hr (And.intro hs hb))
    clear hr hs hb
    rcases Nat.lt_or_ge k n with hk1 | hk1
    · obtain ⟨b, off, rfl, hb, hcell⟩ := Hc.out (by omega)
      have c0 : wr.cell? ⟨b, off + k * 3, none⟩ = some (.string (nm k)) := by rw [H.out.2.2.cell hb]; exact (hcell k hk1).1
      have c1 : wr.cell? ⟨b, off + k * 3 + 1, none⟩ = some (.int .i64 (kd k)) := by rw [H.out.2.2.cell hb]; exact (hcell k hk1).2.1
      have c2 : wr.cell? ⟨b, off + k * 3 + 2, none⟩ = some (.string (id k)) := by rw [H.out.2.2.cell hb]; exact (hcell k hk1).2.2
      have ki : (k : Int) < n := by omega
      clear hcell
      go_wp2_with fail
      refine (Path.path_good (nm k) _).mono ?_
      rintro e w1 ⟨rfl, rfl⟩
      have hbw := H.out.2.2.size
      have hno : entOk (nm k) (kd k) (id k) = false → treeOk n nm kd id = false := fun hx => by
        have := entsOk_false nm kd id (k + 1) (n - (k + 1)) (by rw [entsOk, hx, Bool.and_false])
        rw [show k + 1 + (n - (k + 1)) = n by omega] at this
        rw [treeOk, this]; rfl
      have Hno := Lib.hid hno
      clear hno c0 c1 c2
      cases hg : Path.nameOk (nm k)
      · go_wp2_with fail
        go_ret
        exact ⟨by rw [Hno.out (by rw [entOk, hg]; rfl)]; rfl, H.out.2.2.alloc hbw _⟩
      obtain ⟨q, hq⟩ : ∃ q, (kd k == 1 || kd k == 2) = q := ⟨_, rfl⟩
      cases q
      · have q1 : (kd k == 1) = false := by cases h1 : (kd k == 1) <;> simp_all
        have q2 : (kd k == 2) = false := by cases h1 : (kd k == 2) <;> simp_all
        have x1 : (kd k != 1) = true := by rw [bne, q1]; rfl
        have x2 : (kd k != 2) = true := by rw [bne, q2]; rfl
        go_wp2_with fail
        go_ret
        exact ⟨by rw [Hno.out (by rw [entOk, hq, Bool.and_false]; rfl)]; rfl, H.out.2.2.alloc hbw _⟩
      have hk12 : kd k = 1 ∨ kd k = 2 := by simpa using hq
      rcases hk12 with h12 | h12
      all_goals
        have Hq := Lib.hid hq
        clear hq
        rw [h12]
        go_wp2_with fail
        refine (Path.ident_good (id k) _).mono ?_
        rintro e w2 ⟨rfl, rfl⟩
        cases hid : (((id k).size : Int) == 32)
        · go_wp2_with fail
          go_ret
          exact ⟨by rw [Hno.out (by rw [entOk, hid, Bool.and_false])]; rfl, H.out.2.2.alloc hbw _⟩
        have Hid := Lib.hid (And.intro hid hg)
        clear hid hg
        obtain ⟨ao1, cap1, rfl, hnc1, hcm1, hao1⟩ := H.out.2.1.form
        have hkn : k ≤ 1000000 := by omega
        go_wp2_with (first
          | (at_builtin
             refine wpList_append_sl rfl _ _ _ 25 rfl el_str (.slice ao1 k cap1) k (texts nm k) rfl ((H.out.2.1.alloc _).alloc _) _ 1 [.string (nm k)] rfl (SrcIs.own Try.underlying25 (SlIs.made (base := 0) (BlkIs.new2 _ _ _ _) (Nat.zero_le _) rfl (by decide))) (by intro u hu; rcases List.mem_singleton.1 hu with rfl; rfl) (by unfold maxLen; omega) (by omega) (by simp only [World.size_alloc]; omega) ?_
             intro v1 w1 hs1 hg1 hat1
             have hb1 := ((H.out.2.2.alloc hbw _).alloc (by simp only [World.size_alloc]; omega) _).grown hg1 (by simp only [World.size_alloc]; omega) fun j hj => (H.out.2.1.lt j hj).1
             have H2 := Lib.hid (And.intro hs1 hb1)
             clear hs1 hb1 hg1 hat1 hao1))
        refine ⟨⟨k + 1, rfl, hk1, ?_, H2.out.1, H2.out.2⟩, ?_⟩
        · rw [entsOk, H.out.1, entOk, Hid.out.1, Hid.out.2, Hq.out]; rfl
        · simp [intOf]; omega
    · have ki : (n : Int) ≤ (k : Int) := by omega
      obtain ⟨ao', cap', rfl, hs'⟩ := StrsAt.own H.out.2.1
      obtain rfl : k = n := by omega
      have HR := Lib.hid (rising_any ao' k cap' nm wr hs')
      by_cases h256 : (k : Int) ≤ 256
      · go_wp2_with fail
        refine HR.out.mono ?_
        rintro e w2 ⟨rfl, hb2⟩
        go_wp2_with fail
        go_ret
        exact ⟨by rw [treeOk, H.out.1, decide_eq_true h256]; rfl, H.out.2.2.trans (hb2.mono H.out.2.2.size)⟩
      · have hx : decide ((k : Int) ≤ 256) = false := decide_eq_false h256
        have h256' : 256 < (k : Int) := by omega
        clear h256
        go_wp2_with fail
        go_ret
        exact ⟨by rw [treeOk, hx, Bool.and_false]; rfl, H.out.2.2⟩
end Go.Proofs.Ytmdchfmcghiaeaa.Obj
