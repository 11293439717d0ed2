/- Texts in a slice; whether one is too long; objects' ids, sorted: pack.items, walked. Conditions: at most 1,000,000 texts of 2^47 bytes, readable. (Layer 07.) -/
import Derived.Test.YtabgpleiobpeoaaCrc1
import Derived.Test.YtabgpleiobpeoaaSha5
import Derived.Test.YtabgpleiobpeoaaShelf
import Derived.Test.YtabgpleiobpeoaaSort
import Derived.Test.YtabgpleiobpeoaaRegion
import Derived.Shelf.GgSortFunc.RowK
import Derived.Sort.Grow
import Derived.Lib.Bytealg
namespace Go.Proofs.Ytabgpleiobpeoaa.Pak
set_option linter.unusedVariables false
open Go.RowKit Go.Sort Go.Lib
/-- The strings of a slice, and where they lie. -/
def StrsAt (w : World) (ao : Option Addr) (l : List ByteArray) : Prop :=
  (l.length : Int) ≤ 9223372036854775807 ∧ (0 < l.length → ∃ b off, ao = some ⟨b, off, none⟩ ∧ b < w.heap.size ∧ ∀ i (h : i < l.length), w.cell? ⟨b, off + i, none⟩ = some (.string l[i]))
theorem StrsAt.later {w w' : World} {ao : Option Addr} {l : List ByteArray} (h : StrsAt w ao l) (hb : Below w.heap.size w w') : StrsAt w' ao l := by
  refine ⟨h.1, fun hn => ?_⟩
  obtain ⟨b, off, ha, hlt, hc⟩ := h.2 hn
  exact ⟨b, off, ha, Nat.lt_of_lt_of_le hlt hb.size, fun i hi => by rw [hb.cell hlt, hc i hi]⟩
def scells (l : List ByteArray) : List Value := l.map fun s => .string s
theorem StrsAt.own {w : World} {base : Nat} {e : TypeId} {v : Value} {l : List ByteArray} (h : SlIs w base e 1 v l.length (scells l)) : ∃ ao cap, v = .slice ao l.length cap ∧ StrsAt w ao l := by
  obtain ⟨ao, cap, hv, h1, h2, h3⟩ := h.form
  refine ⟨ao, cap, hv, by unfold maxLen at h2; omega, fun hn => ?_⟩
  obtain ⟨g, off, cap', hv', hg, hlt, hc, hm, hcell, _⟩ := h.at_ hn
  rw [hv] at hv'
  injection hv' with e1 e2 e3
  refine ⟨g, off, e1, hlt, fun i hi => ?_⟩
  have hi' : i < (scells l).length := by simpa [scells] using hi
  rw [hcell i hi']
  simp [scells, hi]
/-- Whether something holds, as a bool. -/
noncomputable def holds (p : Prop) : Bool := @decide p (Classical.propDecidable p)
theorem holds_true {p : Prop} (h : p) : holds p = true := by unfold holds; exact @decide_eq_true p (Classical.propDecidable p) h
theorem holds_false {p : Prop} (h : ¬ p) : holds p = false := by unfold holds; exact @decide_eq_false p (Classical.propDecidable p) h
theorem tooLong_any (s : ByteArray) (w : World) : Calls Try.prog 18 #[.string s] w fun e w' => e = .returned (.bool (decide ((131072 : Int) < s.size))) ∧ w = w' := by
  go_enter Try.func18, Try.ntmps18
  go_wp2_with fail
  go_ret
  exact ⟨rfl, rfl⟩
/-- The first of texts that is too long; -1: none. -/
theorem indexLong_any (ao : Option Addr) (cap : Nat) (l : List ByteArray) (w : World) (h : StrsAt w ao l) :
    Calls Try.prog 41 #[.slice ao l.length cap, .func (.func 18) #[] #[]] w fun e w' => (∃ r : Int, e = .returned (.int .i64 r) ∧ (0 ≤ r ↔ ∃ s ∈ l, 131072 < s.size)) ∧ w = w' := by
  obtain ⟨hm, hc⟩ := h
  have Hc := Lib.hid hc
  clear hc
  go_enter Try.func41, Try.ntmps41
  go_wp2_with fail
  go_loopw [8] (fun i wr => ∃ k : Nat, i = .int .i64 (k : Int) ∧ k ≤ l.length ∧ Hid (∀ j (h : j < l.length), j < k → l[j].size ≤ 131072) ∧ w = wr) (fun i _ => ((l.length : Int) - intOf i).toNat)
  case atStart => exact ⟨0, rfl, by omega, Lib.hid (fun j h hj => by omega), rfl⟩
  case round =>
    obtain ⟨k, rfl, hk, hb, rfl⟩ := hrel
    rcases Nat.lt_or_ge k l.length with hk1 | hk1
    · obtain ⟨b, off, rfl, hlt, hcell⟩ := Hc.out (by omega)
      have c0 := hcell k hk1
      have ki : (k : Int) < l.length := by omega
      have HM := Lib.hid (List.getElem_mem hk1)
      obtain ⟨y, hy⟩ : ∃ y, y = l[k] := ⟨_, rfl⟩
      rw [← hy] at c0 HM
      have HY := Lib.hid hy
      have C := Lib.hid (tooLong_any y w)
      clear hcell hy
      by_cases hg : 131072 < y.size
      · have hg' : decide ((131072 : Int) < y.size) = true := by simp; omega
        rw [hg'] at C
        have HG := Lib.hid hg
        clear hg hg'
        go_wp2_with fail
        refine C.out.mono ?_
        rintro e w1 ⟨rfl, rfl⟩
        clear C
        go_wp2_with fail
        go_ret
        exact ⟨⟨_, rfl, ⟨fun _ => ⟨y, HM.out, HG.out⟩, fun _ => by omega⟩⟩, rfl⟩
      · have hg' : decide ((131072 : Int) < y.size) = false := by simp; omega
        rw [hg'] at C
        have HG := Lib.hid hg
        clear hg hg'
        go_wp2_with fail
        refine C.out.mono ?_
        rintro e w1 ⟨rfl, rfl⟩
        clear C
        go_wp2_with fail
        refine ⟨⟨k + 1, rfl, hk1, Lib.hid fun j h hj => ?_, trivial⟩, ?_⟩
        · rcases Nat.lt_or_ge j k with h1 | h1
          · exact hb.out j h h1
          · obtain rfl : j = k := by omega
            rw [← HY.out]; have := HG.out; omega
        · simp [intOf]
          omega
    · have ki : (l.length : Int) ≤ (k : Int) := by omega
      go_wp2_with fail
      go_ret
      refine ⟨⟨_, rfl, ⟨fun h => absurd h (by decide), ?_⟩⟩, rfl⟩
      rintro ⟨s, hs, hg⟩
      obtain ⟨j, hj, rfl⟩ := List.getElem_of_mem hs
      have := hb.out j hj (by omega)
      omega
theorem anyLong_any (ao : Option Addr) (cap : Nat) (l : List ByteArray) (w : World) (h : StrsAt w ao l) :
    Calls Try.prog 19 #[.slice ao l.length cap, .func (.func 18) #[] #[]] w fun e w' => e = .returned (.bool (holds (∃ s ∈ l, 131072 < s.size))) ∧ w = w' := by
  have I := Lib.hid (indexLong_any ao cap l w h)
  obtain ⟨p, hp⟩ : ∃ p : Prop, p = ∃ s ∈ l, 131072 < s.size := ⟨_, rfl⟩
  rw [← hp] at I ⊢
  clear h hp
  go_enter Try.func19, Try.ntmps19
  go_wp2_with fail
  refine I.out.mono ?_
  rintro e w1 ⟨⟨r, rfl, hr⟩, rfl⟩
  have HR := Lib.hid hr
  clear hr I
  by_cases h0 : 0 ≤ r
  · have HP := Lib.hid (HR.out.1 h0)
    go_wp2_with fail
    go_ret
    exact ⟨by rw [holds_true HP.out]; rfl, rfl⟩
  · have h1 : decide (0 ≤ r) = false := by simpa using h0
    have HP := Lib.hid (fun hp => h0 (HR.out.2 hp))
    clear h0
    go_wp2_with fail
    go_ret
    exact ⟨by rw [holds_false HP.out]; rfl, rfl⟩
/-- Items as cells. -/
def encI (x : It) : List Value := [.string x.1, .string x.2]
def icells (l : List It) : List Value := l.flatMap encI
theorem icells_length : ∀ l : List It, (icells l).length = l.length * 2
  | [] => rfl
  | x :: r => by
    have := icells_length r
    unfold icells at *
    simp only [List.flatMap_cons, List.length_append, this, List.length_cons, encI, List.length_nil]
    omega
theorem icells_get : ∀ (l : List It) (i : Nat) (h : i < l.length), (icells l)[i * 2]? = some (.string l[i].1) ∧ (icells l)[i * 2 + 1]? = some (.string l[i].2)
  | x :: r, 0, h => ⟨rfl, rfl⟩
  | x :: r, i + 1, h => by
    have ih := icells_get r i (by simpa using h)
    have e : icells (x :: r) = encI x ++ icells r := rfl
    have l2 : (encI x).length = 2 := rfl
    rw [e, List.getElem?_append_right (by omega), List.getElem?_append_right (by omega), l2, show (i + 1) * 2 - 2 = i * 2 by omega, show (i + 1) * 2 + 1 - 2 = i * 2 + 1 by omega]
    simpa using ih
theorem icells_snoc (l : List It) (x : It) : icells l ++ encI x = icells (l ++ [x]) := by simp [icells]
theorem enc_one (x : It) : ∀ u ∈ encI x, u.oneCell' = true := by
  intro u hu
  simp [encI] at hu
  rcases hu with rfl | rfl <;> rfl
theorem el_item : ElemOk Try.prog 28 34 2 32 := ElemOk.mk' (z := .agg #[.string ⟨#[]⟩, .string ⟨#[]⟩]) Try.underlying28 (by kernel_rfl) rfl
theorem el_str : ElemOk Try.prog 22 9 1 16 := ElemOk.mk' (z := .string ⟨#[]⟩) Try.underlying22 (by kernel_rfl) rfl
/-- How the closure has two items stand. -/
def cfI (x y : It) : Int := compareBytes x.1.data.toList y.1.data.toList
theorem cb_val : ∀ (a b : List UInt8), compareBytes a b = if a = b then 0 else if a < b then -1 else 1
  | [], [] => by simp [compareBytes]
  | [], _ :: _ => by simp [compareBytes]
  | _ :: _, [] => by simp [compareBytes]
  | a :: x, b :: y => by
    unfold compareBytes
    by_cases h1 : a < b
    · have : a ≠ b := fun h => by subst h; exact absurd h1 (by simp)
      simp [h1, this, List.cons_lt_cons_iff]
    · by_cases h2 : b < a
      · have : a ≠ b := fun h => by subst h; exact h1 h2
        simp [h1, h2, this, List.cons_lt_cons_iff]
      · have : a = b := by
          apply UInt8.toNat_inj.1
          have e1 : ¬ a.toNat < b.toNat := h1
          have e2 : ¬ b.toNat < a.toNat := h2
          omega
        subst this
        simp [cb_val x y]
theorem ltI_iff (x y : It) : ltOf cfI x y = true ↔ lowI x y := by
  unfold ltOf cfI lowI
  rw [decide_eq_true_iff, cb_val]
  by_cases h : x.1.data.toList = y.1.data.toList
  · rw [if_pos h, h]; simp [List.lt_irrefl]
  · rw [if_neg h]
    by_cases h2 : x.1.data.toList < y.1.data.toList
    · simp [h2]
    · simp [h2]
theorem ltI_false (x y : It) : ltOf cfI x y = false ↔ ¬ lowI x y := by rw [← Bool.not_eq_true, ltI_iff]
theorem swoI : SWO (ltOf cfI) where
  irrefl x := by rw [ltI_false]; exact low_irrefl x
  trans x y z h1 h2 := by
    rw [ltI_iff] at *
    exact low_trans h1 h2
  ntrans x y z h1 h2 := by
    rw [ltI_false] at *
    intro h3
    unfold lowI at *
    have a1 := List.not_lt.1 h1
    have a2 := List.not_lt.1 h2
    exact (List.not_lt.2 (List.le_trans a2 a1)) h3
theorem closureI (x y : It) (W : World) : Calls Try.prog 43 #[.agg #[.string x.1, .string x.2], .agg #[.string y.1, .string y.2]] W fun e w' => e = .returned (.int .i64 (cfI x y)) ∧ ∃ q os', w' = grow (W.drewN q) os' := by
  have C := Lib.hid (fun w => Try.strings_Compare x.1 y.1 w)
  obtain ⟨c, hc⟩ : ∃ c, c = compareBytes x.1.data.toList y.1.data.toList := ⟨_, rfl⟩
  have hcf : cfI x y = c := by rw [hc]; rfl
  rw [hcf]
  rw [← hc] at C
  obtain ⟨i1, d1⟩ := x
  obtain ⟨i2, d2⟩ := y
  simp only at C ⊢
  clear hc hcf
  go_enter Try.func43, Try.ntmps43
  go_wp2_with fail
  refine (C.out _).mono ?_
  rintro e w1 ⟨rfl, rfl⟩
  clear C
  go_wp2_with fail
  go_ret
  exact ⟨rfl, 0, #[.cells #[.string i1, .string d1] 34, .cells #[.string i2, .string d2] 34], by simp only [alloc_eq_grow]; rw [grow_grow]; rfl⟩
theorem cmpI_lays (blk off size : Nat) (w : World) : CmpLays Try.prog 43 #[] encI 2 cfI blk off size w :=
  fun _ _ _ _ x y => closureI x y _
theorem sort_item (blk off cap : Nat) (d : Array It) (w : World) (hH : HoldsK encI 2 w blk off d) (hblk : blk < w.heap.size) (hsz : d.size < 4611686018427387904) :
    Calls Try.prog 42 #[.slice (some ⟨blk, off, none⟩) d.size cap, .func (.func 43) #[] #[]] w fun e w' =>
      e = .returned (.tuple #[]) ∧ ∃ d' n os, PermIn 0 d.size d d' ∧ SortedIn (ltOf cfI) 0 d.size d' ∧ w' = sortWorldK encI 2 w blk off n d' os := by
  have eg : ∀ args w, (callFunc 43 args).run Try.prog w = .ok (.enter 43 args) w := enters_of Try.func43 (by kernel_rfl) rfl
  exact AnyQ.slices_SortFunc Try.sortItem 2 Try.isAgg34 Try.sizeOf34 encI (fun _ => rfl) (fun x v hv => by simp [encI] at hv; rcases hv with rfl | rfl <;> rfl) cfI swoI 43 #[] blk off cap d w eg (cmpI_lays blk off d.size w) hH hblk hsz
theorem holdsI {w : World} {base : Nat} {e : TypeId} {v : Value} {l : List It} (h : SlIs w base e 2 v l.length (icells l)) (hn : 0 < l.length) :
    ∃ g off cap, v = .slice (some ⟨g, off, none⟩) l.length cap ∧ base ≤ g ∧ g < w.heap.size ∧ l.length ≤ cap ∧ cap ≤ maxLen ∧ HoldsK encI 2 w g off l.toArray := by
  obtain ⟨g, off, cap, hv, hg, hlt, hc, hm, hcell, hfr⟩ := h.at_ hn
  have hl := icells_length l
  refine ⟨g, off, cap, hv, hg, hlt, hc, hm, fun j hj => ?_⟩
  have hj' : j < l.length * 2 := by simpa [size_flatK] using hj
  have hd : j / 2 < l.length := by omega
  refine ⟨?_, hfr j (by omega)⟩
  rw [hcell j (by omega), get_flatK _ _ _ _ (by simpa using hj')]
  have hget : l.toArray[j / 2]! = l[j / 2] := by simp [hd]
  rw [hget]
  obtain ⟨e0, e1⟩ := icells_get l (j / 2) hd
  have h2 : j % 2 = 0 ∨ j % 2 = 1 := by omega
  rcases h2 with h0 | h0
  · rw [h0, show (icells l)[j]? = (icells l)[j / 2 * 2]? from by congr 1; omega, e0]
    rfl
  · rw [h0, show (icells l)[j]? = (icells l)[j / 2 * 2 + 1]? from by congr 1; omega, e1]
    rfl
/-- Items where they lie. -/
def ItemsAt (w : World) (ao : Option Addr) (L : List It) : Prop :=
  (L.length : Int) ≤ 9223372036854775807 ∧ (0 < L.length → ∃ b off, ao = some ⟨b, off, none⟩ ∧ b < w.heap.size ∧ ∀ i (h : i < L.length), w.cell? ⟨b, off + i * 2, none⟩ = some (.string L[i].1) ∧ w.cell? ⟨b, off + i * 2 + 1, none⟩ = some (.string L[i].2))
theorem ItemsAt.later {w w' : World} {ao : Option Addr} {L : List It} (h : ItemsAt w ao L) (hb : Below w.heap.size w w') : ItemsAt w' ao L := by
  refine ⟨h.1, fun hn => ?_⟩
  obtain ⟨b, off, ha, hlt, hc⟩ := h.2 hn
  exact ⟨b, off, ha, Nat.lt_of_lt_of_le hlt hb.size, fun i hi => by rw [hb.cell hlt, hb.cell hlt]; exact hc i hi⟩
theorem ItemsAt.own {w : World} {base : Nat} {e : TypeId} {v : Value} {l : List It} (h : SlIs w base e 2 v l.length (icells l)) : ∃ ao cap, v = .slice ao l.length cap ∧ ItemsAt w ao l := by
  obtain ⟨ao, cap, hv, h1, h2, h3⟩ := h.form
  refine ⟨ao, cap, hv, by unfold maxLen at h2; omega, fun hn => ?_⟩
  obtain ⟨g, off, cap', hv', hg, hlt, hc, hm, hcell, _⟩ := h.at_ hn
  rw [hv] at hv'
  injection hv' with e1 e2 e3
  refine ⟨g, off, e1, hlt, fun i hi => ?_⟩
  have hl := icells_length l
  obtain ⟨c0, c1⟩ := icells_get l i hi
  rw [hcell (i * 2) (by omega), Nat.add_assoc, hcell (i * 2 + 1) (by omega), c0, c1]
  exact ⟨rfl, rfl⟩
/-- Behind the sort. -/
def SortOut (l : List It) (v : Value) (w' : World) : Prop :=
  ∃ (L : List It) (ao : Option Addr) (cap : Nat), v = .slice ao L.length cap ∧ L.Perm l ∧ (∀ i j (hi : i < L.length) (hj : j < L.length), i < j → ¬ lowI L[j] L[i]) ∧ ItemsAt w' ao L
theorem sort_items (base : Nat) (l : List It) (v : Value) (w : World) (h : SlIs w base 34 2 v l.length (icells l)) (hb : base ≤ w.heap.size) (h0 : 0 < l.length) (hn : l.length < 4611686018427387904) :
    Calls Try.prog 42 #[v, .func (.func 43) #[] #[]] w fun e w' => e = .returned (.tuple #[]) ∧ SortOut l v w' ∧ Below base w w' := by
  obtain ⟨g, off, cap, rfl, hg, hlt, hc, hm, hH⟩ := holdsI h h0
  have S := sort_item g off cap l.toArray w hH hlt (by simpa using hn)
  rw [show l.toArray.size = l.length by simp] at S
  refine S.mono ?_
  rintro e w' ⟨rfl, d', q, os, hperm, hsort, rfl⟩
  obtain ⟨hs, _, hp⟩ := hperm
  have hs' : d'.size = l.length := by simpa using hs
  have hp' : d'.toList.Perm l := by
    have e1 : d'.extract 0 l.length = d' := by rw [← hs']; simp
    have e2 : l.toArray.extract 0 l.length = l.toArray := by simp
    rw [e1, e2] at hp
    simpa using hp
  have hH' : HoldsK encI 2 (sortWorldK encI 2 w g off q d' os) g off d' := by
    have hpw : HoldsK encI 2 (putRowK encI 2 (Sort.ahead w q) g off d') g off d' := holdsK_putRowK encI 2 _ g off l.toArray d' (holdsK_ahead encI 2 w q g off _ hH) (by simpa using hs')
    exact holdsK_grow encI 2 _ os g off _ (by unfold putRowK putRow mapBlock; simpa [Sort.ahead] using hlt) hpw
  have hbl : Below base w (sortWorldK encI 2 w g off q d' os) := by
    refine ⟨rfl, rfl, rfl, ?_, fun k hk => ?_⟩
    · show _ ≤ (grow (putRowK encI 2 (Sort.ahead w q) g off d') os).heap.size
      unfold putRowK putRow mapBlock
      simp [grow, Sort.ahead]
    · have hk' : k < w.heap.size := Nat.lt_of_lt_of_le hk hb
      have hne : g ≠ k := by omega
      show ((w.heap.modify g (onCells (putCells id off (flatK encI 2 d')))) ++ os)[k]? = _
      rw [Array.getElem?_append_left (by simpa using hk'), Array.getElem?_modify, if_neg hne]
  have hget : ∀ i (hi : i < d'.toList.length), d'[i]! = d'.toList[i] := fun i hi => by
    rw [getElem!_pos d' i (by simpa using hi)]
    simp
  have hll : d'.toList.length = l.length := by simpa using hs'
  refine ⟨rfl, ⟨d'.toList, some ⟨g, off, none⟩, cap, by rw [hll], hp', fun i j hi hj hij => ?_, by rw [hll]; unfold maxLen at hm; omega, fun _ => ⟨g, off, rfl, Nat.lt_of_lt_of_le hlt hbl.size, fun i hi => ?_⟩⟩, hbl⟩
  · have h1 := hsort i j (Nat.zero_le _) hij (by rw [← hll]; exact hj)
    rw [ltI_false, hget i hi, hget j hj] at h1
    exact h1
  · have hi' : i < d'.size := by simpa using hi
    have c0 := (hH'.cell (i := i) (c := 0) hi' (by omega)).1
    have c1 := (hH'.cell (i := i) (c := 1) hi' (by omega)).1
    rw [hget i hi] at c0 c1
    exact ⟨c0, c1⟩
/-- What items answers. -/
def ItemsOut (l : List ByteArray) (w w' : World) (e : Ending) : Prop :=
  (¬ (l.map sumS).Nodup ∧ e = .returned (.tuple #[.slice none 0 0, .int .i64 31]) ∧ Below w.heap.size w w') ∨
  (∃ (L : List It) (ao : Option Addr) (cap : Nat), e = .returned (.tuple #[.slice ao L.length cap, .int .i64 0]) ∧ L.Perm (itemsOf l) ∧ L.Pairwise lowI ∧ ItemsAt w' ao L ∧ Below w.heap.size w w')
theorem rises_of_steps {L : List It} (h : ∀ i (h : i + 1 < L.length), lowI L[i] L[i + 1]) : L.Pairwise lowI := by
  rw [List.pairwise_iff_getElem]
  intro i j hi hj hij
  obtain ⟨d, rfl⟩ : ∃ d, j = i + 1 + d := ⟨j - (i + 1), by omega⟩
  clear hij
  induction d with
  | zero => exact h i (by omega)
  | succ d ih => exact low_trans (ih (by omega)) (h (i + 1 + d) (by omega))
theorem data_inj {a b : ByteArray} (h : a.data.toList = b.data.toList) : a = b := by
  apply ByteArray.ext
  apply Array.ext'
  exact h
theorem low_of {x y : It} (h1 : ¬ lowI y x) (h2 : x.1 ≠ y.1) : lowI x y := by
  unfold lowI at *
  rcases List.le_total x.1.data.toList y.1.data.toList with h | h
  · rcases List.le_iff_lt_or_eq.1 h with h | h
    · exact h
    · exact absurd (data_inj h) h2
  · exact absurd (List.le_antisymm h (List.not_lt.1 h1)).symm (fun h => h2 (data_inj h))
theorem twice_of {l : List ByteArray} {L : List It} (hp : L.Perm (itemsOf l)) {i : Nat} (h : i + 1 < L.length) (he : L[i].1 = L[i + 1].1) : ¬ (l.map sumS).Nodup := by
  intro hn
  have h2 : (L.map (·.1)).Perm (l.map sumS) := by
    have := hp.map (·.1)
    unfold itemsOf at this
    rwa [List.map_map] at this
  have h1 := h2.nodup_iff.2 hn
  rw [List.Nodup, List.pairwise_map, List.pairwise_iff_getElem] at h1
  exact h1 i (i + 1) (by omega) h (by omega) he
theorem ne_list {S T : ByteArray} (h : S ≠ T) : (S.toList == T.toList) = false := by
  cases hx : (S.toList == T.toList)
  · rfl
  · exfalso
    apply h
    have := eq_of_beq hx
    rw [ByteArray.toList_eq, ByteArray.toList_eq] at this
    exact data_inj this
set_option maxRecDepth 100000 in
set_option maxHeartbeats 1000000 in
theorem items_any (ao : Option Addr) (cap : Nat) (l : List ByteArray) (w : World) (h : StrsAt w ao l) (h0 : 0 < l.length) (hn : l.length ≤ 1000000) (hs : ∀ s ∈ l, s.size ≤ 140737488355328) :
    Calls Try.prog 20 #[.slice ao l.length cap] w fun e w' => ItemsOut l w w' e := by
  have hm := h.1
  have H := Lib.hid (And.intro h hs)
  clear h hs
  go_enter Try.func20, Try.ntmps20
  go_wp2_with fail
  go_loopw [4, 10] (fun v i wr => ∃ k : Nat, i = .int .i64 (k : Int) ∧ k ≤ l.length ∧ Hid (SlIs wr w.heap.size 34 2 v k (icells ((itemsOf l).take k)) ∧ Below w.heap.size w wr)) (fun _ i _ => ((l.length : Int) - intOf i).toNat)
  case atStart => exact ⟨0, rfl, by omega, Lib.hid ⟨SlIs.nil_ _ _ _ _, Below.refl _ _⟩⟩
  case round =>
    obtain ⟨k, rfl, hk, HR⟩ := hrel
    have hbw := HR.out.2.size
    rcases Nat.lt_or_ge k l.length with hk1 | hk1
    · obtain ⟨b, off, rfl, hlt, hcell⟩ := H.out.1.2 (by omega)
      have c0 := hcell k hk1
      rw [← HR.out.2.cell hlt] at c0
      have ki : (k : Int) < l.length := by omega
      have hsy := H.out.2 _ (List.getElem_mem hk1)
      have hit : (itemsOf l).take (k + 1) = (itemsOf l).take k ++ [(sumS l[k], l[k])] := by
        have hkl : k < (itemsOf l).length := by simpa [itemsOf] using hk1
        rw [List.take_succ_eq_append_getElem hkl]
        simp [itemsOf]
      obtain ⟨y, hy⟩ : ∃ y, y = l[k] := ⟨_, rfl⟩
      rw [← hy] at c0 hsy hit
      have HI := Lib.hid hit
      have C := Lib.hid (Sha.sum_any y wr hsy)
      obtain ⟨d, hd⟩ : ∃ d, d = sumS y := ⟨_, rfl⟩
      have C := Lib.hid (show Calls Try.prog 16 #[.string y] wr fun e w' => e = .returned (.string d) ∧ Below wr.heap.size wr w' from by rw [hd]; exact C.out)
      have HD := Lib.hid hd
      obtain ⟨ao1, cap1, rfl, hnc1, hcm1, hao1⟩ := HR.out.1.form
      clear hcell hy hit hd
      go_wp2_with fail
      refine C.out.mono ?_
      rintro e w1 ⟨rfl, hb1⟩
      have H1 := Lib.hid (And.intro (HR.out.1.later hb1) (HR.out.2.trans (hb1.mono hbw)))
      have hbw1 := H1.out.2.size
      clear C hb1
      go_wp2_with (at_builtin
                   refine wpList_append_sl rfl _ _ _ 28 rfl el_item (.slice ao1 k cap1) k (icells ((itemsOf l).take k)) rfl (H1.out.1.alloc _) _ 1 (encI (d, y)) rfl (SrcIs.own Try.underlying28 (SlIs.made (base := 0) (BlkIs.new _ _ _) (Nat.zero_le _) rfl (by decide))) (enc_one (d, y)) (by unfold maxLen; omega) (by omega) (by simp only [World.size_alloc]; omega) ?_
                   intro v1 w3 hs1 hg1 hat1
                   have hb3 := (H1.out.2.alloc hbw1 (.cells #[.string d, .string y] 34)).grown hg1 (by simp only [World.size_alloc]; omega) fun j hj => (H1.out.1.lt j hj).1
                   rw [HD.out, icells_snoc, ← HI.out] at hs1
                   have H3 := Lib.hid (And.intro hs1 hb3)
                   clear hs1 hb3 hg1 hat1 hao1)
      refine ⟨⟨k + 1, rfl, hk1, H3⟩, ?_⟩
      simp [intOf]
      omega
    · have ki : (l.length : Int) ≤ (k : Int) := by omega
      obtain rfl : k = l.length := by omega
      have hlen : (itemsOf l).length = l.length := by simp [itemsOf]
      have hS : SlIs wr w.heap.size 34 2 u4 (itemsOf l).length (icells (itemsOf l)) := by
        have := HR.out.1
        rw [List.take_of_length_le (by omega)] at this
        rw [hlen]; exact this
      have S := Lib.hid (sort_items w.heap.size (itemsOf l) u4 wr hS hbw (by omega) (by omega))
      have HB := Lib.hid HR.out.2
      clear HR hS hlen
      go_wp2_with fail
      refine S.out.mono ?_
      rintro e w8 ⟨rfl, ⟨L, ao', cap', rfl, hp, hle, hI⟩, hb8⟩
      have hll : L.length = l.length := by rw [hp.length_eq]; simp [itemsOf]
      have H8 := Lib.hid (And.intro hp (And.intro hle (And.intro hI (HB.out.trans hb8))))
      have hl1 : 1 ≤ L.length := by omega
      have hml : (L.length : Int) ≤ 9223372036854775807 := hI.1
      clear hp hle hI hb8 S HB hll
      go_wp2_with fail
      go_loopw [7] (fun i wr => ∃ m : Nat, i = .int .i64 ((m : Int) + 1) ∧ m + 1 ≤ L.length ∧ Hid ((∀ i (h : i + 1 < L.length), i < m → L[i].1 ≠ L[i + 1].1) ∧ DrawsOf w8 wr)) (fun i _ => ((L.length : Int) - intOf i).toNat)
      case atStart => exact ⟨0, rfl, by omega, Lib.hid ⟨fun i h hi => by omega, DrawsOf.refl _⟩⟩
      case round =>
        obtain ⟨m, rfl, hm1, HK⟩ := hrel
        rcases Nat.lt_or_ge (m + 1) L.length with hk1 | hk1
        · obtain ⟨b, off, rfl, hlt, hcell⟩ := H8.out.2.2.1.2 (by omega)
          have c0 := (hcell m (by omega)).1
          have c1 := (hcell (m + 1) hk1).1
          rw [← HK.out.2.cell] at c0 c1
          have ki : (m : Int) + 1 < L.length := by omega
          have km : (m : Int) < L.length := by omega
          obtain ⟨x, hx⟩ : ∃ x, x = L[m].1 := ⟨_, rfl⟩
          obtain ⟨y, hy⟩ : ∃ y, y = L[m + 1].1 := ⟨_, rfl⟩
          rw [← hx] at c0
          rw [← hy] at c1
          have HX := Lib.hid (And.intro hx hy)
          clear hcell hx hy
          by_cases he : x = y
          · have hz : (x.toList == y.toList) = true := by rw [he]; simp
            have HE := Lib.hid he
            clear he
            go_wp2_with fail
            go_quiet (fail)
            go_wp2_with fail
            go_ret2
            exact Or.inl ⟨twice_of H8.out.1 hk1 (by rw [← HX.out.1, ← HX.out.2]; exact HE.out), rfl, H8.out.2.2.2.trans ((HK.out.2.drewN _).below _)⟩
          · have hz := ne_list he
            have HE := Lib.hid he
            clear he
            go_wp2_with fail
            go_quiet (fail)
            go_wp2_with fail
            refine ⟨⟨m + 1, rfl, hk1, Lib.hid ⟨fun i h hi => ?_, HK.out.2.drewN _⟩⟩, ?_⟩
            · rcases Nat.lt_or_ge i m with h1 | h1
              · exact HK.out.1 i h h1
              · obtain rfl : i = m := by omega
                rw [← HX.out.1, ← HX.out.2]; exact HE.out
            · simp [intOf]
              omega
        · have ki : (L.length : Int) ≤ (m : Int) + 1 := by omega
          go_wp2_with fail
          go_ret2
          refine Or.inr ⟨L, ao', cap', rfl, H8.out.1, rises_of_steps fun i h => low_of (H8.out.2.1 i (i + 1) (by omega) h (by omega)) (HK.out.1 i h (by omega)), H8.out.2.2.1.later (HK.out.2.below _), H8.out.2.2.2.trans (HK.out.2.below _)⟩
end Go.Proofs.Ytabgpleiobpeoaa.Pak
