/- Facts sorted, the greatest first: the closure walked; slices.SortFunc by the shelf's contract. Conditions: the row lies in a block of the call's own. (Layer 11.) -/
import Derived.Test.YthcgdpdijdmelaaGreatOrd7
import Derived.Test.YthcgdpdijdmelaaGreatSort
namespace Go.Proofs.YthcgdpdijdmelaaGreat.Ord
set_option linter.unusedVariables false
open Go.RowKit Go.Sort Go.Lib
/-- How the closure has two facts stand: turned round. -/
def cfF (x y : Fv) : Int := cmpF y x
theorem encF_length (x : Fv) : (encF x).length = 3 := rfl
theorem ltF_iff (x y : Fv) : ltOf cfF x y = true ↔ lowF y x := by
  unfold ltOf cfF
  rw [decide_eq_true_iff, cmp_neg]
theorem ltF_false (x y : Fv) : ltOf cfF x y = false ↔ ¬ lowF y x := by
  rw [← Bool.not_eq_true, ltF_iff]
theorem swoF : SWO (ltOf cfF) where
  irrefl x := by rw [ltF_false]; exact low_irrefl x
  trans x y z h1 h2 := by
    rw [ltF_iff] at *
    exact low_trans h2 h1
  ntrans x y z h1 h2 := by
    rw [ltF_false] at *
    intro h3
    rcases low_total x y with h | h | ⟨e1, e2⟩
    · exact h2 (low_trans h3 h)
    · exact h1 h
    · rcases h3 with h3 | ⟨h3, h4⟩
      · exact h2 (Or.inl (by omega))
      · exact h2 (Or.inr ⟨by omega, by rw [← e2]; exact h4⟩)
theorem closureF (x y : Fv) (W : World) : Calls Tryz.prog 42 #[.agg #[.string x.id, .int .i64 x.h, .slice x.pa x.np x.pc], .agg #[.string y.id, .int .i64 y.h, .slice y.pa y.np y.pc]] W fun e w' => e = .returned (.int .i64 (cfF x y)) ∧ ∃ q os', w' = grow (W.drewN q) os' := by
  have C := Lib.hid (fun W => compare_any y x W)
  obtain ⟨c, hc⟩ : ∃ c, c = cmpF y x := ⟨_, rfl⟩
  have hcf : cfF x y = c := by rw [hc]; rfl
  rw [hcf]
  rw [← hc] at C
  obtain ⟨i1, h1, a1, n1, p1, q1⟩ := x
  obtain ⟨i2, h2, a2, n2, p2, q2⟩ := y
  simp only at C ⊢
  clear hc hcf
  go_enter Tryz.func42, Tryz.ntmps42
  go_wp2_with fail
  refine (C.out _).mono ?_
  rintro e w1 ⟨rfl, q, os, rfl⟩
  go_wp2_with fail
  go_ret
  refine ⟨rfl, q, #[.cells #[.string i1, .int .i64 h1, .slice a1 n1 p1] 28, .cells #[.string i2, .int .i64 h2, .slice a2 n2 p2] 28] ++ os, ?_⟩
  simp only [alloc_eq_grow]
  rw [grow_grow]
  show grow (grow (W.drewN q) _) _ = _
  rw [grow_grow]
  rfl
theorem cmpF_lays (blk off size : Nat) (w : World) : CmpLays Tryz.prog 42 #[] encF 3 cfF blk off size w :=
  fun _ _ _ _ x y => closureF x y _
theorem sort_fact (blk off cap : Nat) (d : Array Fv) (w : World) (hH : HoldsK encF 3 w blk off d) (hblk : blk < w.heap.size) (hsz : d.size < 4611686018427387904) :
    Calls Tryz.prog 41 #[.slice (some ⟨blk, off, none⟩) d.size cap, .func (.func 42) #[] #[]] w fun e w' =>
      e = .returned (.tuple #[]) ∧ ∃ d' n os, PermIn 0 d.size d d' ∧ SortedIn (ltOf cfF) 0 d.size d' ∧ w' = sortWorldK encF 3 w blk off n d' os := by
  have eg : ∀ args w, (callFunc 42 args).run Tryz.prog w = .ok (.enter 42 args) w := enters_of Tryz.func42 (by kernel_rfl) rfl
  exact AnyQ.slices_SortFunc Tryz.sortFact 3 Tryz.isAgg28 Tryz.sizeOf28 encF encF_length (fun x v hv => by simp [encF] at hv; rcases hv with rfl | rfl | rfl <;> rfl) cfF swoF 42 #[] blk off cap d w eg (cmpF_lays blk off d.size w) hH hblk hsz
theorem holdsF {w : World} {base : Nat} {e : TypeId} {v : Value} {l : List Fv} (h : SlIs w base e 3 v l.length (fcells l)) (hn : 0 < l.length) :
    ∃ g off cap, v = .slice (some ⟨g, off, none⟩) l.length cap ∧ base ≤ g ∧ g < w.heap.size ∧ l.length ≤ cap ∧ cap ≤ maxLen ∧ HoldsK encF 3 w g off l.toArray := by
  obtain ⟨g, off, cap, hv, hg, hlt, hc, hm, hcell, hfr⟩ := h.at_ hn
  have hl := fcells_length l
  refine ⟨g, off, cap, hv, hg, hlt, hc, hm, fun j hj => ?_⟩
  have hj' : j < l.length * 3 := by simpa [size_flatK] using hj
  have hd : j / 3 < l.length := by omega
  refine ⟨?_, hfr j (by omega)⟩
  rw [hcell j (by omega), get_flatK _ _ _ _ (by simpa using hj')]
  have hget : l.toArray[j / 3]! = l[j / 3] := by simp [hd]
  rw [hget]
  obtain ⟨e0, e1, e2⟩ := fcells_get l (j / 3) hd
  have h3 : j % 3 = 0 ∨ j % 3 = 1 ∨ j % 3 = 2 := by omega
  rcases h3 with h0 | h0 | h0
  · rw [h0, show (fcells l)[j]? = (fcells l)[j / 3 * 3]? from by congr 1; omega, e0]
    rfl
  · rw [h0, show (fcells l)[j]? = (fcells l)[j / 3 * 3 + 1]? from by congr 1; omega, e1]
    rfl
  · rw [h0, show (fcells l)[j]? = (fcells l)[j / 3 * 3 + 2]? from by congr 1; omega, e2]
    rfl
/-- Behind the sort: the same facts, none below one behind it, where they lay. -/
def SortOut (l : List Fv) (v : Value) (w w' : World) : Prop :=
  ∃ (L : List Fv) (ao : Option Addr) (cap : Nat), v = .slice ao L.length cap ∧ L.Perm l ∧ (∀ i j, i < j → j < L.length → ¬ lowF L[i]! L[j]!) ∧
    (0 < L.length → ∃ b off, ao = some ⟨b, off, none⟩ ∧ b < w'.heap.size ∧ ∀ i, i < L.length → w'.cell? ⟨b, off + i * 3, none⟩ = some (.string L[i]!.id) ∧ w'.cell? ⟨b, off + i * 3 + 1, none⟩ = some (.int .i64 L[i]!.h) ∧ w'.cell? ⟨b, off + i * 3 + 2, none⟩ = some (.slice L[i]!.pa L[i]!.np L[i]!.pc))
theorem sort_factsl (base : Nat) (l : List Fv) (v : Value) (w : World) (h : SlIs w base 28 3 v l.length (fcells l)) (hb : base ≤ w.heap.size) (h0 : 0 < l.length) (hn : l.length < 4611686018427387904) :
    Calls Tryz.prog 41 #[v, .func (.func 42) #[] #[]] w fun e w' => e = .returned (.tuple #[]) ∧ SortOut l v w w' ∧ Below base w w' := by
  obtain ⟨g, off, cap, rfl, hg, hlt, hc, hm, hH⟩ := holdsF h h0
  have S := sort_fact g off cap l.toArray w hH hlt (by simpa using hn)
  rw [show l.toArray.size = l.length by simp] at S
  refine S.mono ?_
  rintro e w' ⟨rfl, d', q, os, hperm, hsort, rfl⟩
  obtain ⟨hs, _, hp⟩ := hperm
  have hs' : d'.size = l.length := by simpa using hs
  have hp' : d'.toList.Perm l := by
    have e1 : d'.extract 0 l.length = d' := by rw [← hs']; simp
    have e2 : l.toArray.extract 0 l.length = l.toArray := by simp
    rw [e1, e2] at hp
    simpa using hp
  have hH' : HoldsK encF 3 (sortWorldK encF 3 w g off q d' os) g off d' := by
    have hpw : HoldsK encF 3 (putRowK encF 3 (Sort.ahead w q) g off d') g off d' := holdsK_putRowK encF 3 _ g off l.toArray d' (holdsK_ahead encF 3 w q g off _ hH) (by simpa using hs')
    exact holdsK_grow encF 3 _ os g off _ (by unfold putRowK putRow mapBlock; simpa [Sort.ahead] using hlt) hpw
  have hbl : Below base w (sortWorldK encF 3 w g off q d' os) := by
    refine ⟨rfl, rfl, rfl, ?_, fun k hk => ?_⟩
    · show _ ≤ (grow (putRowK encF 3 (Sort.ahead w q) g off d') os).heap.size
      unfold putRowK putRow mapBlock
      simp [grow, Sort.ahead]
    · have hk' : k < w.heap.size := Nat.lt_of_lt_of_le hk hb
      have hne : g ≠ k := by omega
      show ((w.heap.modify g (onCells (putCells id off (flatK encF 3 d')))) ++ os)[k]? = _
      rw [Array.getElem?_append_left (by simpa using hk'), Array.getElem?_modify, if_neg hne]
  have hget : ∀ i, i < l.length → d'.toList[i]! = d'[i]! := fun i hi => by
    rw [getElem!_pos d' i (by omega), getElem!_pos d'.toList i (by simpa using (by omega : i < d'.size))]
    simp
  have hll : d'.toList.length = l.length := by simpa using hs'
  refine ⟨rfl, ⟨d'.toList, some ⟨g, off, none⟩, cap, by rw [hll], hp', fun i j hij hj => ?_, fun _ => ⟨g, off, rfl, Nat.lt_of_lt_of_le hlt hbl.size, fun i hi => ?_⟩⟩, hbl⟩
  · have h1 := hsort i j (Nat.zero_le _) hij (by rw [← hll]; exact hj)
    rw [ltF_false] at h1
    rw [hget i (by omega), hget j (by omega)]
    exact h1
  · have hi' : i < d'.size := by simpa using hi
    have c0 := (hH'.cell (i := i) (c := 0) hi' (by omega)).1
    have c1 := (hH'.cell (i := i) (c := 1) hi' (by omega)).1
    have c2 := (hH'.cell (i := i) (c := 2) hi' (by omega)).1
    rw [hget i (by omega)]
    exact ⟨c0, c1, c2⟩
end Go.Proofs.YthcgdpdijdmelaaGreat.Ord
