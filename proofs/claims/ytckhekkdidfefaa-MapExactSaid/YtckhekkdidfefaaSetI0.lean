/- Slices of int: slices.Clone, Sort, Compact, Insert, BinarySearch, in the words of SlIs. (Layer 08.) -/
import Derived.Test.YtckhekkdidfefaaSetLaw
import Derived.Test.YtckhekkdidfefaaShelf
import Derived.Test.YtckhekkdidfefaaIns
import Derived.Lib.Hide
namespace Go.Proofs.Ytckhekkdidfefaa.Set
set_option linter.unusedVariables false
open Go.RowKit Go.Sort Go.Lib
theorem el_int : ElemOk Try.prog 22 3 1 8 := ElemOk.mk' (z := Value.int .i64 0) Try.underlying22 (by kernel_rfl) rfl
def icells (l : List Int) : List Value := l.map (Value.int .i64)
theorem icells_length (l : List Int) : (icells l).length = l.length := by simp [icells]
theorem icells_get (l : List Int) (i : Nat) (h : i < l.length) : (icells l)[i]? = some (Value.int .i64 l[i]) := by simp [icells, List.getElem?_eq_getElem h]
theorem icells_one (l : List Int) : ∀ v ∈ icells l, v.oneCell' = true := by
  intro v hv
  obtain ⟨y, _, rfl⟩ := List.mem_map.1 hv
  rfl
/-- A slice that can be read. -/
def IntAt (w : World) (v : Value) (l : List Int) : Prop := ∃ (ao : Option Addr) (cap : Nat), v = .slice ao l.length cap ∧ l.length ≤ cap ∧ cap ≤ maxLen ∧
  (0 < l.length → ∃ b off, ao = some ⟨b, off, none⟩ ∧ b < w.heap.size ∧ ∀ i (h : i < l.length), w.cell? ⟨b, off + i, none⟩ = some (Value.int .i64 l[i]))
theorem IntAt.later {w w' : World} {v : Value} {l : List Int} (h : IntAt w v l) (hb : Below w.heap.size w w') : IntAt w' v l := by
  obtain ⟨ao, cap, hv, h1, h2, h3⟩ := h
  refine ⟨ao, cap, hv, h1, h2, fun hn => ?_⟩
  obtain ⟨b, off, ha, hlt, hc⟩ := h3 hn
  exact ⟨b, off, ha, Nat.lt_of_lt_of_le hlt hb.size, fun i hi => by rw [hb.cell hlt, hc i hi]⟩
theorem IntAt.of_sl {w : World} {base : Nat} {e : TypeId} {v : Value} {l : List Int} (h : SlIs w base e 1 v l.length (icells l)) : IntAt w v l := by
  rcases h.parts with ⟨rfl, h0⟩ | ⟨g, off, cap, rfl, _, hlt, hc, hm, hx, _⟩
  · exact ⟨none, 0, by rw [h0], by omega, by decide, fun h => absurd h (by omega)⟩
  · exact ⟨_, cap, rfl, hc, hm, fun _ => ⟨g, off, rfl, hlt, fun i hi => by rw [hx i hi, icells_get l i hi]⟩⟩
theorem clone_int (v : Value) (l : List Int) (w : World) (h : IntAt w v l) (hn : l.length ≤ 1000000) :
    Calls Try.prog 41 #[v] w fun e w' => ∃ v', e = .returned v' ∧ SlIs w' w.heap.size 3 1 v' l.length (icells l) ∧ Below w.heap.size w w' := by
  obtain ⟨ao, cap, rfl, h1, h2, h3⟩ := h
  cases ao with
  | none =>
    have h0 : l.length = 0 := by
      rcases Nat.eq_zero_or_pos l.length with h | h
      · exact h
      · obtain ⟨b, off, ha, _⟩ := h3 h
        cases ha
    have hl : l = [] := List.eq_nil_of_length_eq_zero h0
    subst hl
    refine (Try.slices_Clone_int_nil 0 cap w).mono ?_
    rintro e w' ⟨rfl, rfl⟩
    exact ⟨_, rfl, SlIs.nil_ _ _ _ _, Below.refl _ _⟩
  | some a =>
    rcases Nat.eq_zero_or_pos l.length with h0 | h0
    · have hl : l = [] := List.eq_nil_of_length_eq_zero h0
      subst hl
      refine (Try.slices_Clone_int_zero a cap w).mono ?_
      rintro e w' ⟨v', rfl, ho, _, hb⟩
      exact ⟨v', rfl, SlIs.of_own ho, hb⟩
    · obtain ⟨b, off, ha, hlt, hc⟩ := h3 h0
      injection ha with ha
      subst ha
      refine (Try.slices_Clone_int b off l.length cap l w (Nat.le_refl _) (by omega) (fun j hj => by
        rw [hc j hj, List.getD_eq_getElem?_getD, List.getElem?_eq_getElem hj]; rfl)).mono ?_
      rintro e w' ⟨v', rfl, ho, _, hb⟩
      rw [List.take_length] at ho
      exact ⟨v', rfl, SlIs.of_own ho, hb⟩
/-- What Insert of one thing leaves. -/
def InsInt (base n : Nat) (v : Value) (ys : List Value) (w w' : World) (e : Ending) : Prop :=
  ∃ v', e = .returned v' ∧ SlIs w' base 3 1 v' (n + 1) ys ∧ w.grownBy w' v.ownBlock ∧ (v'.ownBlock = v.ownBlock ∨ v'.ownBlock = some w.heap.size)
theorem ins_cells (cs : List Value) (i n : Nat) (v : Value) (hl : cs.length = n) (hi : i ≤ n) (j : Nat) : (cs.take i ++ v :: cs.drop i)[j]? = if j < i then cs[j]? else if j = i then some v else cs[j - 1]? := by
  by_cases h1 : j < i
  · rw [if_pos h1, List.getElem?_append_left (by rw [List.length_take]; omega), List.getElem?_take, if_pos h1]
  · rw [if_neg h1, List.getElem?_append_right (by rw [List.length_take]; omega), List.length_take, Nat.min_eq_left (by omega)]
    by_cases h2 : j = i
    · subst h2
      rw [if_pos rfl, Nat.sub_self]; rfl
    · rw [if_neg h2, show j - i = (j - i - 1) + 1 by omega, List.getElem?_cons_succ, List.getElem?_drop]
      congr 1
      omega
theorem insert_int (base i : Nat) (v : Value) (l : List Int) (x : Int) (vb : Nat) (w : World) (h : SlIs w base 3 1 v l.length (icells l)) (hi : i ≤ l.length) (hn : l.length ≤ 1000000) (hb : base ≤ w.heap.size)
    (ha : BlkIs w vb 3 #[Value.int .i64 x]) (hne : v.ownBlock ≠ some vb) :
    Calls Try.prog 49 #[v, .int .i64 (i : Int), .slice (some ⟨vb, 0, none⟩) 1 1] w fun e w' => InsInt base l.length v (icells (l.take i ++ x :: l.drop i)) w w' e := by
  obtain ⟨n, hnl⟩ : ∃ n, n = l.length := ⟨_, rfl⟩
  obtain ⟨cs, hcs⟩ : ∃ cs, cs = icells l := ⟨_, rfl⟩
  have hcl : cs.length = n := by rw [hcs, icells_length, hnl]
  have hys : icells (l.take i ++ x :: l.drop i) = cs.take i ++ Value.int .i64 x :: cs.drop i := by rw [hcs]; simp [icells, List.map_take, List.map_drop]
  have h1c : ∀ v ∈ cs, v.oneCell' = true := by rw [hcs]; exact icells_one l
  rw [hys]
  rw [← hnl] at hi hn ⊢
  rw [← hnl, ← hcs] at h
  have hyl : (cs.take i ++ Value.int .i64 x :: cs.drop i).length = n + 1 := by rw [List.length_append, List.length_cons, List.length_take, List.length_drop]; omega
  have hvs : ∀ (j : Nat) v, [Value.int .i64 x][j]? = some v → w.cell? ⟨vb, 0 + j, none⟩ = some v := fun j v hj => by
    rw [ha.cell]
    rcases j with _ | j
    · simpa using hj
    · simp at hj
  have h1v : ∀ v ∈ [Value.int .i64 x], v.oneCell' = true := fun v hv => by rcases List.mem_singleton.1 hv with rfl; rfl
  have hge : ∀ c, n + 1 ≤ grownCap w (n + 1) c 3 := fun c => grownCap_ge w (n + 1) c _
  have hle : ∀ c, grownCap w (n + 1) c 3 ≤ maxLen := fun c => grownCap_le_maxLen w (n + 1) c _ (by unfold maxLen; omega)
  have endgrow : ∀ (ao : Option Addr) (c : Nat), n ≤ c → c < n + 1 → (ao = none → n = 0) → (∀ a, ao = some a → ∀ (j : Nat) v, cs[j]? = some v → w.cell? (a.add j) = some v) → i = n →
      Calls Try.prog 49 #[.slice ao n c, .int .i64 (i : Int), .slice (some ⟨vb, 0, none⟩) 1 1] w fun e w' => InsInt base n (.slice ao n c) (cs.take i ++ Value.int .i64 x :: cs.drop i) w w' e := by
    intro ao c hnc hroom hnil hcell hin
    subst hin
    refine (Any2.slices_Insert_int_end_grow Try.insI ao i c vb 0 1 1 cs [Value.int .i64 x] w (by omega) hnc hroom (by omega) hcl rfl hnil hcell hvs h1v).mono ?_
    rintro e w' ⟨rfl, rfl⟩
    refine ⟨_, rfl, ?_, ?_, Or.inr rfl⟩
    · refine ⟨by rw [hyl]; omega, .inr ⟨w.heap.size, 0, _, _, rfl, hb, (BlkIs.new w.drew 3 _).toRow, hge c, hle c, ?_, fun j hj => ?_⟩⟩
      · have := hge c
        simp [Builtin.zeroCells, Value.cells, hcl]
        omega
      · rw [hyl] at hj
        rw [ins_cells cs i i _ hcl (Nat.le_refl _), Nat.zero_add, Array.getElem?_append_left (by simp [hcl]; omega), List.getElem?_toArray]
        by_cases h1 : j < i
        · rw [if_pos h1, List.getElem?_append_left (by omega)]
        · obtain rfl : j = i := by omega
          rw [if_neg (by omega), if_pos rfl, List.getElem?_append_right (by omega), hcl, Nat.sub_self]
          rfl
    · exact grown_then (drewN_grown w 1 _) (World.grownBy_alloc _ _ _)
  rcases h.parts with ⟨rfl, h0⟩ | ⟨g, off, cap, rfl, hg, hlt, hc, hmx, hx, hsome, hfz, tk, hsh, htk⟩
  · have hi0 : i = n := by omega
    rw [h0] at hi0 ⊢
    have := endgrow none 0 (by omega) (by omega) (fun _ => h0) (fun a ha => by cases ha) (by omega)
    rw [h0] at this
    exact this
  · have hmx' : cap ≤ 9223372036854775807 := by unfold maxLen at hmx; exact hmx
    have hcc : ∀ (j : Nat) v, cs[j]? = some v → w.cell? ⟨g, off + j, none⟩ = some v := fun j v hj => by
      rw [hx j (by rw [← hcl]; exact (List.getElem?_eq_some_iff.1 hj).1)]; exact hj
    have hvg : vb ≠ g := fun e => hne (by rw [e]; rfl)
    by_cases hin : i = n
    · subst hin
      by_cases hroom : i + 1 ≤ cap
      · refine (Any2.slices_Insert_int_end_room Try.insI g off i cap vb 0 1 1 [Value.int .i64 x] w (by omega) hroom hmx' rfl (fun j hj => by rw [Nat.add_assoc]; exact hsome _ (by omega)) (fun j hj => by rw [Nat.add_assoc]; exact hfz _ (by omega)) hvs h1v).mono ?_
        rintro e w' ⟨rfl, rfl⟩
        refine ⟨_, rfl, ?_, setCells_grown _ _ _, Or.inl rfl⟩
        refine SlIs.puts h i (i + 1) [Value.int .i64 x] _ hroom (by simpa using hroom) hyl (fun j hj hj2 => ?_) (fun j hj h1 h2 => ?_)
        · simp only [List.length_singleton] at hj2
          exact ⟨by omega, by rw [ins_cells cs i i _ hcl (Nat.le_refl _), if_pos (by omega)]⟩
        · simp only [List.length_singleton] at h2
          obtain rfl : j = i := by omega
          rw [ins_cells cs j j _ hcl (Nat.le_refl _), if_neg (by omega), if_pos rfl, Nat.sub_self]
          rfl
      · exact endgrow _ cap hc (by omega) (fun ha => by cases ha) (fun a ha j v hj => by
          injection ha with ha
          subst ha
          rw [Addr.add_lit]
          exact hcc j v hj) rfl
    · have hin' : i < n := by omega
      by_cases hroom : n + 1 ≤ cap
      · refine (Any2.slices_Insert_int_shift Try.insI g off n cap i vb 0 1 1 cs [Value.int .i64 x] w hin' (by omega) hroom hmx' hvg hcl rfl hcc (fun j hj => hsome j (by omega)) (fun j hj => hfz j (by omega)) hvs h1c h1v 3 3 1 tk ha.shape hsh (by omega) (ha.free 0) (ha.free 1)).mono ?_
        rintro e w' ⟨rfl, rfl⟩
        have hd : (cs.drop i).length = n - i := by rw [List.length_drop]; omega
        refine ⟨_, rfl, ?_, grown_then (grown_then (drewN_grown w 1 _) (setCells_grown _ _ _)) (setCells_grown _ _ _), Or.inl rfl⟩
        have s1 : SlIs (w.drew.setCells g (off + (i + 1)) (cs.drop i)) base 3 1 (.slice (some ⟨g, off, none⟩) (n + 1) cap) (n + 1) (cs.take (i + 1) ++ cs.drop i) := by
          refine SlIs.puts (w := w.drew) h (i + 1) (n + 1) (cs.drop i) _ hroom (by omega) (by rw [List.length_append, List.length_take, hd]; omega) (fun j hj hj2 => ?_) (fun j hj h1 h2 => ?_)
          · have hji : j < i + 1 := by omega
            exact ⟨by omega, by rw [List.getElem?_append_left (by rw [List.length_take]; omega), List.getElem?_take, if_pos hji]⟩
          · rw [List.getElem?_append_right (by rw [List.length_take]; omega), List.length_take, Nat.min_eq_left (by omega)]
        refine SlIs.puts s1 i (n + 1) [Value.int .i64 x] _ hroom (by simp; omega) hyl (fun j hj hj2 => ?_) (fun j hj h1 h2 => ?_)
        · simp only [List.length_singleton] at hj2
          refine ⟨hj, ?_⟩
          rw [ins_cells cs i n _ hcl (by omega)]
          by_cases h1 : j < i
          · rw [if_pos h1, List.getElem?_append_left (by rw [List.length_take]; omega), List.getElem?_take, if_pos (by omega)]
          · rw [if_neg h1, if_neg (by omega), List.getElem?_append_right (by rw [List.length_take]; omega), List.length_take, Nat.min_eq_left (by omega), List.getElem?_drop]
            congr 1
            omega
        · simp only [List.length_singleton] at h2
          obtain rfl : j = i := by omega
          rw [ins_cells cs j n _ hcl (by omega), if_neg (by omega), if_pos rfl, Nat.sub_self]
          rfl
      · refine (Any2.slices_Insert_int_grow Try.insI g off n cap i vb 0 1 1 cs [Value.int .i64 x] w hin' (by omega) hc (by omega) (by omega) hcl rfl hcc hvs h1c h1v).mono ?_
        rintro e w' ⟨rfl, rfl⟩
        have hd : (cs.drop i).length = n - i := by rw [List.length_drop]; omega
        have hgc := hge cap
        refine ⟨_, rfl, ?_, ?_, Or.inr rfl⟩
        · obtain ⟨ROW, hROW⟩ : ∃ ROW : Array Value, ROW = (cs.take i).toArray ++ Builtin.zeroCells (Value.int .i64 0).cells (n + 1 - i) ++ Builtin.zeroCells (Value.int .i64 0).cells (grownCap w (n + 1) cap 3 - (n + 1)) := ⟨_, rfl⟩
          have hRz : ROW.size = grownCap w (n + 1) cap 3 := by
            rw [hROW]
            simp [Builtin.zeroCells, Value.cells]
            omega
          have hRi : ∀ j, j < i → ROW[j]? = cs[j]? := fun j hj => by
            rw [hROW, Array.getElem?_append_left (by simp; omega), Array.getElem?_append_left (by simp; omega), List.getElem?_toArray, List.getElem?_take, if_pos hj]
          obtain ⟨G, hG⟩ : ∃ G, G = grownCap w (n + 1) cap 3 := ⟨_, rfl⟩
          have hGl := hle cap
          rw [← hG] at hRz hgc hGl
          obtain ⟨R, hR⟩ : ∃ R, R = ROW.toList.take (n + 1) := ⟨_, rfl⟩
          have hRl : R.length = n + 1 := by rw [hR, List.length_take, Array.length_toList]; omega
          have hRg : ∀ j, j < n + 1 → R[j]? = ROW[j]? := fun j hj => by rw [hR, List.getElem?_take, if_pos hj, Array.getElem?_toList]
          have s0 : SlIs (w.alloc (.cells ROW 3)).drew base 3 1 (.slice (some ⟨w.heap.size, 0, none⟩) (n + 1) G) (n + 1) R :=
            ⟨by rw [hRl, Nat.mul_one], .inr ⟨w.heap.size, 0, G, ROW, rfl, hb, (BlkIs.new w 3 ROW).toRow, hgc, hGl, by omega, fun j hj => by rw [Nat.zero_add]; exact (hRg j (by omega)).symm⟩⟩
          have s1 : SlIs ((w.alloc (.cells ROW 3)).drew.setCells w.heap.size (0 + i) [Value.int .i64 x]) base 3 1 (.slice (some ⟨w.heap.size, 0, none⟩) (n + 1) G) (n + 1) (cs.take i ++ Value.int .i64 x :: R.drop (i + 1)) := by
            refine SlIs.puts s0 i (n + 1) [Value.int .i64 x] _ hgc (by simp; omega) (by rw [List.length_append, List.length_cons, List.length_take, List.length_drop]; omega) (fun j hj hj2 => ?_) (fun j hj h1 h2 => ?_)
            · simp only [List.length_singleton] at hj2
              refine ⟨hj, ?_⟩
              by_cases h1 : j < i
              · rw [List.getElem?_append_left (by rw [List.length_take]; omega), List.getElem?_take, if_pos h1, hRg j (by omega), hRi j h1]
              · rw [List.getElem?_append_right (by rw [List.length_take]; omega), List.length_take, Nat.min_eq_left (by omega), show j - i = (j - i - 1) + 1 by omega, List.getElem?_cons_succ, List.getElem?_drop]
                congr 1
                omega
            · simp only [List.length_singleton] at h2
              obtain rfl : j = i := by omega
              rw [List.getElem?_append_right (by rw [List.length_take]; omega), List.length_take, Nat.min_eq_left (by omega), Nat.sub_self]
              rfl
          have s2 : SlIs (((w.alloc (.cells ROW 3)).drew.setCells w.heap.size (0 + i) [Value.int .i64 x]).drew.setCells w.heap.size (0 + (i + 1)) (cs.drop i)) base 3 1 (.slice (some ⟨w.heap.size, 0, none⟩) (n + 1) G) (n + 1) (cs.take i ++ Value.int .i64 x :: cs.drop i) := by
            refine SlIs.puts (w := ((w.alloc (.cells ROW 3)).drew.setCells w.heap.size (0 + i) [Value.int .i64 x]).drew) s1 (i + 1) (n + 1) (cs.drop i) _ hgc (by omega) hyl (fun j hj hj2 => ?_) (fun j hj h1 h2 => ?_)
            · have hji : j < i + 1 := by omega
              refine ⟨hj, ?_⟩
              by_cases h1 : j < i
              · rw [List.getElem?_append_left (by rw [List.length_take]; omega), List.getElem?_append_left (by rw [List.length_take]; omega)]
              · obtain rfl : j = i := by omega
                rw [List.getElem?_append_right (by rw [List.length_take]; omega), List.getElem?_append_right (by rw [List.length_take]; omega), List.length_take, Nat.min_eq_left (by omega), Nat.sub_self]
                rfl
            · rw [List.getElem?_append_right (by rw [List.length_take]; omega), List.length_take, Nat.min_eq_left (by omega), show j - i = (j - (i + 1)) + 1 by omega, List.getElem?_cons_succ]
          rw [Nat.zero_add, Nat.zero_add] at s2
          rw [hROW, hG] at s2
          exact s2
        · exact grown_new (grown_then (grown_new (grown_then (World.grownBy_alloc w _ _) (drewN_grown _ 1 _)) (setCells_grown _ _ _) (Nat.le_refl _)) (drewN_grown _ 1 _)) (setCells_grown _ _ _) (Nat.le_refl _)
end Go.Proofs.Ytckhekkdidfefaa.Set
