/- shelf.Map[string, int]: New, find, Get, Put, walked, behind MkSet. Printed by mk_map.py out of layer 08's texts. (Layer 11.) -/
import Derived.Test.YthcgdpdijdmelaaGreatMkSet
namespace Go.Proofs.YthcgdpdijdmelaaGreat.Set
set_option linter.unusedVariables false
open Go.RowKit Go.Sort Go.Lib
theorem insert_int (base i : Nat) (v : Value) (l : List Int) (x : Int) (vb : Nat) (w : World) (h : SlIs w base 3 1 v l.length (icells l)) (hi : i ≤ l.length) (hn : l.length ≤ 1000000) (hb : base ≤ w.heap.size)
    (ha : BlkIs w vb 3 #[Value.int .i64 x]) (hne : v.ownBlock ≠ some vb) :
    Calls Tryz.prog 26 #[v, .int .i64 (i : Int), .slice (some ⟨vb, 0, none⟩) 1 1] w fun e w' => InsInt base l.length v (icells (l.take i ++ x :: l.drop i)) w w' e := by
  obtain ⟨n, hnl⟩ : ∃ n, n = l.length := ⟨_, rfl⟩
  obtain ⟨cs, hcs⟩ : ∃ cs, cs = icells l := ⟨_, rfl⟩
  have hcl : cs.length = n := by rw [hcs, icells_length, hnl]
  have hys : icells (l.take i ++ x :: l.drop i) = cs.take i ++ Value.int .i64 x :: cs.drop i := by rw [hcs]; simp [icells, List.map_take, List.map_drop]
  have h1c : ∀ v ∈ cs, v.oneCell' = true := by rw [hcs]; exact icells_one l
  rw [hys]
  rw [← hnl] at hi hn ⊢
  rw [← hnl, ← hcs] at h
  have hyl : (cs.take i ++ Value.int .i64 x :: cs.drop i).length = n + 1 := by rw [List.length_append, List.length_cons, List.length_take, List.length_drop]; omega
  have hvs : ∀ (j : Nat) v, [Value.int .i64 x][j]? = some v → w.cell? ⟨vb, 0 + j, none⟩ = some v := fun j v hj => by
    rw [ha.cell]
    rcases j with _ | j
    · simpa using hj
    · simp at hj
  have h1v : ∀ v ∈ [Value.int .i64 x], v.oneCell' = true := fun v hv => by rcases List.mem_singleton.1 hv with rfl; rfl
  have hge : ∀ c, n + 1 ≤ grownCap w (n + 1) c 3 := fun c => grownCap_ge w (n + 1) c _
  have hle : ∀ c, grownCap w (n + 1) c 3 ≤ maxLen := fun c => grownCap_le_maxLen w (n + 1) c _ (by unfold maxLen; omega)
  have endgrow : ∀ (ao : Option Addr) (c : Nat), n ≤ c → c < n + 1 → (ao = none → n = 0) → (∀ a, ao = some a → ∀ (j : Nat) v, cs[j]? = some v → w.cell? (a.add j) = some v) → i = n →
      Calls Tryz.prog 26 #[.slice ao n c, .int .i64 (i : Int), .slice (some ⟨vb, 0, none⟩) 1 1] w fun e w' => InsInt base n (.slice ao n c) (cs.take i ++ Value.int .i64 x :: cs.drop i) w w' e := by
    intro ao c hnc hroom hnil hcell hin
    subst hin
    refine (Any2.slices_Insert_int_end_grow Tryz.insI ao i c vb 0 1 1 cs [Value.int .i64 x] w (by omega) hnc hroom (by omega) hcl rfl hnil hcell hvs h1v).mono ?_
    rintro e w' ⟨rfl, rfl⟩
    refine ⟨_, rfl, ?_, ?_, Or.inr rfl⟩
    · refine ⟨by rw [hyl]; omega, .inr ⟨w.heap.size, 0, _, _, rfl, hb, (BlkIs.new w.drew 3 _).toRow, hge c, hle c, ?_, fun j hj => ?_⟩⟩
      · have := hge c
        simp [Builtin.zeroCells, Value.cells, hcl]
        omega
      · rw [hyl] at hj
        rw [ins_cells cs i i _ hcl (Nat.le_refl _), Nat.zero_add, Array.getElem?_append_left (by simp [hcl]; omega), List.getElem?_toArray]
        by_cases h1 : j < i
        · rw [if_pos h1, List.getElem?_append_left (by omega)]
        · obtain rfl : j = i := by omega
          rw [if_neg (by omega), if_pos rfl, List.getElem?_append_right (by omega), hcl, Nat.sub_self]
          rfl
    · exact grown_then (drewN_grown w 1 _) (World.grownBy_alloc _ _ _)
  rcases h.parts with ⟨rfl, h0⟩ | ⟨g, off, cap, rfl, hg, hlt, hc, hmx, hx, hsome, hfz, tk, hsh, htk⟩
  · have hi0 : i = n := by omega
    rw [h0] at hi0 ⊢
    have := endgrow none 0 (by omega) (by omega) (fun _ => h0) (fun a ha => by cases ha) (by omega)
    rw [h0] at this
    exact this
  · have hmx' : cap ≤ 9223372036854775807 := by unfold maxLen at hmx; exact hmx
    have hcc : ∀ (j : Nat) v, cs[j]? = some v → w.cell? ⟨g, off + j, none⟩ = some v := fun j v hj => by
      rw [hx j (by rw [← hcl]; exact (List.getElem?_eq_some_iff.1 hj).1)]; exact hj
    have hvg : vb ≠ g := fun e => hne (by rw [e]; rfl)
    by_cases hin : i = n
    · subst hin
      by_cases hroom : i + 1 ≤ cap
      · refine (Any2.slices_Insert_int_end_room Tryz.insI g off i cap vb 0 1 1 [Value.int .i64 x] w (by omega) hroom hmx' rfl (fun j hj => by rw [Nat.add_assoc]; exact hsome _ (by omega)) (fun j hj => by rw [Nat.add_assoc]; exact hfz _ (by omega)) hvs h1v).mono ?_
        rintro e w' ⟨rfl, rfl⟩
        refine ⟨_, rfl, ?_, setCells_grown _ _ _, Or.inl rfl⟩
        refine SlIs.puts h i (i + 1) [Value.int .i64 x] _ hroom (by simpa using hroom) hyl (fun j hj hj2 => ?_) (fun j hj h1 h2 => ?_)
        · simp only [List.length_singleton] at hj2
          exact ⟨by omega, by rw [ins_cells cs i i _ hcl (Nat.le_refl _), if_pos (by omega)]⟩
        · simp only [List.length_singleton] at h2
          obtain rfl : j = i := by omega
          rw [ins_cells cs j j _ hcl (Nat.le_refl _), if_neg (by omega), if_pos rfl, Nat.sub_self]
          rfl
      · exact endgrow _ cap hc (by omega) (fun ha => by cases ha) (fun a ha j v hj => by
          injection ha with ha
          subst ha
          rw [Addr.add_lit]
          exact hcc j v hj) rfl
    · have hin' : i < n := by omega
      by_cases hroom : n + 1 ≤ cap
      · refine (Any2.slices_Insert_int_shift Tryz.insI g off n cap i vb 0 1 1 cs [Value.int .i64 x] w hin' (by omega) hroom hmx' hvg hcl rfl hcc (fun j hj => hsome j (by omega)) (fun j hj => hfz j (by omega)) hvs h1c h1v 3 3 1 tk ha.shape hsh (by omega) (ha.free 0) (ha.free 1)).mono ?_
        rintro e w' ⟨rfl, rfl⟩
        have hd : (cs.drop i).length = n - i := by rw [List.length_drop]; omega
        refine ⟨_, rfl, ?_, grown_then (grown_then (drewN_grown w 1 _) (setCells_grown _ _ _)) (setCells_grown _ _ _), Or.inl rfl⟩
        have s1 : SlIs (w.drew.setCells g (off + (i + 1)) (cs.drop i)) base 3 1 (.slice (some ⟨g, off, none⟩) (n + 1) cap) (n + 1) (cs.take (i + 1) ++ cs.drop i) := by
          refine SlIs.puts (w := w.drew) h (i + 1) (n + 1) (cs.drop i) _ hroom (by omega) (by rw [List.length_append, List.length_take, hd]; omega) (fun j hj hj2 => ?_) (fun j hj h1 h2 => ?_)
          · have hji : j < i + 1 := by omega
            exact ⟨by omega, by rw [List.getElem?_append_left (by rw [List.length_take]; omega), List.getElem?_take, if_pos hji]⟩
          · rw [List.getElem?_append_right (by rw [List.length_take]; omega), List.length_take, Nat.min_eq_left (by omega)]
        refine SlIs.puts s1 i (n + 1) [Value.int .i64 x] _ hroom (by simp; omega) hyl (fun j hj hj2 => ?_) (fun j hj h1 h2 => ?_)
        · simp only [List.length_singleton] at hj2
          refine ⟨hj, ?_⟩
          rw [ins_cells cs i n _ hcl (by omega)]
          by_cases h1 : j < i
          · rw [if_pos h1, List.getElem?_append_left (by rw [List.length_take]; omega), List.getElem?_take, if_pos (by omega)]
          · rw [if_neg h1, if_neg (by omega), List.getElem?_append_right (by rw [List.length_take]; omega), List.length_take, Nat.min_eq_left (by omega), List.getElem?_drop]
            congr 1
            omega
        · simp only [List.length_singleton] at h2
          obtain rfl : j = i := by omega
          rw [ins_cells cs j n _ hcl (by omega), if_neg (by omega), if_pos rfl, Nat.sub_self]
          rfl
      · refine (Any2.slices_Insert_int_grow Tryz.insI g off n cap i vb 0 1 1 cs [Value.int .i64 x] w hin' (by omega) hc (by omega) (by omega) hcl rfl hcc hvs h1c h1v).mono ?_
        rintro e w' ⟨rfl, rfl⟩
        have hd : (cs.drop i).length = n - i := by rw [List.length_drop]; omega
        have hgc := hge cap
        refine ⟨_, rfl, ?_, ?_, Or.inr rfl⟩
        · obtain ⟨ROW, hROW⟩ : ∃ ROW : Array Value, ROW = (cs.take i).toArray ++ Builtin.zeroCells (Value.int .i64 0).cells (n + 1 - i) ++ Builtin.zeroCells (Value.int .i64 0).cells (grownCap w (n + 1) cap 3 - (n + 1)) := ⟨_, rfl⟩
          have hRz : ROW.size = grownCap w (n + 1) cap 3 := by
            rw [hROW]
            simp [Builtin.zeroCells, Value.cells]
            omega
          have hRi : ∀ j, j < i → ROW[j]? = cs[j]? := fun j hj => by
            rw [hROW, Array.getElem?_append_left (by simp; omega), Array.getElem?_append_left (by simp; omega), List.getElem?_toArray, List.getElem?_take, if_pos hj]
          obtain ⟨G, hG⟩ : ∃ G, G = grownCap w (n + 1) cap 3 := ⟨_, rfl⟩
          have hGl := hle cap
          rw [← hG] at hRz hgc hGl
          obtain ⟨R, hR⟩ : ∃ R, R = ROW.toList.take (n + 1) := ⟨_, rfl⟩
          have hRl : R.length = n + 1 := by rw [hR, List.length_take, Array.length_toList]; omega
          have hRg : ∀ j, j < n + 1 → R[j]? = ROW[j]? := fun j hj => by rw [hR, List.getElem?_take, if_pos hj, Array.getElem?_toList]
          have s0 : SlIs (w.alloc (.cells ROW 3)).drew base 3 1 (.slice (some ⟨w.heap.size, 0, none⟩) (n + 1) G) (n + 1) R :=
            ⟨by rw [hRl, Nat.mul_one], .inr ⟨w.heap.size, 0, G, ROW, rfl, hb, (BlkIs.new w 3 ROW).toRow, hgc, hGl, by omega, fun j hj => by rw [Nat.zero_add]; exact (hRg j (by omega)).symm⟩⟩
          have s1 : SlIs ((w.alloc (.cells ROW 3)).drew.setCells w.heap.size (0 + i) [Value.int .i64 x]) base 3 1 (.slice (some ⟨w.heap.size, 0, none⟩) (n + 1) G) (n + 1) (cs.take i ++ Value.int .i64 x :: R.drop (i + 1)) := by
            refine SlIs.puts s0 i (n + 1) [Value.int .i64 x] _ hgc (by simp; omega) (by rw [List.length_append, List.length_cons, List.length_take, List.length_drop]; omega) (fun j hj hj2 => ?_) (fun j hj h1 h2 => ?_)
            · simp only [List.length_singleton] at hj2
              refine ⟨hj, ?_⟩
              by_cases h1 : j < i
              · rw [List.getElem?_append_left (by rw [List.length_take]; omega), List.getElem?_take, if_pos h1, hRg j (by omega), hRi j h1]
              · rw [List.getElem?_append_right (by rw [List.length_take]; omega), List.length_take, Nat.min_eq_left (by omega), show j - i = (j - i - 1) + 1 by omega, List.getElem?_cons_succ, List.getElem?_drop]
                congr 1
                omega
            · simp only [List.length_singleton] at h2
              obtain rfl : j = i := by omega
              rw [List.getElem?_append_right (by rw [List.length_take]; omega), List.length_take, Nat.min_eq_left (by omega), Nat.sub_self]
              rfl
          have s2 : SlIs (((w.alloc (.cells ROW 3)).drew.setCells w.heap.size (0 + i) [Value.int .i64 x]).drew.setCells w.heap.size (0 + (i + 1)) (cs.drop i)) base 3 1 (.slice (some ⟨w.heap.size, 0, none⟩) (n + 1) G) (n + 1) (cs.take i ++ Value.int .i64 x :: cs.drop i) := by
            refine SlIs.puts (w := ((w.alloc (.cells ROW 3)).drew.setCells w.heap.size (0 + i) [Value.int .i64 x]).drew) s1 (i + 1) (n + 1) (cs.drop i) _ hgc (by omega) hyl (fun j hj hj2 => ?_) (fun j hj h1 h2 => ?_)
            · have hji : j < i + 1 := by omega
              refine ⟨hj, ?_⟩
              by_cases h1 : j < i
              · rw [List.getElem?_append_left (by rw [List.length_take]; omega), List.getElem?_append_left (by rw [List.length_take]; omega)]
              · obtain rfl : j = i := by omega
                rw [List.getElem?_append_right (by rw [List.length_take]; omega), List.getElem?_append_right (by rw [List.length_take]; omega), List.length_take, Nat.min_eq_left (by omega), Nat.sub_self]
                rfl
            · rw [List.getElem?_append_right (by rw [List.length_take]; omega), List.length_take, Nat.min_eq_left (by omega), show j - i = (j - (i + 1)) + 1 by omega, List.getElem?_cons_succ]
          rw [Nat.zero_add, Nat.zero_add] at s2
          rw [hROW, hG] at s2
          exact s2
        · exact grown_new (grown_then (grown_new (grown_then (World.grownBy_alloc w _ _) (drewN_grown _ 1 _)) (setCells_grown _ _ _) (Nat.le_refl _)) (drewN_grown _ 1 _)) (setCells_grown _ _ _) (Nat.le_refl _)
abbrev Row := List (ByteArray × Int)
abbrev ks (L : Row) : List ByteArray := L.map (·.1)
abbrev vs (L : Row) : List Int := L.map (·.2)
/-- A map of texts to numbers, in block g: the keys kv, the values vv; all its blocks from base on. -/
structure SMap (w : World) (base g : Nat) (kv vv : Value) (L : Row) : Prop where
  ge : base ≤ g
  blk : BlkIs w g 65 #[kv, vv]
  keys : SlIs w base 9 1 kv L.length (scells (ks L))
  vals : SlIs w base 3 1 vv L.length (icells (vs L))
  rise : Rise (ks L)
theorem SMap.chg {S : Nat → Prop} {w w' : World} {base g : Nat} {kv vv : Value} {L : Row} (h : SMap w base g kv vv L) (hc : Chg S w w') (hn : ∀ k, Own_ g kv vv k → ¬ S k) : SMap w' base g kv vv L :=
  ⟨h.ge, hc.blk h.blk (hn g (Or.inl rfl)), hc.sl h.keys fun k hk => hn k (Or.inr (Or.inl hk)), hc.sl h.vals fun k hk => hn k (Or.inr (Or.inr hk)), h.rise⟩
theorem SMap.later {w w' : World} {base g : Nat} {kv vv : Value} {L : Row} (h : SMap w base g kv vv L) (hb : Below w.heap.size w w') : SMap w' base g kv vv L :=
  h.chg (S := fun _ => False) (.of_below hb) fun _ _ h => h
theorem SMap.mono {w : World} {base base' g : Nat} {kv vv : Value} {L : Row} (h : SMap w base g kv vv L) (hb : base' ≤ base) : SMap w base' g kv vv L :=
  ⟨Nat.le_trans hb h.ge, h.blk, h.keys.mono hb, h.vals.mono hb, h.rise⟩
theorem SMap.own {w : World} {base g : Nat} {kv vv : Value} {L : Row} (h : SMap w base g kv vv L) {k : Nat} (hk : Own_ g kv vv k) : base ≤ k ∧ k < w.heap.size := by
  rcases hk with rfl | hk | hk
  · exact ⟨h.ge, h.blk.lt⟩
  · exact h.keys.lt k hk
  · exact h.vals.lt k hk
theorem ks_len (L : Row) : (ks L).length = L.length := by simp
theorem SMap.keysAt {w : World} {base g : Nat} {kv vv : Value} {L : Row} (h : SMap w base g kv vv L) : StrAt w kv (ks L) := StrAt.of_sl (by rw [ks_len]; exact h.keys)
theorem map_new (w : World) : Calls Tryz.prog 7 #[] w fun e w' => ∃ g kv vv, e = .returned (.pointer (some ⟨g, 0, none⟩)) ∧ SMap w' w.heap.size g kv vv [] ∧ Below w.heap.size w w' := by
  have k := BlkIs.new w 65 #[.slice none 0 0, .slice none 0 0]
  have H := Lib.hid (And.intro k ((Below.refl w.heap.size w).alloc (Nat.le_refl _) (.cells #[.slice none 0 0, .slice none 0 0] 65)))
  clear k
  go_enter Tryz.func7, Tryz.ntmps7
  go_wp2_with fail
  go_ret
  exact ⟨w.heap.size, _, _, rfl, ⟨Nat.le_refl _, H.out.1, SlIs.nil_ _ _ _ _, SlIs.nil_ _ _ _ _, List.Pairwise.nil⟩, H.out.2⟩
theorem map_find (base g : Nat) (kv vv : Value) (L : Row) (x : ByteArray) (w : World) (h : SMap w base g kv vv L) (hn : L.length ≤ 1000000) :
    Calls Tryz.prog 24 #[.pointer (some ⟨g, 0, none⟩), .string x] w fun e w' => e = .returned (.tuple #[.int .i64 ((pos (ks L) x : Nat) : Int), .bool (has (ks L) x)]) ∧ DrawsOf w w' := by
  have S := Lib.hid (search_string kv (ks L) x w h.keysAt h.rise (by rw [ks_len]; exact hn))
  have c0 : w.cell? ⟨g, 0, none⟩ = some kv := h.blk.cell 0
  obtain ⟨ao, cap, rfl, -, -, -⟩ := h.keys.form
  obtain ⟨p, hp⟩ : ∃ p, p = pos (ks L) x := ⟨_, rfl⟩
  obtain ⟨b, hb⟩ : ∃ b, b = has (ks L) x := ⟨_, rfl⟩
  rw [← hp, ← hb] at S ⊢
  clear h hn hp hb
  go_enter Tryz.func24, Tryz.ntmps24
  go_wp2_with fail
  refine S.out.mono ?_
  rintro e w1 ⟨rfl, hd⟩
  have HD := Lib.hid hd
  clear S hd
  go_wp2_with fail
  go_ret2
  exact ⟨rfl, HD.out⟩
theorem SlIs.put1 {w : World} {base : Nat} {e : TypeId} {g off n cap : Nat} {xs : List Value} (h : SlIs w base e 1 (.slice (some ⟨g, off, none⟩) n cap) n xs) (i : Nat) (hi : i < n) (u : Value) :
    SlIs (w.setCell ⟨g, off + i, none⟩ u) base e 1 (.slice (some ⟨g, off, none⟩) n cap) n (xs.set i u) := by
  have hl : xs.length = n := by simpa using h.1
  have hc := h.capLe
  have := SlIs.puts h i n [u] (xs.set i u) hc (by simp; omega) (by simp [hl]) (fun j hj hj2 => ?_) (fun j hj h1 h2 => ?_)
  · exact this
  · refine ⟨hj, ?_⟩
    rw [List.getElem?_set_ne (by simp at hj2; omega)]
  · obtain rfl : j = i := by simp at h2; omega
    rw [List.getElem?_set_self (by omega), Nat.sub_self]; rfl
theorem at_pos {L : Row} {x : ByteArray} (hr : Rise (ks L)) (h : x ∈ ks L) : ∃ hp : pos (ks L) x < L.length, (L[pos (ks L) x]).1 = x := by
  obtain ⟨h1, h2⟩ := pos_at hr h
  have h1' : pos (ks L) x < L.length := by rw [← ks_len L]; exact h1
  refine ⟨h1', ?_⟩
  rw [List.getElem_map] at h2
  exact h2
open Classical in
noncomputable def mget (L : Row) (x : ByteArray) : Int := if x ∈ ks L then ((vs L)[pos (ks L) x]?).getD 0 else 0
open Classical in
noncomputable def mput (x : ByteArray) (y : Int) (L : Row) : Row := if x ∈ ks L then L.set (pos (ks L) x) (x, y) else L.take (pos (ks L) x) ++ (x, y) :: L.drop (pos (ks L) x)
theorem mget_in {L : Row} {x : ByteArray} (hr : Rise (ks L)) (h : x ∈ ks L) : ∃ hp : pos (ks L) x < L.length, mget L x = (L[pos (ks L) x]).2 ∧ (L[pos (ks L) x]).1 = x := by
  obtain ⟨h1, h2⟩ := at_pos hr h
  refine ⟨h1, ?_, h2⟩
  unfold mget
  rw [if_pos h, List.getElem?_map, List.getElem?_eq_getElem h1]
  rfl
theorem mget_out {L : Row} {x : ByteArray} (h : ¬ x ∈ ks L) : mget L x = 0 := if_neg h
theorem mput_in {L : Row} {x : ByteArray} {y : Int} (h : x ∈ ks L) : mput x y L = L.set (pos (ks L) x) (x, y) := if_pos h
theorem mput_out {L : Row} {x : ByteArray} {y : Int} (h : ¬ x ∈ ks L) : mput x y L = L.take (pos (ks L) x) ++ (x, y) :: L.drop (pos (ks L) x) := if_neg h
theorem ks_put {L : Row} {x : ByteArray} {y : Int} (hr : Rise (ks L)) : ks (mput x y L) = ins x (ks L) := by
  by_cases h : x ∈ ks L
  · obtain ⟨h1, h2⟩ := at_pos hr h
    rw [mput_in h, ins_of h, ks, List.map_set]
    apply List.ext_getElem?
    intro i
    rw [List.getElem?_set]
    split
    · rename_i e
      subst e
      rw [if_pos (by simpa using h1), List.getElem?_map, List.getElem?_eq_getElem h1]
      simp [h2]
    · rfl
  · rw [mput_out h, ins_new h]
    simp [ks, List.map_take, List.map_drop]
theorem map_get (base g : Nat) (kv vv : Value) (L : Row) (x : ByteArray) (w : World) (h : SMap w base g kv vv L) (hn : L.length ≤ 1000000) :
    Calls Tryz.prog 13 #[.pointer (some ⟨g, 0, none⟩), .string x] w fun e w' => e = .returned (.tuple #[.int .i64 (mget L x), .bool (has (ks L) x)]) ∧ DrawsOf w w' := by
  have F := Lib.hid (map_find base g kv vv L x w h hn)
  have c1 : w.cell? ⟨g, 1, none⟩ = some vv := h.blk.cell 1
  have HV := Lib.hid h.vals
  by_cases hx : x ∈ ks L
  · obtain ⟨hp, hg, -⟩ := mget_in h.rise hx
    rw [has_true hx, hg] at *
    obtain ⟨p, hpp⟩ : ∃ p, p = pos (ks L) x := ⟨_, rfl⟩
    have HY := Lib.hid (List.getElem?_eq_getElem hp)
    obtain ⟨y, hy⟩ : ∃ y, y = (L[pos (ks L) x]).2 := ⟨_, rfl⟩
    rw [← hy]
    have hc : (icells (vs L))[p]? = some (.int .i64 y) := by rw [hpp, hy, icells, List.getElem?_map, List.getElem?_map, HY.out]; rfl
    rw [← hpp] at F hp
    have HC := Lib.hid hc
    obtain ⟨n, hn'⟩ : ∃ n, n = L.length := ⟨_, rfl⟩
    rw [← hn'] at HV hp hn
    clear h hx hg hpp hy HY hc hn'
    rcases HV.out.parts with ⟨rfl, h0⟩ | ⟨b, off, cap, rfl, -, hblt, hcc, hmx, hcell, -⟩
    · omega
    have c2 := (hcell p hp).trans HC.out
    have k0 : (p : Int) < n := by omega
    clear hcell
    go_enter Tryz.func13, Tryz.ntmps13
    go_wp2_with fail
    refine F.out.mono ?_
    rintro e w1 ⟨rfl, q, rfl⟩
    clear F
    go_wp2_with fail
    go_ret2
    exact ⟨rfl, ⟨q, rfl⟩⟩
  · rw [has_false hx] at *
    rw [mget_out hx]
    obtain ⟨p, hpp⟩ : ∃ p, p = pos (ks L) x := ⟨_, rfl⟩
    rw [← hpp] at F
    clear h hx hpp hn
    go_enter Tryz.func13, Tryz.ntmps13
    go_wp2_with fail
    refine F.out.mono ?_
    rintro e w1 ⟨rfl, q, rfl⟩
    clear F
    go_wp2_with fail
    go_ret2
    exact ⟨rfl, ⟨q, rfl⟩⟩
/-- What Put leaves. -/
def MapPut (base g : Nat) (kv vv : Value) (L : Row) (x : ByteArray) (y : Int) (w w' : World) (e : Ending) : Prop :=
  ∃ kv' vv', e = .returned (.bool (!has (ks L) x)) ∧ SMap w' base g kv' vv' (mput x y L) ∧ Chg (Own_ g kv vv) w w' ∧ ∀ k, Own_ g kv' vv' k → Own_ g kv vv k ∨ w.heap.size ≤ k
set_option maxRecDepth 100000 in
set_option maxHeartbeats 2000000 in
theorem map_put (base g : Nat) (kv vv : Value) (L : Row) (x : ByteArray) (y : Int) (w : World) (h : SMap w base g kv vv L) (hn : L.length < 1000000) :
    Calls Tryz.prog 8 #[.pointer (some ⟨g, 0, none⟩), .string x, .int .i64 y] w fun e w' => MapPut base g kv vv L x y w w' e := by
  have F := Lib.hid (map_find base g kv vv L x w h (by omega))
  have HH := Lib.hid h
  have HN := Lib.hid hn
  obtain ⟨p, hp⟩ : ∃ p, p = pos (ks L) x := ⟨_, rfl⟩
  have hpl : p ≤ L.length := by rw [hp, ← ks_len L]; exact pos_le _ x
  rw [← hp] at F
  have HP := Lib.hid hp
  have hgl := h.blk.lt
  have hbl : base ≤ w.heap.size := Nat.le_trans h.ge (Nat.le_of_lt hgl)
  have HG := Lib.hid (And.intro hgl hbl)
  obtain ⟨n, hnn⟩ : ∃ n, n = L.length := ⟨_, rfl⟩
  have HL := Lib.hid hnn
  have hs := And.intro h.keys h.vals
  rw [← hnn] at hs hpl hn
  obtain ⟨ak, ck, rfl, -, -, -⟩ := hs.1.form
  obtain ⟨av, cv, rfl, -, -, -⟩ := hs.2.form
  have H0 := Lib.hid hs
  clear h hp hgl hbl hnn hs
  by_cases hx : x ∈ ks L
  · rw [has_true hx] at F
    have HX := Lib.hid hx
    have hp1 : p < n := by rw [HP.out, HL.out]; exact (at_pos HH.out.rise hx).1
    clear hx
    rcases H0.out.2.parts with ⟨h1, h0⟩ | ⟨b, off, cap, hv, -, hblt, hcc, hmx, hcell, hlst, hfz, -⟩
    · omega
    injection hv with e1 e2 e3
    subst e1 e3
    have c1 : w.cell? ⟨g, 1, none⟩ = some (.slice (some ⟨b, off, none⟩) n cv) := HH.out.blk.cell 1
    have k0 : (p : Int) < n := by omega
    have f0 := hfz p (by omega)
    obtain ⟨u, hu⟩ : ∃ u, w.cell? ⟨b, off + p, none⟩ = some u := by
      rw [hcell p hp1, List.getElem?_eq_getElem (by have := H0.out.2.1; omega)]
      exact ⟨_, rfl⟩
    clear hcell hlst hfz e2
    go_enter Tryz.func8, Tryz.ntmps8
    go_wp2_with fail
    refine F.out.mono ?_
    rintro e w1 ⟨rfl, q, rfl⟩
    clear F
    go_wp2_with fail
    go_ret
    have hbg : BlkIs (w.drewN q) g 65 #[.slice ak n ck, .slice (some ⟨b, off, none⟩) n cv] := HH.out.blk
    have hnb := H0.out.2.ne_blk HH.out.blk (by decide)
    have hkb : (Value.slice ak n ck).ownBlock ≠ some b := fun e => by
      rcases sl_apart H0.out.1 H0.out.2 (by decide) with h1 | h1
      · rw [h1] at e; cases e
      · exact h1 e
    have hm : mput x y L = L.set p (x, y) := by rw [mput_in HX.out, HP.out]
    have hks : ks (mput x y L) = ks L := by rw [ks_put HH.out.rise, ins_of HX.out]
    have hvs : icells (vs (mput x y L)) = (icells (vs L)).set p (.int .i64 y) := by rw [hm, vs, List.map_set, icells, List.map_set]; rfl
    have hml : (mput x y L).length = n := by rw [hm, List.length_set, HL.out]
    have r0 : ∀ r, r = (⟨b, off + p, none⟩ : Addr) → g ≠ r.block := fun r e h1 => hnb (by rw [e] at h1; exact congrArg some h1.symm)
    refine ⟨_, _, by rw [has_true HX.out]; rfl, ⟨HH.out.ge, hbg.far (r0 _ rfl) _, ?_, ?_, ?_⟩, ((Chg.of_below (((DrawsOf.refl w).drewN q).below _)).setCell (p := ⟨b, off + p, none⟩) (Or.inl (Or.inr (Or.inr rfl))) _), fun k hk => Or.inl hk⟩
    · rw [hml, hks]
      exact (H0.out.1.drewN q).far hkb _
    · rw [hml, hvs]
      exact SlIs.put1 (H0.out.2.drewN q) p hp1 _
    · rw [hks]; exact HH.out.rise
  · rw [has_false hx] at F
    have HX := Lib.hid hx
    clear hx
    go_enter Tryz.func8, Tryz.ntmps8
    go_wp2_with fail
    refine F.out.mono ?_
    rintro e w1 ⟨rfl, q, rfl⟩
    clear F
    obtain ⟨W1, hW1⟩ : ∃ W1, W1 = w.drewN q := ⟨_, rfl⟩
    have hdr := ((DrawsOf.refl w).drewN q).below w.heap.size
    have H1 := Lib.hid (show BlkIs W1 g 65 #[.slice ak n ck, .slice av n cv] ∧ SlIs W1 base 9 1 (.slice ak n ck) n (scells (ks L)) ∧ SlIs W1 base 3 1 (.slice av n cv) n (icells (vs L)) ∧ Below w.heap.size w W1 from by
      rw [hW1]; exact ⟨HH.out.blk, H0.out.1, H0.out.2, hdr⟩)
    rw [← hW1]
    clear hW1 hdr
    obtain ⟨W2, hW2⟩ : ∃ W2, W2 = W1.alloc (.cells #[.string x] 9) := ⟨_, rfl⟩
    have hb2 : Below W1.heap.size W1 W2 := by rw [hW2]; exact (Below.refl _ _).alloc (Nat.le_refl _) _
    have hz2 : W2.heap.size = W1.heap.size + 1 := by rw [hW2]; simp
    have H2 := Lib.hid (show BlkIs W2 g 65 #[.slice ak n ck, .slice av n cv] ∧ SlIs W2 base 9 1 (.slice ak n ck) n (scells (ks L)) ∧ SlIs W2 base 3 1 (.slice av n cv) n (icells (vs L)) ∧ BlkIs W2 W1.heap.size 9 #[.string x] ∧ Below w.heap.size w W2 from by
      refine ⟨H1.out.1.below hb2 H1.out.1.lt, H1.out.2.1.later hb2, H1.out.2.2.1.later hb2, ?_, H1.out.2.2.2.trans (hb2.mono H1.out.2.2.2.size)⟩
      rw [hW2]; exact BlkIs.new _ _ _)
    have hkl : (ks L).length = n := by rw [ks_len, HL.out]
    have hvl : (vs L).length = n := by rw [vs, List.length_map, HL.out]
    have I := insert_string base p (.slice ak n ck) (ks L) x W1.heap.size W2 (by rw [hkl]; exact H2.out.2.1) (by rw [hkl]; exact hpl) (by rw [hkl]; omega) (Nat.le_trans HG.out.2 H2.out.2.2.2.2.size) H2.out.2.2.2.1 (fun e => by have := (H1.out.2.1.lt _ e).2; omega)
    rw [hkl] at I
    have I := Lib.hid I
    have HW2 := Lib.hid hW2
    have c0 : W1.cell? ⟨g, 0, none⟩ = some (.slice ak n ck) := H1.out.1.cell 0
    have d0 : W2.cell? ⟨g, 0, none⟩ = some (.slice ak n ck) := H2.out.1.cell 0
    clear hW2 hb2 hkl
    go_wp2_with fail
    rw [← HW2.out]
    refine I.out.mono ?_
    rintro e W3 ⟨v3, rfl, hs3, hg3, ho3⟩
    have hk3 : BlkIs W3 g 65 #[.slice ak n ck, .slice av n cv] := H2.out.1.grown hg3 (fun e => H2.out.2.1.ne_blk H2.out.1 (by decide) e.symm)
    have hv3 : SlIs W3 base 3 1 (.slice av n cv) n (icells (vs L)) := H2.out.2.2.1.kept hg3 (sl_apart H2.out.2.2.1 H2.out.2.1 (by decide))
    obtain ⟨a3, cap3, rfl, -, -, -⟩ := hs3.form
    have H3 := Lib.hid (And.intro hs3 (And.intro hk3 (And.intro hv3 (And.intro hg3 ho3))))
    have c3 : W3.cell? ⟨g, 0, none⟩ = some (.slice ak n ck) := hk3.cell 0
    have c31 : W3.cell? ⟨g, 1, none⟩ = some (.slice av n cv) := hk3.cell 1
    have f3 := hk3.free 0
    clear I hs3 hk3 hv3 hg3 ho3 c0 d0
    obtain ⟨W4, hW4⟩ : ∃ W4, W4 = W3.setCell ⟨g, 0, none⟩ (.slice a3 (n + 1) cap3) := ⟨_, rfl⟩
    have H4 := Lib.hid (show BlkIs W4 g 65 #[.slice a3 (n + 1) cap3, .slice av n cv] ∧ SlIs W4 base 9 1 (.slice a3 (n + 1) cap3) (n + 1) (scells ((ks L).take p ++ x :: (ks L).drop p)) ∧ SlIs W4 base 3 1 (.slice av n cv) n (icells (vs L)) ∧
        Chg (Own_ g (.slice ak n ck) (.slice av n cv)) w W4 from by
      rw [hW4]
      refine ⟨?_, H3.out.1.far (H3.out.1.ne_blk H3.out.2.1 (by decide)) _, H3.out.2.2.1.far (H3.out.2.2.1.ne_blk H3.out.2.1 (by decide)) _, ?_⟩
      · have := H3.out.2.1.put 0 (.slice a3 (n + 1) cap3)
        simpa using this
      · refine Chg.setCell ?_ (Or.inl (Or.inl rfl)) _
        exact (Chg.of_below H2.out.2.2.2.2).trans (.of_grown H3.out.2.2.2.1 fun k hk => Or.inl (Or.inr (Or.inl hk))))
    obtain ⟨W5, hW5⟩ : ∃ W5, W5 = W4.alloc (.cells #[.int .i64 y] 3) := ⟨_, rfl⟩
    have hb5 : Below W4.heap.size W4 W5 := by rw [hW5]; exact (Below.refl _ _).alloc (Nat.le_refl _) _
    have H5 := Lib.hid (show BlkIs W5 g 65 #[.slice a3 (n + 1) cap3, .slice av n cv] ∧ SlIs W5 base 9 1 (.slice a3 (n + 1) cap3) (n + 1) (scells ((ks L).take p ++ x :: (ks L).drop p)) ∧ SlIs W5 base 3 1 (.slice av n cv) n (icells (vs L)) ∧
        Chg (Own_ g (.slice ak n ck) (.slice av n cv)) w W5 ∧ BlkIs W5 W4.heap.size 3 #[.int .i64 y] from
      ⟨H4.out.1.below hb5 H4.out.1.lt, H4.out.2.1.later hb5, H4.out.2.2.1.later hb5, H4.out.2.2.2.trans (Chg.of_below hb5), by rw [hW5]; exact BlkIs.new _ _ _⟩)
    have I := insert_int base p (.slice av n cv) (vs L) y W4.heap.size W5 (by rw [hvl]; exact H5.out.2.2.1) (by rw [hvl]; exact hpl) (by rw [hvl]; omega) (Nat.le_trans HG.out.2 H5.out.2.2.2.1.size) H5.out.2.2.2.2 (fun e => by have := (H4.out.2.2.1.lt _ e).2; omega)
    rw [hvl] at I
    have I := Lib.hid I
    have HW4 := Lib.hid hW4
    have HW5 := Lib.hid hW5
    have hz4 : W4.heap.size = W3.heap.size := by rw [hW4]; simp
    rw [hz4] at I
    clear hW4 hW5 hb5 hvl hz4
    go_wp2_with fail
    rw [← HW4.out, ← HW5.out]
    refine I.out.mono ?_
    rintro e W6 ⟨v6, rfl, hs6, hg6, ho6⟩
    have hk6 : BlkIs W6 g 65 #[.slice a3 (n + 1) cap3, .slice av n cv] := H5.out.1.grown hg6 (fun e => H5.out.2.2.1.ne_blk H5.out.1 (by decide) e.symm)
    have hv6 : SlIs W6 base 9 1 (.slice a3 (n + 1) cap3) (n + 1) (scells ((ks L).take p ++ x :: (ks L).drop p)) := H5.out.2.1.kept hg6 (sl_apart H5.out.2.1 H5.out.2.2.1 (by decide))
    obtain ⟨a6, cap6, rfl, -, -, -⟩ := hs6.form
    have c6 : W6.cell? ⟨g, 1, none⟩ = some (.slice av n cv) := hk6.cell 1
    have f6 := hk6.free 1
    have H6 := Lib.hid (And.intro hs6 (And.intro hk6 (And.intro hv6 (And.intro ((H5.out.2.2.2.1).trans (.of_grown hg6 fun k hk => Or.inl (Or.inr (Or.inr hk)))) ho6))))
    clear hs6 hk6 hv6 hg6 ho6 c3 c31 f3 I
    go_wp2_with fail
    go_ret
    have hch : Chg (Own_ g (.slice ak n ck) (.slice av n cv)) w (W6.setCell ⟨g, 1, none⟩ (.slice a6 (n + 1) cap6)) := H6.out.2.2.2.1.setCell (Or.inl (Or.inl rfl)) _
    have hbk : BlkIs (W6.setCell ⟨g, 1, none⟩ (.slice a6 (n + 1) cap6)) g 65 #[.slice a3 (n + 1) cap3, .slice a6 (n + 1) cap6] := by
      have := H6.out.2.1.put 1 (.slice a6 (n + 1) cap6)
      simpa using this
    have hm : mput x y L = L.take p ++ (x, y) :: L.drop p := by rw [mput_out HX.out, HP.out]
    have hks : ks (mput x y L) = (ks L).take p ++ x :: (ks L).drop p := by rw [hm]; simp [ks, List.map_take, List.map_drop]
    have hvs : vs (mput x y L) = (vs L).take p ++ y :: (vs L).drop p := by rw [hm]; simp [vs, List.map_take, List.map_drop]
    have hml : (mput x y L).length = n + 1 := by
      have h1 : (ks (mput x y L)).length = (ks L).length + 1 := by rw [ks_put HH.out.rise]; exact ins_length HX.out
      rw [ks_len, ks_len] at h1
      rw [h1, HL.out]
    refine ⟨_, _, by rw [has_false HX.out]; rfl, ⟨HH.out.ge, hbk, ?_, ?_, ?_⟩, hch, ?_⟩
    · rw [hml, hks]
      exact H6.out.2.2.1.far (H6.out.2.2.1.ne_blk H6.out.2.1 (by decide)) _
    · rw [hml, hvs]
      exact H6.out.1.far (H6.out.1.ne_blk H6.out.2.1 (by decide)) _
    · rw [ks_put HH.out.rise]; exact ins_rise HH.out.rise
    · rintro k (rfl | hk | hk)
      · exact Or.inl (Or.inl rfl)
      · rcases H3.out.2.2.2.2 with e | e
        · exact Or.inl (Or.inr (Or.inl (by rw [← e]; exact hk)))
        · refine Or.inr ?_
          have h1 := H2.out.2.2.2.2.size
          have e' : some k = some W2.heap.size := hk.symm.trans e
          injection e' with e'
          omega
      · rcases H6.out.2.2.2.2 with e | e
        · exact Or.inl (Or.inr (Or.inr (by rw [← e]; exact hk)))
        · refine Or.inr ?_
          have h1 := H5.out.2.2.2.1.size
          have e' : some k = some W5.heap.size := hk.symm.trans e
          injection e' with e'
          omega
end Go.Proofs.YthcgdpdijdmelaaGreat.Set
