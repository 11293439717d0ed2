/- Rows of things sorted by slices.SortFunc; refs, tokens and tombs by the shelf's contract. (Layer 13.) -/
import Derived.Test.YtbmknmjcoeinkaaGreatMgA
import Derived.Test.YtbmknmjcoeinkaaGreatSort
namespace Go.Proofs.YtbmknmjcoeinkaaGreat.Mg
set_option linter.unusedVariables false
open Go.RowKit Go.Sort Go.Lib
open Mk (Rf Tok Tb TbR aTb vRf vTok vTb)
open Set (El)
theorem holds_row {α : Type} [Inhabited α] {enc : α → List Value} {k : Nat} (hk : ∀ x, (enc x).length = k) {w : World} {base : Nat} {e : TypeId} {v : Value} {l : List α} (h : SlIs w base e k v l.length (rowCells enc l)) (hn : 0 < l.length) :
    ∃ g off cap, v = .slice (some ⟨g, off, none⟩) l.length cap ∧ base ≤ g ∧ g < w.heap.size ∧ l.length ≤ cap ∧ cap ≤ maxLen ∧ HoldsK enc k w g off l.toArray := by
  obtain ⟨g, off, cap, hv, hg, hlt, hc, hm, hcell, hfr⟩ := h.at_ hn
  have hl := rowCells_len hk l
  refine ⟨g, off, cap, hv, hg, hlt, hc, hm, fun j hj => ?_⟩
  have hj' : j < l.length * k := by simpa [size_flatK] using hj
  have hk0 : 0 < k := Nat.pos_of_ne_zero (by rintro rfl; simp at hj')
  have hd : j / k < l.length := Nat.div_lt_of_lt_mul (by rw [Nat.mul_comm]; exact hj')
  have hm2 : j % k < k := Nat.mod_lt _ hk0
  refine ⟨?_, hfr j (by rw [hl]; exact hj')⟩
  rw [hcell j (by rw [hl]; exact hj'), get_flatK _ _ _ _ (by simpa using hj')]
  have hget : l.toArray[j / k]! = l[j / k] := by simp [hd]
  rw [hget]
  have h3 := rowCells_get hk l (j / k) hd (j % k) hm2
  rw [show j / k * k + j % k = j by rw [Nat.mul_comm]; exact Nat.div_add_mod j k] at h3
  rw [h3, List.getElem?_eq_getElem (by rw [hk]; exact hm2), getElem!_pos (enc l[j / k]) (j % k) (by rw [hk]; exact hm2)]
  rfl
/-- Behind the sort the row can be read and written. -/
theorem row_sorted {α : Type} [Inhabited α] {enc : α → List Value} {k : Nat} (hk : ∀ x, (enc x).length = k) {w : World} {base g off q cap : Nat} {e : TypeId} {l : List α} {d' : Array α} {os : Array Obj} (hS : SlIs w base e k (.slice (some ⟨g, off, none⟩) l.length cap) l.length (rowCells enc l)) (hH : HoldsK enc k w g off l.toArray) (hg : base ≤ g) (hlt : g < w.heap.size) (hb : base ≤ w.heap.size) (hc : l.length ≤ cap) (hm : cap ≤ maxLen) (hperm : PermIn 0 l.length l.toArray d') :
    d'.toList.Perm l ∧ SlIs (sortWorldK enc k w g off q d' os) base e k (.slice (some ⟨g, off, none⟩) l.length cap) d'.toList.length (rowCells enc d'.toList) ∧ w.grownBy (sortWorldK enc k w g off q d' os) (some g) := by
  obtain ⟨hs, _, hp⟩ := hperm
  have hs' : d'.size = l.length := by simpa using hs
  have hp' : d'.toList.Perm l := by
    have e1 : d'.extract 0 l.length = d' := by rw [← hs']; simp
    have e2 : l.toArray.extract 0 l.length = l.toArray := by simp
    rw [e1, e2] at hp
    simpa using hp
  have hH' : HoldsK enc k (sortWorldK enc k w g off q d' os) g off d' := by
    have hpw : HoldsK enc k (putRowK enc k (Sort.ahead w q) g off d') g off d' := holdsK_putRowK enc k _ g off l.toArray d' (holdsK_ahead enc k w q g off _ hH) (by simpa using hs')
    exact holdsK_grow enc k _ os g off _ (by unfold putRowK putRow mapBlock; simpa [Sort.ahead] using hlt) hpw
  have hbl : w.grownBy (sortWorldK enc k w g off q d' os) (some g) := by
    refine ⟨rfl, rfl, rfl, ?_, fun n hk' hne => ?_⟩
    · show _ ≤ (grow (putRowK enc k (Sort.ahead w q) g off d') os).heap.size
      unfold putRowK putRow mapBlock
      simp [grow, Sort.ahead]
    · have hne : g ≠ n := fun e => hne (by rw [e])
      show ((w.heap.modify g (onCells (putCells id off (flatK enc k d')))) ++ os)[n]? = _
      rw [Array.getElem?_append_left (by simpa using hk'), Array.getElem?_modify, if_neg hne]
  have hll : d'.toList.length = l.length := by simpa using hs'
  refine ⟨hp', ⟨by rw [rowCells_len hk], ?_⟩, hbl⟩
  rcases hS.2 with ⟨hv, _⟩ | ⟨g', off', cap', cur, hv, _, ⟨fr, hr1, hr2⟩, _, _, hfit, hx⟩
  · cases hv
  · injection hv with e1 e2 e3
    injection e1 with e1
    injection e1 with e1 e4
    subst e1 e3 e4
    have hobj : (sortWorldK enc k w g off q d' os).heap[g]? = some (onCells (putCells id off (flatK enc k d')) (.cells cur e fr)) := by
      show ((w.heap.modify g (onCells (putCells id off (flatK enc k d')))) ++ os)[g]? = _
      rw [Array.getElem?_append_left (by simpa using hlt), Array.getElem?_modify, if_pos rfl, hr1]
      rfl
    have hsz : (putCells id off (flatK enc k d') cur).size = cur.size := by simp [putCells]
    refine .inr ⟨g, off, cap, putCells id off (flatK enc k d') cur, by rw [hll], hg, ⟨fr, hobj, fun i hi => hr2 i (by rw [← hsz]; exact hi)⟩, by rw [hll]; exact hc, hm, by rw [hsz]; exact hfit, fun j hj => ?_⟩
    rw [rowCells_len hk] at hj
    have hk0 : 0 < k := Nat.pos_of_ne_zero (by rintro rfl; simp at hj)
    have hd : j / k < d'.toList.length := Nat.div_lt_of_lt_mul (by rw [Nat.mul_comm]; exact hj)
    have hm2 : j % k < k := Nat.mod_lt _ hk0
    have hj2 : j / k * k + j % k = j := by rw [Nat.mul_comm]; exact Nat.div_add_mod j k
    have hi' : j / k < d'.size := by simpa using hd
    have c0 := (hH'.cell (i := j / k) (c := j % k) hi' hm2).1
    have hget : d'[j / k]! = d'.toList[j / k] := by rw [getElem!_pos d' (j / k) hi']; simp
    rw [hget, getElem!_pos (enc d'.toList[j / k]) (j % k) (by rw [hk]; exact hm2)] at c0
    have g1 := rowCells_get hk d'.toList (j / k) hd (j % k) hm2
    rw [hj2] at g1
    rw [g1, List.getElem?_eq_getElem (by rw [hk]; exact hm2), ← c0]
    have c1 : (sortWorldK enc k w g off q d' os).cell? ⟨g, off + j / k * k + j % k, none⟩ = (putCells id off (flatK enc k d') cur)[off + j / k * k + j % k]? := by
      simp only [World.cell?, hobj]
      rfl
    rw [c1]
    congr 1
    omega
/-- None below one ahead of it, each another one: rising. -/
theorem sorted_rk {α κ : Type} [El κ] [Inhabited α] (key : α → κ) {cf : α → α → Int} (hcf : ∀ x y, cf x y < 0 ↔ El.lt (key x) (key y)) {l : List α} (hu : Ik key l) {d' : Array α} (hp : d'.toList.Perm l) (hsort : SortedIn (ltOf cf) 0 l.length d') : Rk key d'.toList := by
  have hll := hp.length_eq
  have hnd : (l.map key).Nodup := by
    rw [List.nodup_iff_pairwise_ne, List.pairwise_iff_getElem]
    intro i j hi hj hij e
    rw [List.getElem_map, List.getElem_map] at e
    have := hu i j (by simpa using hi) (by simpa using hj) e
    omega
  have hnd' : (d'.toList.map key).Nodup := (hp.map key).nodup_iff.2 hnd
  refine List.pairwise_iff_getElem.2 fun i j hi hj hij => ?_
  have h1 := hsort i j (Nat.zero_le _) hij (by omega)
  have hi' : i < d'.size := by simpa using hi
  have hj' : j < d'.size := by simpa using hj
  rw [getElem!_pos d' i hi', getElem!_pos d' j hj'] at h1
  unfold ltOf at h1
  have h2 : ¬ cf d'[j] d'[i] < 0 := by simpa using h1
  rw [hcf] at h2
  have h3 : key d'.toList[i] ≠ key d'.toList[j] := by
    rw [List.nodup_iff_pairwise_ne, List.pairwise_iff_getElem] at hnd'
    have := hnd' i j (by simpa using hi') (by simpa using hj') hij
    rwa [List.getElem_map, List.getElem_map] at this
  rcases El.tri (key d'.toList[i]) (key d'.toList[j]) with h | h | h
  · exact h
  · exact absurd h h3
  · refine absurd ?_ h2
    simpa using h
theorem swo_of {α κ : Type} [El κ] (key : α → κ) {cf : α → α → Int} (hcf : ∀ x y, cf x y < 0 ↔ El.lt (key x) (key y)) : SWO (ltOf cf) where
  irrefl x := by
    unfold ltOf
    rw [decide_eq_false_iff_not, hcf]
    exact El.irr _
  trans x y z h1 h2 := by
    unfold ltOf at *
    rw [decide_eq_true_iff, hcf] at *
    exact El.tr h1 h2
  ntrans x y z h1 h2 := by
    unfold ltOf at *
    rw [decide_eq_false_iff_not, hcf] at *
    intro h3
    rcases El.tri (key x) (key y) with h | h | h
    · exact h1 h
    · rw [h] at h3; exact h2 h3
    · exact h2 (El.tr h h3)
/-- What a sort by keys comes to. -/
def SortsAs {α κ : Type} [El κ] (key : α → κ) (enc : α → List Value) (k : Nat) (e : TypeId) (f g : FuncId) : Prop :=
  ∀ (base : Nat) (v : Value) (l : List α) (w : World), SlIs w base e k v l.length (rowCells enc l) → base ≤ w.heap.size → l.length < 4611686018427387904 → Ik key l →
    Calls Tryz.prog f #[v, .func (.func g) #[] #[]] w fun e' w' => e' = .returned (.tuple #[]) ∧ (∃ L : List α, L.Perm l ∧ Rk key L ∧ RowAt k enc w' v L) ∧ Below base w w'
/-- The same, with what can be written. -/
def SortsOwn {α κ : Type} [El κ] (key : α → κ) (enc : α → List Value) (k : Nat) (e : TypeId) (f g : FuncId) : Prop :=
  ∀ (base : Nat) (v : Value) (l : List α) (w : World), SlIs w base e k v l.length (rowCells enc l) → base ≤ w.heap.size → l.length < 4611686018427387904 → Ik key l →
    Calls Tryz.prog f #[v, .func (.func g) #[] #[]] w fun e' w' => e' = .returned (.tuple #[]) ∧ (∃ L : List α, L.Perm l ∧ Rk key L ∧ SlIs w' base e k v L.length (rowCells enc L)) ∧ w.grownBy w' v.ownBlock
theorem grown_below {w w' : World} {base : Nat} {e : TypeId} {k n : Nat} {v : Value} {xs : List Value} (h : w.grownBy w' v.ownBlock) (hs : SlIs w base e k v n xs) (hb : base ≤ w.heap.size) : Below base w w' :=
  (Below.refl _ _).grown h hb fun i hi => (hs.lt i hi).1
theorem SortsOwn.weak {α κ : Type} [El κ] {key : α → κ} {enc : α → List Value} {k : Nat} (hk : ∀ x, (enc x).length = k) {e : TypeId} {f g : FuncId} (h : SortsOwn key enc k e f g) : SortsAs key enc k e f g := by
  intro base v l w hs hb hn hu
  refine (h base v l w hs hb hn hu).mono ?_
  rintro e' w' ⟨rfl, ⟨L, h1, h2, h3⟩, h4⟩
  exact ⟨rfl, ⟨L, h1, h2, RowAt.of_sl hk h3⟩, grown_below h4 hs hb⟩
theorem sort_of {α κ : Type} [El κ] [Inhabited α] (key : α → κ) (enc : α → List Value) (k : Nat) (hk : ∀ x, (enc x).length = k) {cf : α → α → Int} (hcf : ∀ x y, cf x y < 0 ↔ El.lt (key x) (key y)) (e : TypeId) (f g : FuncId)
    (hS : ∀ blk off cap (d : Array α) w, HoldsK enc k w blk off d → blk < w.heap.size → d.size < 4611686018427387904 → Calls Tryz.prog f #[.slice (some ⟨blk, off, none⟩) d.size cap, .func (.func g) #[] #[]] w fun e w' => e = .returned (.tuple #[]) ∧ ∃ d' n os, PermIn 0 d.size d d' ∧ SortedIn (ltOf cf) 0 d.size d' ∧ w' = sortWorldK enc k w blk off n d' os)
    (h0 : ∀ p cap fv w, Calls Tryz.prog f #[.slice p 0 cap, fv] w fun e w' => e = .returned (.tuple #[]) ∧ w' = w) : SortsOwn key enc k e f g := by
  intro base v l w h hb hn hu
  rcases Nat.eq_zero_or_pos l.length with hz | hp
  · obtain ⟨ao, cap, rfl, hc, hm, _⟩ := h.form
    have hl : l = [] := List.length_eq_zero_iff.1 hz
    subst hl
    refine (h0 ao cap _ w).mono ?_
    rintro e' w' ⟨rfl, rfl⟩
    exact ⟨rfl, ⟨[], List.Perm.refl _, List.Pairwise.nil, h⟩, World.grownBy.refl _ _⟩
  · obtain ⟨g', off, cap, rfl, hg, hlt, hc, hm, hH⟩ := holds_row hk h hp
    have S := hS g' off cap l.toArray w hH hlt (by simpa using hn)
    rw [show l.toArray.size = l.length by simp] at S
    refine S.mono ?_
    rintro e' w' ⟨rfl, d', q, os, hperm, hsort, rfl⟩
    obtain ⟨h1, h2, h3⟩ := row_sorted (q := q) (os := os) hk h hH hg hlt hb hc hm hperm
    exact ⟨rfl, ⟨d'.toList, h1, sorted_rk key hcf hu h1 hsort, h2⟩, h3⟩
theorem sort_rf : SortsAs kRf vRf 3 49 103 62 :=
  SortsOwn.weak (enc := vRf) (k := 3) (fun _ => rfl) <| sort_of kRf vRf 3 (fun _ => rfl) cN_neg _ _ _ (fun blk off cap d w hH hlt hn =>
    AnyQ.slices_SortFunc Tryz.sortRf 3 Tryz.isAgg49 Tryz.sizeOf49 vRf (fun _ => rfl) (fun x v hv => by simp [vRf] at hv; rcases hv with rfl | rfl | rfl <;> rfl) cN (swo_of kRf cN_neg) 62 #[] blk off cap d w
      (enters_of Tryz.func62 (by kernel_rfl) rfl) (fun _ _ _ _ x y => refs2_any x y _) hH hlt hn)
    (AnyF.slices_SortFunc_none Tryz.sortRf)
theorem sort_tok : SortsAs kTok vTok 3 45 105 67 :=
  SortsOwn.weak (enc := vTok) (k := 3) (fun _ => rfl) <| sort_of kTok vTok 3 (fun _ => rfl) cT_neg _ _ _ (fun blk off cap d w hH hlt hn =>
    AnyQ.slices_SortFunc Tryz.sortTok 3 Tryz.isAgg45 Tryz.sizeOf45 vTok (fun _ => rfl) (fun x v hv => by simp [vTok] at hv; rcases hv with rfl | rfl | rfl <;> rfl) cT (swo_of kTok cT_neg) 67 #[] blk off cap d w
      (enters_of Tryz.func67 (by kernel_rfl) rfl) (fun _ _ _ _ x y => tokens1_any x y _) hH hlt hn)
    (AnyF.slices_SortFunc_none Tryz.sortTok)
/-- Tombs whose two slices are slices. -/
abbrev TbO := { z : TbR // z.cv.oneCell' = true ∧ z.av.oneCell' = true }
instance : Inhabited TbO := ⟨⟨⟨⟨0, 0, ⟨#[]⟩, [], []⟩, .slice none 0 0, .slice none 0 0⟩, rfl, rfl⟩⟩
theorem rowCells_map {α β : Type} (f : α → β) (enc : β → List Value) (l : List α) : rowCells enc (l.map f) = rowCells (fun x => enc (f x)) l := by
  unfold rowCells
  rw [List.flatMap_map]
theorem sort_tb (base : Nat) (v : Value) (l : List TbR) (w : World) (h : SlIs w base 43 5 v l.length (rowCells vTb l)) (hb : base ≤ w.heap.size) (hn : l.length < 4611686018427387904) (hu : Ik (fun z : TbR => kTb z.t) l) (ho : ∀ z ∈ l, z.cv.oneCell' = true ∧ z.av.oneCell' = true) :
    Calls Tryz.prog 107 #[v, .func (.func 71) #[] #[]] w fun e' w' => e' = .returned (.tuple #[]) ∧ (∃ L : List TbR, L.Perm l ∧ Rk (fun z : TbR => kTb z.t) L ∧ SlIs w' base 43 5 v L.length (rowCells vTb L)) ∧ w.grownBy w' v.ownBlock := by
  have S : SortsOwn (fun z : TbO => kTb z.1.t) (fun z : TbO => vTb z.1) 5 43 107 71 :=
    sort_of (fun z : TbO => kTb z.1.t) (fun z : TbO => vTb z.1) 5 (fun _ => rfl) (cf := fun x y => cB x.1 y.1) (fun x y => cB_neg _ _) _ _ _ (fun blk off cap d w hH hlt hn =>
      AnyQ.slices_SortFunc Tryz.sortTb 5 Tryz.isAgg43 Tryz.sizeOf43 (fun z : TbO => vTb z.1) (fun _ => rfl) (fun x v hv => by simp [vTb] at hv; rcases hv with rfl | rfl | rfl | rfl | rfl; rfl; rfl; rfl; exact x.2.1; exact x.2.2) (fun x y => cB x.1 y.1) (swo_of (fun z : TbO => kTb z.1.t) fun x y => cB_neg _ _) 71 #[] blk off cap d w
        (enters_of Tryz.func71 (by kernel_rfl) rfl) (fun _ _ _ _ x y => tombs1_any x.1 y.1 _) hH hlt hn)
      (AnyF.slices_SortFunc_none Tryz.sortTb)
  obtain ⟨l', hl'⟩ : ∃ l' : List TbO, l'.map (·.1) = l := ⟨l.attachWith _ ho, by simp⟩
  have hlen : l'.length = l.length := by rw [← hl', List.length_map]
  have h' : SlIs w base 43 5 v l'.length (rowCells (fun z : TbO => vTb z.1) l') := by
    rw [hlen, ← rowCells_map (·.1) vTb l', hl']
    exact h
  refine (S base v l' w h' hb (by omega) (fun i j hi hj e => ?_)).mono ?_
  · subst hl'
    exact hu i j (by simpa using hi) (by simpa using hj) (by simpa using e)
  · rintro e w' ⟨rfl, ⟨L, h1, h2, h3⟩, h4⟩
    refine ⟨rfl, ⟨L.map (·.1), ?_, ?_, ?_⟩, h4⟩
    · rw [← hl']
      exact h1.map _
    · exact List.pairwise_map.2 h2
    · rw [List.length_map, rowCells_map (·.1) vTb L]
      exact h3
end Go.Proofs.YtbmknmjcoeinkaaGreat.Mg
