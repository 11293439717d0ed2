/- Tombs in a slice of the call's own, with all that they hold; where joined at tombs stands. (Layer 13.) -/
import Derived.Test.YtbmknmjcoeinkaaGreatMg5
import Derived.Test.YtbmknmjcoeinkaaGreatMgB
import Derived.Test.YtbmknmjcoeinkaaGreatMgPl
import Derived.Test.YtbmknmjcoeinkaaGreatMgC
namespace Go.Proofs.YtbmknmjcoeinkaaGreat.Mg
set_option linter.unusedVariables false
open Go.RowKit Go.Lib
open Mk (Rf Tok Tb TbR aTb vRf vTok vTb vInt TombsAt)
open Oct (Moved)
open Set (El)
open Classical
section
variable {α κ : Type} [El κ] {key : α → κ} {mt : α → α → Option α}
/-- What stands at a key that comes now is still the first one's. -/
theorem JnAt.same {a b o : List α} {i j : Nat} (ha : Rk key a) (hb : Rk key b) (h : JnAt key mt a b j o) (hj : j < b.length) (hi : i < a.length) (he : key a[i] = key b[j]) (hio : i < o.length) : o[i] = a[i] := by
  have hoe : key o[i] = key b[j] := (h.at_ i hi hio).trans he
  have hou : gk key o (key b[j]) = some o[i] := by rw [← hoe]; exact gk_mem (ik_uk h.ik) (List.getElem_mem hio)
  have h5 := h.is (key b[j])
  rw [gk_take_next hb hj, hou, ← he, gk_mem (rk_uk ha) (List.getElem_mem hi)] at h5
  exact (Option.some.inj (Option.some.inj h5)).symm
end
theorem sl_apart {w : World} {base base' k k' n n' : Nat} {e e' : TypeId} {v v' : Value} {xs xs' : List Value} (h : SlIs w base e k v n xs) (h' : SlIs w base' e' k' v' n' xs') (hne : e ≠ e') : v.ownBlock = none ∨ v.ownBlock ≠ v'.ownBlock := by
  rcases h.2 with ⟨rfl, _⟩ | ⟨g, off, cap, cur, rfl, _, hh, _⟩
  · exact .inl rfl
  · right
    rcases h'.2 with ⟨rfl, _⟩ | ⟨g', off', cap', cur', rfl, _, hh', _⟩
    · simp [Value.ownBlock]
    · intro hg
      have : g = g' := by simpa [Value.ownBlock] using hg
      subst this
      obtain ⟨fr, hh, _⟩ := hh
      obtain ⟨fr', hh', _⟩ := hh'
      rw [hh] at hh'
      injection hh' with hh'
      injection hh' with _ ht
      exact hne ht
/-- What a tomb holds can be read: it was there before, or is new. -/
structure Kept (w W : World) (z : TbR) : Prop where
  cv : RowAt 3 vTok w z.cv z.t.cov ∨ SlIs W (w.heap.size + 1) 45 3 z.cv z.t.cov.length (rowCells vTok z.t.cov)
  av : RowAt 1 vInt w z.av z.t.acks ∨ SlIs W (w.heap.size + 1) 3 1 z.av z.t.acks.length (rowCells vInt z.t.acks)
theorem Kept.old {w W : World} {z : TbR} (h : z.Reads w) : Kept w W z := ⟨.inl h.1, .inl h.2⟩
theorem Kept.reads {w W : World} {z : TbR} (h : Kept w W z) (hb : Below w.heap.size w W) : z.Reads W :=
  ⟨h.cv.elim (fun h => h.later hb) (fun h => RowAt.of_sl (fun _ => rfl) h), h.av.elim (fun h => h.later hb) (fun h => RowAt.of_sl (fun _ => rfl) h)⟩
theorem Kept.later {w W W' : World} {z : TbR} (h : Kept w W z) (hb : Below W.heap.size W W') : Kept w W' z :=
  ⟨h.cv.imp id (fun h => h.later hb), h.av.imp id (fun h => h.later hb)⟩
theorem Kept.grown {w W W' : World} {z : TbR} {v : Value} {base k n : Nat} {xs : List Value} (h : Kept w W z) (hs : SlIs W base 43 k v n xs) (hg : W.grownBy W' v.ownBlock) : Kept w W' z :=
  ⟨h.cv.imp id (fun h => h.kept hg (sl_apart h hs (by decide))), h.av.imp id (fun h => h.kept hg (sl_apart h hs (by decide)))⟩
theorem Kept.moved {w W W' : World} {z : TbR} (h : Kept w W z) (hm : Moved w.heap.size W W') : Kept w W' z :=
  ⟨h.cv.imp id (fun h => hm.sl h (Nat.lt_succ_self _)), h.av.imp id (fun h => hm.sl h (Nat.lt_succ_self _))⟩
theorem row_one {w : World} {k : Nat} {α : Type} {enc : α → List Value} {v : Value} {l : List α} (h : RowAt k enc w v l) : v.oneCell' = true := by
  obtain ⟨ao, cap, rfl, _⟩ := h
  rfl
theorem sl_one {w : World} {base k n : Nat} {e : TypeId} {v : Value} {xs : List Value} (h : SlIs w base e k v n xs) : v.oneCell' = true := by
  obtain ⟨ao, cap, rfl, _⟩ := h.form
  rfl
theorem Kept.one {w W : World} {z : TbR} (h : Kept w W z) : z.cv.oneCell' = true ∧ z.av.oneCell' = true :=
  ⟨h.cv.elim row_one sl_one, h.av.elim row_one sl_one⟩
/-- Where joined stands at tombs. -/
structure JStB {κ : Type} (kv : κ → Value) (w : World) (f : κ → Option Int) (v : Value) (o : List TbR) (wr : World) : Prop where
  st : JSt kv vTb 5 43 w f v o wr
  kept : ∀ z ∈ o, Kept w wr z
section
variable {κ : Type} {kv : κ → Value} {w wr w' : World} {f g : κ → Option Int} {v v' : Value} {o o' : List TbR}
theorem JStB.below (h : JStB kv w f v o wr) : Below w.heap.size w wr := h.st.below
theorem JStB.lt (h : JStB kv w f v o wr) : w.heap.size < wr.heap.size := h.st.lt
theorem JStB.map (h : JStB kv w f v o wr) : KMap kv wr w.heap.size f := h.st.map
theorem JStB.sl (h : JStB kv w f v o wr) : SlIs wr (w.heap.size + 1) 43 5 v o.length (rowCells vTb o) := h.st.sl
theorem JStB.later (h : JStB kv w f v o wr) (hb : Below wr.heap.size wr w') : JStB kv w f v o w' := ⟨h.st.later hb, fun z hz => (h.kept z hz).later hb⟩
theorem JStB.update (h : JStB kv w f v o wr) (ob : Obj) (hm : KMap kv { wr with heap := wr.heap.setIfInBounds w.heap.size ob } w.heap.size g) : JStB kv w g v o { wr with heap := wr.heap.setIfInBounds w.heap.size ob } :=
  ⟨h.st.update ob hm, fun z hz => (h.kept z hz).moved (moved_map _ _ _)⟩
theorem JStB.congr (h : JStB kv w f v o wr) (hfg : ∀ x, f x = g x) : JStB kv w g v o wr := ⟨h.st.congr hfg, h.kept⟩
theorem JStB.grown (h : JStB kv w f v o wr) (hg : wr.grownBy w' v.ownBlock) (hs : SlIs w' (w.heap.size + 1) 43 5 v' o'.length (rowCells vTb o')) (hk : ∀ z ∈ o', z ∈ o ∨ Kept w wr z) : JStB kv w f v' o' w' :=
  ⟨h.st.grown hg hs, fun z hz => ((hk z hz).elim (h.kept z) id).grown h.sl hg⟩
theorem JStB.setRow {b off n cap : Nat} (h : JStB kv w f (.slice (some ⟨b, off, none⟩) n cap) o wr) (hn : n = o.length) (i : Nat) (hi : i < o.length) (z : TbR) (hz : Kept w wr z) :
    JStB kv w f (.slice (some ⟨b, off, none⟩) n cap) (o.set i z) (wr.setCells b (off + i * 5) (vTb z)) :=
  ⟨JSt.setRow (k := 5) (fun _ => rfl) (by decide) h.st hn i hi z, fun u hu => ((List.mem_or_eq_of_mem_set hu).elim (h.kept u) (fun e => by rw [e]; exact hz)).grown h.sl (setCells_grown' _ _ _)⟩
end
end Go.Proofs.YtbmknmjcoeinkaaGreat.Mg
