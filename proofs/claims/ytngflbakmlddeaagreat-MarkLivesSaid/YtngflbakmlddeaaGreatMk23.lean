/- slices.Clone at tokens, and mark.Live, walked. (Layer 12.) -/
import Derived.Test.YtngflbakmlddeaaGreatMk22
import Derived.Test.YtngflbakmlddeaaGreatMk11
import Derived.Maps.Own
namespace Go.Proofs.YtngflbakmlddeaaGreat.Mk
set_option linter.unusedVariables false
open Go.RowKit Go.Lib
open Oct (Moved)
set_option maxRecDepth 100000 in
set_option maxHeartbeats 1000000 in
theorem clone_tok (v : Value) (l : List Tok) (w : World) (h : RowAt 3 vTok w v l) (hn : l.length ≤ 1000000) :
    Calls Tryz.prog 71 #[v] w fun e w' => ∃ v', e = .returned v' ∧ SlIs w' w.heap.size 43 3 v' l.length (rowCells vTok l) ∧ Below w.heap.size w w' := by
  obtain ⟨ao, cap, rfl, h1, h2, h3⟩ := h
  have hq := run_eql_slice_nil (P := Tryz.prog) w 23 43 ao l.length cap 0 0 Tryz.underlying23
  cases ao with
  | none =>
    have h0 : l.length = 0 := by
      rcases Nat.eq_zero_or_pos l.length with h | h
      · exact h
      · obtain ⟨b, off, ha, _⟩ := h3 h
        cases ha
    have hl : l = [] := List.eq_nil_of_length_eq_zero h0
    subst hl
    clear h1 h2 h3 h0 hn
    change (binOp .eql 23 (.slice none 0 cap) (.slice none 0 0)).run Tryz.prog w = .ok (.bool true) w at hq
    show Calls Tryz.prog 71 #[.slice none 0 cap] w fun e w' => ∃ v', e = .returned v' ∧ SlIs w' w.heap.size 43 3 v' 0 [] ∧ Below w.heap.size w w'
    go_enter Tryz.func71, Tryz.ntmps71
    go_wp2_with fail
    go_ret
    exact ⟨_, rfl, SlIs.nil_ _ _ _ _, Below.refl _ _⟩
  | some a =>
    obtain ⟨n, hnn⟩ : ∃ n, n = l.length := ⟨_, rfl⟩
    have hsrc : SrcIs Tryz.prog (w.alloc (.cells #[] 43)) 23 3 (.slice (some a) n cap) n (rowCells vTok l) := by
      have hl : (rowCells vTok l).length = n * 3 := by rw [hnn]; exact rowCells_len (enc := vTok) (fun _ => rfl) l
      refine SrcIs.cells Tryz.underlying23 _ 3 a n cap _ hl fun j u hu => ?_
      have hj : j < l.length * 3 := by rw [← hnn, ← hl]; exact (List.getElem?_eq_some_iff.1 hu).1
      obtain ⟨b, off, ha, hlt, hc⟩ := h3 (by omega)
      injection ha with ha
      subst ha
      have hg := rowCells_get (k := 3) (enc := vTok) (fun _ => rfl) l (j / 3) (by omega) (j % 3) (by omega)
      rw [show j / 3 * 3 + j % 3 = j by omega] at hg
      rw [hg] at hu
      have := hc (j / 3) (by omega) (j % 3) u hu
      rw [show off + j / 3 * 3 + j % 3 = off + j by omega] at this
      have h5 := cell?_alloc_some (.cells #[] 43) this
      have hadd : (Addr.mk b off none).add j = ⟨b, off + j, none⟩ := by
        unfold Addr.add
        split
        · next h0 => subst h0; rfl
        · rfl
      rw [hadd]
      exact h5
    have hone : ∀ u ∈ rowCells vTok l, u.oneCell' = true := by
      intro u hu
      obtain ⟨x, -, hx⟩ := List.mem_flatMap.1 hu
      simp only [vTok, List.mem_cons, List.not_mem_nil, or_false] at hx
      rcases hx with rfl | rfl | rfl <;> rfl
    have HS := Lib.hid hsrc
    have HO := Lib.hid hone
    rw [← hnn] at hn hq ⊢
    change (binOp .eql 23 (.slice (some a) n cap) (.slice none 0 0)).run Tryz.prog w = .ok (.bool false) w at hq
    clear hsrc hone h1 h2 h3 hnn
    go_enter Tryz.func71, Tryz.ntmps71
    go_wp2_with (refine wpList_append_sl rfl _ _ _ 23 (by rfl) el_tok (base := w.heap.size) (.slice (some ⟨w.heap.size, 0, none⟩) 0 0) 0 [] (by rfl) (SlIs.made (cs := #[]) (BlkIs.new _ _ _) (Nat.le_refl _) rfl (by decide)) _ n (rowCells vTok l) (by rfl) HS.out HO.out (by unfold maxLen; omega) (by omega) (by simp) ?_)
    intro v5 w5 hs5 hg5 hat5
    have hb5 : Below w.heap.size w w5 := ((Below.refl _ _).alloc (Nat.le_refl _) _).grown hg5 (by simp) (fun k hk => Nat.le_of_eq (by simpa [Value.ownBlock] using hk))
    have H5 := Lib.hid (And.intro hs5 hb5)
    obtain ⟨ao5, c5, rfl, -, -, -⟩ := hs5.form
    clear hs5 hg5 hat5 hb5
    go_wp2_with fail
    go_ret
    exact ⟨_, rfl, H5.out⟩
/-- Whether a sure tomb covers a token. -/
noncomputable def covB (ts : List Tb) (n : Int) (x : Tok) : Bool := ts.any fun t => sureB t n && t.cov.any fun y => eqB x y
/-- The tokens that no sure tomb covers. -/
noncomputable def liveL (m : Mks) (n : Int) : List Tok := m.toks.filter fun x => !covB m.tombs n x
theorem covB_snoc (ts : List Tb) (t : Tb) (n : Int) (x : Tok) : covB (ts ++ [t]) n x = (covB ts n x || (sureB t n && t.cov.any fun y => eqB x y)) := by
  unfold covB
  rw [List.any_append, List.any_cons, List.any_nil, Bool.or_false]
theorem TokMap.congr {w : World} {b : Nat} {f g : Tok → Bool} (h : TokMap w b f) (hfg : ∀ x, f x = g x) : TokMap w b g := by
  obtain ⟨es, c, D, h1, h2, h3⟩ := h
  exact ⟨es, c, D, h1, h2, fun x => (h3 x).trans (hfg x)⟩
theorem TokMap.fresh (w : World) : TokMap (w.alloc (.map #[] 0)) w.heap.size (fun _ => false) := ⟨#[], 0, [], heap_alloc_new w _, rfl, fun _ => rfl⟩
/-- What the map says within a tomb. -/
noncomputable def midF (ts : List Tb) (t : Tb) (n : Int) (j : Nat) (x : Tok) : Bool := covB ts n x || (sureB t n && (t.cov.take j).any fun y => eqB x y)
theorem midF_zero (ts : List Tb) (t : Tb) (n : Int) (x : Tok) : covB ts n x = midF ts t n 0 x := by
  unfold midF
  simp
theorem midF_step (ts : List Tb) (t : Tb) (n : Int) (j : Nat) (y : Tok) (hy : t.cov[j]? = some y) (x : Tok) : (if eqB x y = true then (midF ts t n j y || sureB t n) else midF ts t n j x) = midF ts t n (j + 1) x := by
  unfold midF
  rw [List.take_add_one, hy, List.any_append]
  by_cases h : x = y
  · subst h
    rw [if_pos (eqB_self x)]
    simp only [Option.toList_some, List.any_cons, List.any_nil, eqB_self, Bool.or_true, Bool.true_or, Bool.and_true]
    cases covB ts n x <;> cases sureB t n <;> simp
  · rw [if_neg (by rw [eqB_no h]; decide)]
    simp only [Option.toList_some, List.any_cons, List.any_nil, eqB_no h, Bool.or_false]
theorem midF_end (ts : List Tb) (t : Tb) (n : Int) (x : Tok) : midF ts t n t.cov.length x = covB (ts ++ [t]) n x := by
  rw [covB_snoc]
  unfold midF
  rw [List.take_length]
end Go.Proofs.YtngflbakmlddeaaGreat.Mk
