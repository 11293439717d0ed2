/- slices.Clone at refs, tokens and tombs, walked. (Layer 13.) -/
import Derived.Test.YtbmknmjcoeinkaaGreatMgA
import Derived.Test.YtbmknmjcoeinkaaGreatSlOps
import Derived.Lib.SliceRun
namespace Go.Proofs.YtbmknmjcoeinkaaGreat.Mg
set_option linter.unusedVariables false
open Go.RowKit Go.Lib
open Mk (Rf Tok Tb TbR aTb vRf vTok vTb)
theorem el_rf : ElemOk Tryz.prog 22 49 3 40 := ElemOk.mk' (z := .agg #[.string ⟨#[]⟩, .string ⟨#[]⟩, .int .i64 0]) Tryz.underlying22 (by kernel_rfl) rfl
theorem el_tok : ElemOk Tryz.prog 23 45 3 32 := ElemOk.mk' (z := .agg #[.int .i64 0, .int .i64 0, .string ⟨#[]⟩]) Tryz.underlying23 (by kernel_rfl) rfl
theorem el_tb : ElemOk Tryz.prog 24 43 5 80 := ElemOk.mk' (z := .agg #[.int .i64 0, .int .i64 0, .string ⟨#[]⟩, .slice none 0 0, .slice none 0 0]) Tryz.underlying24 (by kernel_rfl) rfl
set_option maxRecDepth 100000 in
set_option maxHeartbeats 1000000 in
theorem clone_rf (v : Value) (l : List Rf) (w : World) (h : RowAt 3 vRf w v l) (hn : l.length ≤ 1000000) :
    Calls Tryz.prog 43 #[v] w fun e w' => ∃ v', e = .returned v' ∧ SlIs w' w.heap.size 49 3 v' l.length (rowCells vRf l) ∧ Below w.heap.size w w' := by
  obtain ⟨ao, cap, rfl, h1, h2, h3⟩ := h
  have hq := Go.Lib.run_eql_slice_nil (P := Tryz.prog) w 22 49 ao l.length cap 0 0 Tryz.underlying22
  cases ao with
  | none =>
    have h0 : l.length = 0 := by
      rcases Nat.eq_zero_or_pos l.length with h | h
      · exact h
      · obtain ⟨b, off, ha, _⟩ := h3 h
        cases ha
    have hl : l = [] := List.eq_nil_of_length_eq_zero h0
    subst hl
    clear h1 h2 h3 h0 hn
    change (binOp .eql 22 (.slice none 0 cap) (.slice none 0 0)).run Tryz.prog w = .ok (.bool true) w at hq
    show Calls Tryz.prog 43 #[.slice none 0 cap] w fun e w' => ∃ v', e = .returned v' ∧ SlIs w' w.heap.size 49 3 v' 0 [] ∧ Below w.heap.size w w'
    go_enter Tryz.func43, Tryz.ntmps43
    go_wp2_with fail
    go_ret
    exact ⟨_, rfl, SlIs.nil_ _ _ _ _, Below.refl _ _⟩
  | some a =>
    obtain ⟨n, hnn⟩ : ∃ n, n = l.length := ⟨_, rfl⟩
    have hsrc : SrcIs Tryz.prog (w.alloc (.cells #[] 49)) 22 3 (.slice (some a) n cap) n (rowCells vRf l) := by
      have hl : (rowCells vRf l).length = n * 3 := by rw [hnn]; exact rowCells_len (enc := vRf) (fun _ => rfl) l
      refine SrcIs.cells Tryz.underlying22 _ 3 a n cap _ hl fun j u hu => ?_
      have hj : j < l.length * 3 := by rw [← hnn, ← hl]; exact (List.getElem?_eq_some_iff.1 hu).1
      obtain ⟨b, off, ha, hlt, hc⟩ := h3 (by omega)
      injection ha with ha
      subst ha
      have hg := rowCells_get (k := 3) (enc := vRf) (fun _ => rfl) l (j / 3) (by omega) (j % 3) (by omega)
      rw [show j / 3 * 3 + j % 3 = j by omega] at hg
      rw [hg] at hu
      have := hc (j / 3) (by omega) (j % 3) u hu
      rw [show off + j / 3 * 3 + j % 3 = off + j by omega] at this
      have h5 := cell?_alloc_some (.cells #[] 49) this
      have hadd : (Addr.mk b off none).add j = ⟨b, off + j, none⟩ := by
        unfold Addr.add
        split
        · next h0 => subst h0; rfl
        · rfl
      rw [hadd]
      exact h5
    have hone : ∀ u ∈ rowCells vRf l, u.oneCell' = true := by
      intro u hu
      obtain ⟨x, -, hx⟩ := List.mem_flatMap.1 hu
      simp only [vRf, List.mem_cons, List.not_mem_nil, or_false] at hx
      rcases hx with rfl | rfl | rfl <;> rfl
    have HS := Lib.hid hsrc
    have HO := Lib.hid hone
    rw [← hnn] at hn hq ⊢
    change (binOp .eql 22 (.slice (some a) n cap) (.slice none 0 0)).run Tryz.prog w = .ok (.bool false) w at hq
    clear hsrc hone h1 h2 h3 hnn
    go_enter Tryz.func43, Tryz.ntmps43
    go_wp2_with (refine wpList_append_sl rfl _ _ _ 22 (by rfl) el_rf (base := w.heap.size) (.slice (some ⟨w.heap.size, 0, none⟩) 0 0) 0 [] (by rfl) (SlIs.made (cs := #[]) (BlkIs.new _ _ _) (Nat.le_refl _) rfl (by decide)) _ n (rowCells vRf l) (by rfl) HS.out HO.out (by unfold maxLen; omega) (by omega) (by simp) ?_)
    intro v5 w5 hs5 hg5 hat5
    have hb5 : Below w.heap.size w w5 := ((Below.refl _ _).alloc (Nat.le_refl _) _).grown hg5 (by simp) (fun k hk => Nat.le_of_eq (by simpa [Value.ownBlock] using hk))
    have H5 := Lib.hid (And.intro hs5 hb5)
    obtain ⟨ao5, c5, rfl, -, -, -⟩ := hs5.form
    clear hs5 hg5 hat5 hb5
    go_wp2_with fail
    go_ret
    exact ⟨_, rfl, H5.out⟩
set_option maxRecDepth 100000 in
set_option maxHeartbeats 1000000 in
theorem clone_tok (v : Value) (l : List Tok) (w : World) (h : RowAt 3 vTok w v l) (hn : l.length ≤ 1000000) :
    Calls Tryz.prog 44 #[v] w fun e w' => ∃ v', e = .returned v' ∧ SlIs w' w.heap.size 45 3 v' l.length (rowCells vTok l) ∧ Below w.heap.size w w' := by
  obtain ⟨ao, cap, rfl, h1, h2, h3⟩ := h
  have hq := Go.Lib.run_eql_slice_nil (P := Tryz.prog) w 23 45 ao l.length cap 0 0 Tryz.underlying23
  cases ao with
  | none =>
    have h0 : l.length = 0 := by
      rcases Nat.eq_zero_or_pos l.length with h | h
      · exact h
      · obtain ⟨b, off, ha, _⟩ := h3 h
        cases ha
    have hl : l = [] := List.eq_nil_of_length_eq_zero h0
    subst hl
    clear h1 h2 h3 h0 hn
    change (binOp .eql 23 (.slice none 0 cap) (.slice none 0 0)).run Tryz.prog w = .ok (.bool true) w at hq
    show Calls Tryz.prog 44 #[.slice none 0 cap] w fun e w' => ∃ v', e = .returned v' ∧ SlIs w' w.heap.size 45 3 v' 0 [] ∧ Below w.heap.size w w'
    go_enter Tryz.func44, Tryz.ntmps44
    go_wp2_with fail
    go_ret
    exact ⟨_, rfl, SlIs.nil_ _ _ _ _, Below.refl _ _⟩
  | some a =>
    obtain ⟨n, hnn⟩ : ∃ n, n = l.length := ⟨_, rfl⟩
    have hsrc : SrcIs Tryz.prog (w.alloc (.cells #[] 45)) 23 3 (.slice (some a) n cap) n (rowCells vTok l) := by
      have hl : (rowCells vTok l).length = n * 3 := by rw [hnn]; exact rowCells_len (enc := vTok) (fun _ => rfl) l
      refine SrcIs.cells Tryz.underlying23 _ 3 a n cap _ hl fun j u hu => ?_
      have hj : j < l.length * 3 := by rw [← hnn, ← hl]; exact (List.getElem?_eq_some_iff.1 hu).1
      obtain ⟨b, off, ha, hlt, hc⟩ := h3 (by omega)
      injection ha with ha
      subst ha
      have hg := rowCells_get (k := 3) (enc := vTok) (fun _ => rfl) l (j / 3) (by omega) (j % 3) (by omega)
      rw [show j / 3 * 3 + j % 3 = j by omega] at hg
      rw [hg] at hu
      have := hc (j / 3) (by omega) (j % 3) u hu
      rw [show off + j / 3 * 3 + j % 3 = off + j by omega] at this
      have h5 := cell?_alloc_some (.cells #[] 45) this
      have hadd : (Addr.mk b off none).add j = ⟨b, off + j, none⟩ := by
        unfold Addr.add
        split
        · next h0 => subst h0; rfl
        · rfl
      rw [hadd]
      exact h5
    have hone : ∀ u ∈ rowCells vTok l, u.oneCell' = true := by
      intro u hu
      obtain ⟨x, -, hx⟩ := List.mem_flatMap.1 hu
      simp only [vTok, List.mem_cons, List.not_mem_nil, or_false] at hx
      rcases hx with rfl | rfl | rfl <;> rfl
    have HS := Lib.hid hsrc
    have HO := Lib.hid hone
    rw [← hnn] at hn hq ⊢
    change (binOp .eql 23 (.slice (some a) n cap) (.slice none 0 0)).run Tryz.prog w = .ok (.bool false) w at hq
    clear hsrc hone h1 h2 h3 hnn
    go_enter Tryz.func44, Tryz.ntmps44
    go_wp2_with (refine wpList_append_sl rfl _ _ _ 23 (by rfl) el_tok (base := w.heap.size) (.slice (some ⟨w.heap.size, 0, none⟩) 0 0) 0 [] (by rfl) (SlIs.made (cs := #[]) (BlkIs.new _ _ _) (Nat.le_refl _) rfl (by decide)) _ n (rowCells vTok l) (by rfl) HS.out HO.out (by unfold maxLen; omega) (by omega) (by simp) ?_)
    intro v5 w5 hs5 hg5 hat5
    have hb5 : Below w.heap.size w w5 := ((Below.refl _ _).alloc (Nat.le_refl _) _).grown hg5 (by simp) (fun k hk => Nat.le_of_eq (by simpa [Value.ownBlock] using hk))
    have H5 := Lib.hid (And.intro hs5 hb5)
    obtain ⟨ao5, c5, rfl, -, -, -⟩ := hs5.form
    clear hs5 hg5 hat5 hb5
    go_wp2_with fail
    go_ret
    exact ⟨_, rfl, H5.out⟩
set_option maxRecDepth 100000 in
set_option maxHeartbeats 1000000 in
theorem clone_tb (v : Value) (l : List TbR) (w : World) (h : RowAt 5 vTb w v l) (hn : l.length ≤ 1000000) (ho : ∀ z ∈ l, z.cv.oneCell' = true ∧ z.av.oneCell' = true) :
    Calls Tryz.prog 106 #[v] w fun e w' => ∃ v', e = .returned v' ∧ SlIs w' w.heap.size 43 5 v' l.length (rowCells vTb l) ∧ Below w.heap.size w w' := by
  obtain ⟨ao, cap, rfl, h1, h2, h3⟩ := h
  have hq := Go.Lib.run_eql_slice_nil (P := Tryz.prog) w 24 43 ao l.length cap 0 0 Tryz.underlying24
  cases ao with
  | none =>
    have h0 : l.length = 0 := by
      rcases Nat.eq_zero_or_pos l.length with h | h
      · exact h
      · obtain ⟨b, off, ha, _⟩ := h3 h
        cases ha
    have hl : l = [] := List.eq_nil_of_length_eq_zero h0
    subst hl
    clear h1 h2 h3 h0 hn ho
    change (binOp .eql 24 (.slice none 0 cap) (.slice none 0 0)).run Tryz.prog w = .ok (.bool true) w at hq
    show Calls Tryz.prog 106 #[.slice none 0 cap] w fun e w' => ∃ v', e = .returned v' ∧ SlIs w' w.heap.size 43 5 v' 0 [] ∧ Below w.heap.size w w'
    go_enter Tryz.func106, Tryz.ntmps106
    go_wp2_with fail
    go_ret
    exact ⟨_, rfl, SlIs.nil_ _ _ _ _, Below.refl _ _⟩
  | some a =>
    obtain ⟨n, hnn⟩ : ∃ n, n = l.length := ⟨_, rfl⟩
    have hsrc : SrcIs Tryz.prog (w.alloc (.cells #[] 43)) 24 5 (.slice (some a) n cap) n (rowCells vTb l) := by
      have hl : (rowCells vTb l).length = n * 5 := by rw [hnn]; exact rowCells_len (enc := vTb) (fun _ => rfl) l
      refine SrcIs.cells Tryz.underlying24 _ 5 a n cap _ hl fun j u hu => ?_
      have hj : j < l.length * 5 := by rw [← hnn, ← hl]; exact (List.getElem?_eq_some_iff.1 hu).1
      obtain ⟨b, off, ha, hlt, hc⟩ := h3 (by omega)
      injection ha with ha
      subst ha
      have hg := rowCells_get (k := 5) (enc := vTb) (fun _ => rfl) l (j / 5) (by omega) (j % 5) (by omega)
      rw [show j / 5 * 5 + j % 5 = j by omega] at hg
      rw [hg] at hu
      have := hc (j / 5) (by omega) (j % 5) u hu
      rw [show off + j / 5 * 5 + j % 5 = off + j by omega] at this
      have h5 := cell?_alloc_some (.cells #[] 43) this
      have hadd : (Addr.mk b off none).add j = ⟨b, off + j, none⟩ := by
        unfold Addr.add
        split
        · next h0 => subst h0; rfl
        · rfl
      rw [hadd]
      exact h5
    have hone : ∀ u ∈ rowCells vTb l, u.oneCell' = true := by
      intro u hu
      obtain ⟨x, hxl, hx⟩ := List.mem_flatMap.1 hu
      simp only [vTb, List.mem_cons, List.not_mem_nil, or_false] at hx
      rcases hx with rfl | rfl | rfl | rfl | rfl; rfl; rfl; rfl; exact (ho x hxl).1; exact (ho x hxl).2
    have HS := Lib.hid hsrc
    have HO := Lib.hid hone
    rw [← hnn] at hn hq ⊢
    change (binOp .eql 24 (.slice (some a) n cap) (.slice none 0 0)).run Tryz.prog w = .ok (.bool false) w at hq
    clear hsrc hone h1 h2 h3 hnn ho
    go_enter Tryz.func106, Tryz.ntmps106
    go_wp2_with (refine wpList_append_sl rfl _ _ _ 24 (by rfl) el_tb (base := w.heap.size) (.slice (some ⟨w.heap.size, 0, none⟩) 0 0) 0 [] (by rfl) (SlIs.made (cs := #[]) (BlkIs.new _ _ _) (Nat.le_refl _) rfl (by decide)) _ n (rowCells vTb l) (by rfl) HS.out HO.out (by unfold maxLen; omega) (by omega) (by simp) ?_)
    intro v5 w5 hs5 hg5 hat5
    have hb5 : Below w.heap.size w w5 := ((Below.refl _ _).alloc (Nat.le_refl _) _).grown hg5 (by simp) (fun k hk => Nat.le_of_eq (by simpa [Value.ownBlock] using hk))
    have H5 := Lib.hid (And.intro hs5 hb5)
    obtain ⟨ao5, c5, rfl, -, -, -⟩ := hs5.form
    clear hs5 hg5 hat5 hb5
    go_wp2_with fail
    go_ret
    exact ⟨_, rfl, H5.out⟩
end Go.Proofs.YtbmknmjcoeinkaaGreat.Mg
