/- slices.Clone and slices.DeleteFunc at tokens, walked, as Live calls them. (Layer 12.) -/
import Derived.Test.YtngflbakmlddeaaGreatMk21
import Derived.Test.YtngflbakmlddeaaGreatMk2
import Derived.Test.YtngflbakmlddeaaGreatMk16
import Derived.Lib.SliceRun
namespace Go.Proofs.YtngflbakmlddeaaGreat.Mk
set_option linter.unusedVariables false
open Go.RowKit Go.Lib
open Oct (Moved)
theorem TokMap.moved {w w' : World} {b g : Nat} {f : Tok → Bool} (h : TokMap w b f) (hm : Moved g w w') (hg : b ≠ g) : TokMap w' b f := by
  have hlt := h.lt
  obtain ⟨es, c, D, h1, h2, h3⟩ := h
  exact ⟨es, c, D, by rw [hm.block b hlt (by simpa using hg)]; exact h1, h2, h3⟩
/-- The tokens of a row that may be written. -/
def OwnT (w : World) (g off : Nat) (l : List Tok) : Prop := ∀ i (h : i < l.length), (w.cell? ⟨g, off + i * 3, none⟩ = some (.int .i64 l[i].node) ∧ w.cell? ⟨g, off + i * 3 + 1, none⟩ = some (.int .i64 l[i].n) ∧ w.cell? ⟨g, off + i * 3 + 2, none⟩ = some (.string l[i].id)) ∧
  w.frozen? ⟨g, off + i * 3, none⟩ = false ∧ w.frozen? ⟨g, off + i * 3 + 1, none⟩ = false ∧ w.frozen? ⟨g, off + i * 3 + 2, none⟩ = false
theorem OwnT.below {w w' : World} {g off : Nat} {l : List Tok} (h : OwnT w g off l) (hb : Below w.heap.size w w') (hg : g < w.heap.size) : OwnT w' g off l := fun i hi => by
  obtain ⟨⟨h1, h2, h3⟩, h4, h5, h6⟩ := h i hi
  exact ⟨⟨by rw [hb.cell hg]; exact h1, by rw [hb.cell hg]; exact h2, by rw [hb.cell hg]; exact h3⟩, by rw [hb.frozen hg]; exact h4, by rw [hb.frozen hg]; exact h5, by rw [hb.frozen hg]; exact h6⟩
theorem OwnT.of_sl {w : World} {base g off cap : Nat} {l : List Tok} (h : SlIs w base 43 3 (.slice (some ⟨g, off, none⟩) l.length cap) l.length (rowCells vTok l)) : OwnT w g off l := fun i hi => by
  obtain ⟨g', off', cap', hv, -, -, -, -, hc, hf⟩ := h.at_ (by omega)
  injection hv with e1 e2 e3
  injection e1 with e1
  injection e1 with e1 e4
  subst e1 e4
  have hl : (rowCells vTok l).length = l.length * 3 := rowCells_len (enc := vTok) (fun _ => rfl) l
  have g0 := rowCells_get (k := 3) (enc := vTok) (fun _ => rfl) l i hi 0 (by decide)
  have g1 := rowCells_get (k := 3) (enc := vTok) (fun _ => rfl) l i hi 1 (by decide)
  have g2 := rowCells_get (k := 3) (enc := vTok) (fun _ => rfl) l i hi 2 (by decide)
  refine ⟨⟨?_, ?_, ?_⟩, hf (i * 3) (by omega), ?_, ?_⟩
  · rw [hc (i * 3) (by omega)]; exact g0
  · rw [Nat.add_assoc, hc (i * 3 + 1) (by omega)]; exact g1
  · rw [Nat.add_assoc, hc (i * 3 + 2) (by omega)]; exact g2
  · rw [Nat.add_assoc]; exact hf _ (by omega)
  · rw [Nat.add_assoc]; exact hf _ (by omega)
theorem OwnT.row {w : World} {g off cap : Nat} {l : List Tok} (h : OwnT w g off l) (hg : g < w.heap.size) (m : Nat) (hm : m ≤ l.length) (hc : m ≤ cap) (hx : cap ≤ maxLen) : RowAt 3 vTok w (.slice (some ⟨g, off, none⟩) m cap) (l.take m) := by
  have hl : (l.take m).length = m := by rw [List.length_take]; omega
  refine ⟨_, cap, by rw [hl], by rw [hl]; exact hc, hx, fun hn => ⟨g, off, rfl, hg, fun i hi j u hu => ?_⟩⟩
  obtain ⟨⟨h1, h2, h3⟩, -⟩ := h i (by omega)
  rw [List.getElem_take] at hu
  match j, hu with
  | 0, hu => exact h1.trans hu
  | 1, hu => exact h2.trans hu
  | 2, hu => exact h3.trans hu
  | j + 3, hu => simp [vTok] at hu
theorem OwnT.put {w : World} {g off : Nat} {l : List Tok} (h : OwnT w g off l) (i : Nat) (hi : i < l.length) (x : Tok) :
    OwnT (((w.setCell ⟨g, off + i * 3, none⟩ (.int .i64 x.node)).setCell ⟨g, off + i * 3 + 1, none⟩ (.int .i64 x.n)).setCell ⟨g, off + i * 3 + 2, none⟩ (.string x.id)) g off (l.set i x) := fun j hj => by
  have hj' : j < l.length := by simpa using hj
  have hs : (l.set i x)[j] = if i = j then x else l[j] := List.getElem_set ..
  rw [hs]
  obtain ⟨⟨h1, h2, h3⟩, h4, h5, h6⟩ := h j hj'
  obtain ⟨⟨k1, k2, k3⟩, -, -, -⟩ := h i hi
  by_cases e : i = j
  · subst e
    rw [if_pos rfl]
    refine ⟨⟨?_, ?_, ?_⟩, by simpa using h4, by simpa using h5, by simpa using h6⟩
    · rw [World.cell?_setCell_other _ _ _ _ (by simp), World.cell?_setCell_other _ _ _ _ (by simp), World.cell?_setCell_same _ _ _ k1]
    · rw [World.cell?_setCell_other _ _ _ _ (by simp), World.cell?_setCell_same _ _ _ (by rw [World.cell?_setCell_other _ _ _ _ (by simp)]; exact k2)]
    · rw [World.cell?_setCell_same _ _ _ (by rw [World.cell?_setCell_other _ _ _ _ (by simp), World.cell?_setCell_other _ _ _ _ (by simp)]; exact k3)]
  · rw [if_neg e]
    have n1 : ∀ a c, a < 3 → c < 3 → off + j * 3 + a ≠ off + i * 3 + c := fun a c ha hc he => e (by omega)
    refine ⟨⟨?_, ?_, ?_⟩, by simpa using h4, by simpa using h5, by simpa using h6⟩
    · rw [World.cell?_setCell_other _ _ _ _ (by simp <;> omega), World.cell?_setCell_other _ _ _ _ (by simp <;> omega), World.cell?_setCell_other _ _ _ _ (by simp <;> omega)]; exact h1
    · rw [World.cell?_setCell_other _ _ _ _ (by simp <;> omega), World.cell?_setCell_other _ _ _ _ (by simp <;> omega), World.cell?_setCell_other _ _ _ _ (by simp <;> omega)]; exact h2
    · rw [World.cell?_setCell_other _ _ _ _ (by simp <;> omega), World.cell?_setCell_other _ _ _ _ (by simp <;> omega), World.cell?_setCell_other _ _ _ _ (by simp <;> omega)]; exact h3
/-- Where the going stands: i are kept of the first j. -/
def DelInv (p : Tok → Bool) (l : List Tok) (j i : Nat) (dk : List Tok) : Prop := dk.length = l.length ∧ (l.take j).filter (fun x => !p x) = dk.take i ∧ i ≤ j ∧ i ≤ l.length ∧ ∀ t (h : t < dk.length) (h' : t < l.length), j ≤ t → dk[t] = l[t]
theorem DelInv.skip {p : Tok → Bool} {l dk : List Tok} {j i : Nat} (h : DelInv p l j i dk) (hj : j < l.length) (hp : p l[j] = true) : DelInv p l (j + 1) i dk := by
  obtain ⟨h1, h2, h3, h4, h5⟩ := h
  refine ⟨h1, ?_, by omega, h4, fun t ht ht' hjt => h5 t ht ht' (by omega)⟩
  rw [List.take_add_one, List.filter_append, h2, List.getElem?_eq_getElem hj]
  simp [hp]
theorem DelInv.keep {p : Tok → Bool} {l dk : List Tok} {j i : Nat} (h : DelInv p l j i dk) (hj : j < l.length) (hi : i < j) (hp : p l[j] = false) : DelInv p l (j + 1) (i + 1) (dk.set i l[j]) := by
  obtain ⟨h1, h2, h3, h4, h5⟩ := h
  refine ⟨by simpa using h1, ?_, by omega, by omega, fun t ht ht' hjt => ?_⟩
  · rw [List.take_add_one (l := l), List.filter_append, h2, List.getElem?_eq_getElem hj, List.take_add_one, List.getElem?_set_self (by omega), List.take_set_of_le (Nat.le_refl i)]
    simp [hp]
  · rw [List.getElem_set_ne (by omega)]
    exact h5 t (by simpa using ht) ht' (by omega)
theorem DelInv.start {p : Tok → Bool} {l : List Tok} {k : Nat} (hk : k < l.length) (h : ∀ x ∈ l.take k, p x = false) (hp : p l[k] = true) : DelInv p l (k + 1) k l := by
  refine ⟨rfl, ?_, by omega, by omega, fun t ht ht' _ => rfl⟩
  rw [List.take_add_one, List.filter_append, List.getElem?_eq_getElem hk, List.filter_eq_self.2 (fun x hx => by simp [h x hx])]
  simp [hp]
theorem DelInv.fin {p : Tok → Bool} {l dk : List Tok} {i : Nat} (h : DelInv p l l.length i dk) : dk.take i = l.filter (fun x => !p x) := by
  rw [← h.2.1, List.take_length]
theorem run_clear_toks (w : World) (b o n c : Nat) (hn : 0 < n) (hc : ∀ j, j < n * 3 → (w.cell? ⟨b, o + j, none⟩).isSome = true) (hf : ∀ j, j < n * 3 → w.frozen? ⟨b, o + j, none⟩ = false) :
    ∃ zs : List Value, zs.length = n * 3 ∧ ∀ ty, (Builtin.clear_ #[23] ty #[.slice (some ⟨b, o, none⟩) n c]).run Tryz.prog w = .ok (.tuple #[]) (w.setCells b o zs) := by
  have hv : ∀ w, (zeroValue 43).run Tryz.prog w = .ok (.agg #[.int .i64 0, .int .i64 0, .string ⟨#[]⟩]) w := Tryz.zeroValue43
  have ht := Tryz.underlying23
  have hz : (Value.agg #[.int .i64 0, .int .i64 0, .string ⟨#[]⟩]).cells = #[.int .i64 0, .int .i64 0, .string ⟨#[]⟩] := rfl
  have hl : (Builtin.zeroCells #[.int .i64 0, .int .i64 0, .string ⟨#[]⟩] n).toList.length = n * 3 := by simp [Builtin.zeroCells]
  have h1 : ∀ v ∈ (Builtin.zeroCells #[.int .i64 0, .int .i64 0, .string ⟨#[]⟩] n).toList, v.oneCell' = true := by
    intro v hv
    simp only [Builtin.zeroCells, Array.toList_map, List.mem_map] at hv
    obtain ⟨i, _, rfl⟩ := hv
    have : i % 3 < 3 := Nat.mod_lt _ (by decide)
    show (#[Value.int .i64 0, .int .i64 0, .string ⟨#[]⟩][i % 3]!).oneCell' = true
    match i % 3, this with
    | 0, _ => rfl
    | 1, _ => rfl
    | 2, _ => rfl
  have hst := run_storeCells_cells (P := Tryz.prog) b o (Builtin.zeroCells #[.int .i64 0, .int .i64 0, .string ⟨#[]⟩] n).toList 0 w (by rw [hl]; simpa using hc) (by rw [hl]; simpa using hf) h1
  simp only [Nat.add_zero] at hst
  refine ⟨_, hl, fun ty => ?_⟩
  obtain ⟨m, rfl⟩ : ∃ m, n = m + 1 := ⟨n - 1, by omega⟩
  simp [Builtin.clear_, run_underlying ht, hv, hz, hst]
theorem moved_setCells (b : Nat) : ∀ (vs : List Value) (o : Nat) (w w0 : World), Moved b w0 w → Moved b w0 (w.setCells b o vs)
  | [], _, _, _, h => h
  | v :: r, o, w, w0, h => by
    rw [World.setCells]
    exact moved_setCells b r (o + 1) _ w0 (h.setCell rfl v)
/-- Live's closure tells what the map says. -/
theorem live1_tells (l : List Tok) (P b : Nat) (f : Tok → Bool) (w : World) (hm : TokMap w b f) (hP : BlkIs w P 102 #[.map (some b)]) : Tells 72 #[.pointer (some ⟨P, 0, none⟩)] aTok f l w :=
  ⟨enters_of Tryz.func72 (by kernel_rfl) rfl, fun x hx W hW => live1_any x P b f W (hm.below hW hm.lt) (BlkIs.below hP hW hP.lt)⟩
/-- What DeleteFunc hands back. -/
def DelOut (p : Tok → Bool) (l : List Tok) (base : Nat) (w : World) (e : Ending) (w' : World) : Prop := ∃ v', e = .returned v' ∧ RowAt 3 vTok w' v' (l.filter (fun x => !p x)) ∧ Below base w w' ∧ (0 < (l.filter (fun x => !p x)).length → ∀ b off n c, v' = .slice (some ⟨b, off, none⟩) n c → base ≤ b)
set_option maxRecDepth 100000 in
set_option maxHeartbeats 4000000 in
theorem del_tok (v : Value) (l : List Tok) (base P b : Nat) (f : Tok → Bool) (w : World) (h : SlIs w base 43 3 v l.length (rowCells vTok l)) (hm : TokMap w b f) (hP : BlkIs w P 102 #[.map (some b)]) (hPb : P < base) (hbb : b < base) (hn : l.length ≤ 1000000) (hbw : base ≤ w.heap.size) :
    Calls Tryz.prog 70 #[v, .func (.func 72) #[] #[.pointer (some ⟨P, 0, none⟩)]] w fun e w' => DelOut f l base w e w' := by
  have hrow := RowAt.of_sl (enc := vTok) (k := 3) (fun _ => rfl) h
  have IX := ix_tok v l _ _ f w hrow (live1_tells l P b f w hm hP) hn
  obtain ⟨ao, cap, rfl, hc1, hc2, hnil⟩ := h.form
  obtain ⟨n, hnn⟩ : ∃ n, n = l.length := ⟨_, rfl⟩
  rw [← hnn] at hn hc1 IX ⊢
  have H := Lib.hid (And.intro h (And.intro hm (And.intro hP (And.intro hrow (And.intro hPb (And.intro hbb hbw))))))
  have HNN := Lib.hid hnn
  have HIX := Lib.hid IX
  clear h hm hP hrow hPb hbb IX hnil hbw
  by_cases hall : ∀ x ∈ l, f x = false
  · have hq := idxOf_none hall
    have HIX := HIX.out
    rw [hq] at HIX
    have HIX := Lib.hid HIX
    have HAL := Lib.hid hall
    clear hq hall hnn
    go_enter Tryz.func70, Tryz.ntmps70
    go_wp2_with fail
    refine HIX.out.mono ?_
    rintro e w2 ⟨rfl, hb2⟩
    have HB2 := Lib.hid hb2
    clear hb2
    go_wp2_with fail
    go_ret
    refine ⟨.slice ao n cap, rfl, ?_, HB2.out.mono H.out.2.2.2.2.2.2, fun hn b off n' c hv => ?_⟩
    rotate_left
    · rw [List.filter_eq_self.2 (fun x hx => by rw [HAL.out x hx]; rfl)] at hn
      obtain ⟨g, off', cap', hv', hg, -⟩ := H.out.1.at_ hn
      injection hv' with i1 i2 i3
      injection hv with e1 e2 e3
      rw [i1] at e1
      injection e1 with e1
      injection e1 with e1 e4
      subst e1
      exact hg
    have hr := H.out.2.2.2.1.later HB2.out
    rw [← HNN.out] at hr
    rw [List.filter_eq_self.2 (fun x hx => by rw [HAL.out x hx]; rfl)]
    exact hr
  · obtain ⟨k, hk, hk1, hk2⟩ : ∃ (k : Nat) (hk : k < l.length), (∀ x ∈ l.take k, f x = false) ∧ f l[k] = true := by
      have hs : (l.findIdx? f).isSome = true := by
        rw [List.findIdx?_isSome]
        rw [List.any_eq_true]
        exact Classical.byContradiction fun hno => hall fun x hx => by
          rcases hf : f x with _ | _
          · rfl
          · exact absurd ⟨x, hx, hf⟩ hno
      obtain ⟨k, hk⟩ := Option.isSome_iff_exists.1 hs
      obtain ⟨h1, h2, h3⟩ := List.findIdx?_eq_some_iff_getElem.1 hk
      refine ⟨k, h1, fun x hx => ?_, h2⟩
      obtain ⟨j, hj, rfl⟩ := List.mem_take_iff_getElem.1 hx
      simpa using h3 j (by omega)
    have hq := idxOf_some hk hk1 hk2
    have HIX := HIX.out
    rw [hq] at HIX
    have HIX := Lib.hid HIX
    have hkn : k < n := by omega
    have HDI := Lib.hid (DelInv.start hk hk1 hk2)
    obtain ⟨g, off, cap', hv, hg, hlt, -, -, -, -⟩ := H.out.1.at_ (by omega)
    injection hv with e1 e2 e3
    subst e1
    clear e2 e3 cap' hq hk1 hk2 hk hall hnn
    have hO : OwnT w g off l := by
      have h := H.out.1
      rw [← HNN.out] at h
      rw [HNN.out] at h
      exact OwnT.of_sl h
    have HO := Lib.hid hO
    have HG := Lib.hid (And.intro hg hlt)
    have hw1 : IntKind.i64.wrap ((k : Int) + 1) = ((k + 1 : Nat) : Int) := IntWalk.i64_in _ (by omega)
    clear hO hg hlt
    go_enter Tryz.func70, Tryz.ntmps70
    go_wp2_with fail
    refine HIX.out.mono ?_
    rintro e w2 ⟨rfl, hb2⟩
    have HB2 := Lib.hid hb2
    have hkm : ((k : Int) == -1) = false := by
      rw [beq_eq_false_iff_ne]; omega
    clear hb2
    go_wp2_with fail
    go_loopw [5, 6] (fun si sj wr => ∃ (i j : Nat) (dk : List Tok), si = .int .i64 (i : Int) ∧ sj = .int .i64 (j : Int) ∧ i < j ∧ j ≤ n ∧ Hid (DelInv f l j i dk) ∧ Hid (OwnT wr g off dk ∧ Moved g w wr)) (fun _ j _ => n - (intOf j).toNat)
    case atStart => exact ⟨k, k + 1, l, rfl, by simp, by omega, hkn, HDI, Lib.hid ⟨HO.out.below HB2.out HG.out.2, Moved.of_below HB2.out⟩⟩
    case round =>
      obtain ⟨i, j, dk, rfl, rfl, hij, hjn, HD, HWr⟩ := hrel
      have hdl : dk.length = n := by have := HD.out.1; have := HNN.out; omega
      have HDL := Lib.hid hdl
      rcases Nat.lt_or_ge j n with hlt | hge
      · have ki : (j : Int) < n := by omega
        have hjd : j < dk.length := by omega
        obtain ⟨⟨d0, d1, d2⟩, -, -, -⟩ := HWr.out.1 j hjd
        obtain ⟨x, hx⟩ : ∃ x, x = dk[j] := ⟨_, rfl⟩
        rw [← hx] at d0 d1 d2
        have hxl : l[j]? = some x := by
          have hjl : j < l.length := by have := HNN.out; omega
          rw [hx, List.getElem?_eq_getElem hjl, HD.out.2.2.2.2 j hjd hjl (Nat.le_refl _)]
        obtain ⟨x0, x1, x2⟩ := x
        dsimp only at d0 d1 d2
        have HX := Lib.hid hxl
        clear hx hxl hdl
        go_wp2_with fail
        have hPb := H.out.2.2.2.2.1
        have hbb := H.out.2.2.2.2.2.1
        have hgb := HG.out.1
        refine (live1_any ⟨x0, x1, x2⟩ P b f _ ((H.out.2.1.moved HWr.out.2 (by omega)).below ((Below.refl _ _).alloc (Nat.le_refl _) _) (H.out.2.1.moved HWr.out.2 (by omega)).lt) (BlkIs.alloc (HWr.out.2.blk H.out.2.2.1 (by omega)) _)).mono ?_
        rintro e w5 ⟨rfl, hb5⟩
        have bk : BlkIs w5 wr.heap.size 43 #[.int .i64 x0, .int .i64 x1, .string x2] := BlkIs.below (BlkIs.new _ _ _) hb5 (by simp)
        have hbA : Below wr.heap.size wr w5 := ((Below.refl _ _).alloc (Nat.le_refl _) _).trans (hb5.mono (by simp))
        have hgw : g < wr.heap.size := Nat.lt_of_lt_of_le HG.out.2 HWr.out.2.size
        have hO5 := HWr.out.1.below hbA hgw
        have hM5 : Moved g w w5 := HWr.out.2.trans (Moved.of_below hbA)
        obtain ⟨⟨i0, i1, i2⟩, g0, g1, g2⟩ := hO5 i (by have := HDL.out; omega)
        have b0 : w5.cell? ⟨wr.heap.size, 0, none⟩ = some (.int .i64 x0) := bk.cell 0
        have b1 : w5.cell? ⟨wr.heap.size, 1, none⟩ = some (.int .i64 x1) := bk.cell 1
        have b2 : w5.cell? ⟨wr.heap.size, 2, none⟩ = some (.string x2) := bk.cell 2
        have iw : IntKind.i64.wrap ((i : Int) + 1) = ((i + 1 : Nat) : Int) := IntWalk.i64_in _ (by omega)
        have jw : IntKind.i64.wrap ((j : Int) + 1) = ((j + 1 : Nat) : Int) := IntWalk.i64_in _ (by omega)
        have kin : (i : Int) < n := by omega
        have H5 := Lib.hid (And.intro hO5 hM5)
        obtain ⟨y0, hy0⟩ : ∃ y, y = dk[i].node := ⟨_, rfl⟩
        obtain ⟨y1, hy1⟩ : ∃ y, y = dk[i].n := ⟨_, rfl⟩
        obtain ⟨y2, hy2⟩ : ∃ y, y = dk[i].id := ⟨_, rfl⟩
        rw [← hy0] at i0
        rw [← hy1] at i1
        rw [← hy2] at i2
        clear hb5 bk hbA hgw hO5 hM5 hPb hbb hgb d0 d1 d2 hy0 hy1 hy2
        obtain ⟨q, hq⟩ : ∃ q, q = f ⟨x0, x1, x2⟩ := ⟨_, rfl⟩
        rw [← hq]
        have HQ := Lib.hid hq
        clear hq
        cases q
        · go_wp2_with fail
          refine ⟨⟨i + 1, j + 1, dk.set i ⟨x0, x1, x2⟩, by simp, by simp, by omega, by omega, Lib.hid ?_, Lib.hid ⟨H5.out.1.put i (by have := HDL.out; omega) ⟨x0, x1, x2⟩, ?_⟩⟩, by simp [intOf]; omega⟩
          · have hjl : j < l.length := by have := HNN.out; omega
            have hx := HX.out
            rw [List.getElem?_eq_getElem hjl] at hx
            injection hx with hx
            rw [← hx]
            exact HD.out.keep hjl hij (by rw [hx]; exact HQ.out.symm)
          · exact ((H5.out.2.setCell (p := ⟨g, off + i * 3, none⟩) rfl _).setCell (p := ⟨g, off + i * 3 + 1, none⟩) rfl _).setCell (p := ⟨g, off + i * 3 + 2, none⟩) rfl _
        · go_wp2_with fail
          refine ⟨⟨i, j + 1, dk, rfl, by simp, by omega, by omega, Lib.hid ?_, Lib.hid H5.out⟩, by simp [intOf]; omega⟩
          have hjl : j < l.length := by have := HNN.out; omega
          have hx := HX.out
          rw [List.getElem?_eq_getElem hjl] at hx
          injection hx with hx
          exact HD.out.skip hjl (by rw [hx]; exact HQ.out.symm)
      · obtain rfl : n = j := by omega
        have hgw : g < wr.heap.size := Nat.lt_of_lt_of_le HG.out.2 HWr.out.2.size
        have hat : ∀ t, t < (n - i) * 3 → (wr.cell? ⟨g, off + i * 3 + t, none⟩).isSome = true ∧ wr.frozen? ⟨g, off + i * 3 + t, none⟩ = false := fun t ht => by
          obtain ⟨⟨e0, e1, e2⟩, f0, f1, f2⟩ := HWr.out.1 (i + t / 3) (by omega)
          rcases (by omega : t % 3 = 0 ∨ t % 3 = 1 ∨ t % 3 = 2) with hr | hr | hr
          · rw [show off + i * 3 + t = off + (i + t / 3) * 3 by omega]
            exact ⟨by rw [e0]; rfl, f0⟩
          · rw [show off + i * 3 + t = off + (i + t / 3) * 3 + 1 by omega]
            exact ⟨by rw [e1]; rfl, f1⟩
          · rw [show off + i * 3 + t = off + (i + t / 3) * 3 + 2 by omega]
            exact ⟨by rw [e2]; rfl, f2⟩
        obtain ⟨zs, hzl, hcl⟩ := run_clear_toks wr g (off + i * 3) (n - i) (cap - i) (by omega) (fun t ht => (hat t ht).1) (fun t ht => (hat t ht).2)
        have hki : (i : Int) ≤ n := by omega
        have hkc : (i : Int) ≤ cap := by omega
        have Hzl := Lib.hid hzl
        have Hgw := Lib.hid hgw
        clear hat hzl hdl hgw
        go_wp2_with fail
        go_ret
        have hfin := HD.out
        rw [HNN.out] at hfin
        have hr := HWr.out.1.row (cap := cap) Hgw.out i (by have := HDL.out; omega) (by omega) hc2
        rw [hfin.fin] at hr
        have hms := moved_setCells g zs (off + i * 3) wr w HWr.out.2
        refine ⟨.slice (some ⟨g, off, none⟩) i cap, rfl, ?_, (hms.below (Nat.le_of_lt HG.out.2)).mono HG.out.1, fun _ b off n' c hv => ?_⟩
        rotate_left
        · injection hv with e1 e2 e3
          injection e1 with e1
          injection e1 with e1 e4
          subst e1
          exact HG.out.1
        obtain ⟨ao, c, hv, h1, h2, h3⟩ := hr
        refine ⟨ao, c, hv, h1, h2, fun hn => ?_⟩
        obtain ⟨b', o', ha, hlt, hc⟩ := h3 hn
        subst ha
        injection hv with e1 e2 e3
        injection e1 with e1
        injection e1 with e1 e4
        subst e1 e4
        have hs := (moved_setCells g zs (off + i * 3) wr wr (Moved.refl _ _)).size
        refine ⟨g, off, rfl, Nat.lt_of_lt_of_le hlt hs, fun t ht j u hu => ?_⟩
        have hj : j < 3 := (List.getElem?_eq_some_iff.1 hu).1
        rw [World.cell?_setCells_out _ _ _ _ _ (fun _ _ => Or.inl (by show off + t * 3 + j < off + i * 3; omega))]
        exact hc t ht j u hu
end Go.Proofs.YtngflbakmlddeaaGreat.Mk
