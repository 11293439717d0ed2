/- Several texts in one. (Layer 19.) -/
import Derived.Test.YtljenganlknhbaaGreatPkM
import Derived.Test.YtljenganlknhbaaGreatMk12
import Derived.Test.YtljenganlknhbaaGreatPkH
import Derived.Test.YtljenganlknhbaaGreatPkJ
import Derived.Deep.RegionHeld
import Derived.Test.YtljenganlknhbaaGreatMk13
/- frame.num, texts, cells, walked. (Layer 19.) -/
namespace Go.Proofs.YtljenganlknhbaaGreat.Fr
set_option linter.unusedVariables false
set_option linter.unusedSimpArgs false
open Go.RowKit Go.Lib Oct
open Set (StrAt scells)
open Tr (Cp strAt_at catL join_any)
open Mk (okN enNum_size enText_size enAll_size)
theorem num_any (n : Int) (h : okN n) (w : World) : Calls Tryz.prog 19 #[.int .i64 n] w fun e w' => e = .returned (.string (enNum n)) ∧ Below w.heap.size w w' := by
  obtain ⟨h1, h2⟩ := h
  obtain ⟨k, rfl⟩ := Int.eq_ofNat_of_zero_le h1
  have hn := Oct.num k
  have e : (enNum (k : Int)) = ⟨(le32 k).toArray⟩ := rfl
  rw [← e] at hn
  obtain ⟨T, hT⟩ : ∃ T, T = enNum (k : Int) := ⟨_, rfl⟩
  rw [← hT] at hn ⊢
  have Hn := Lib.hid hn
  have hw : IntKind.u32.wrap (k : Int) = (k : Int) := by rw [IntKind.wrap_u32]; omega
  clear hn e hT h1 h2
  go_enter Tryz.func19, Tryz.ntmps19
  go_wp2_with fail
  refine (Hn.out _).mono ?_
  rintro e w2 ⟨rfl, hb⟩
  have H := Lib.hid hb
  clear hb
  go_wp2_with fail
  go_ret
  exact ⟨rfl, H.out⟩
theorem text_any (s : ByteArray) (h : s.size ≤ 140737488355328) (w : World) : Calls Tryz.prog 72 #[.string s] w fun e w' => e = .returned (.string (enText s)) ∧ Below w.heap.size w w' := Oct.text s w h
/-- The bytes of a list, up to a place. -/
def upTo {α : Type} (en : α → ByteArray) (l : List α) (k : Nat) : ByteArray := enNum l.length ++ enAll en (l.take k)
theorem upTo_zero {α : Type} (en : α → ByteArray) (l : List α) : upTo en l 0 = enNum l.length := app_nil _
theorem upTo_succ {α : Type} (en : α → ByteArray) {l : List α} {k : Nat} (h : k < l.length) : upTo en l (k + 1) = upTo en l k ++ en l[k] := by
  unfold upTo
  rw [List.take_succ_eq_append_getElem h, enAll_snoc, ByteArray.append_assoc]
theorem upTo_end {α : Type} (en : α → ByteArray) (l : List α) : upTo en l l.length = enMany en l := by
  unfold upTo enMany
  rw [List.take_length]
theorem upTo_size {α : Type} {en : α → ByteArray} {c : Nat} {l : List α} (h : ∀ x ∈ l, (en x).size ≤ c) (k : Nat) : (upTo en l k).size ≤ 4 + c * l.length := by
  have h1 := enAll_size (en := en) (c := c) (l.take k) fun x hx => h x (List.mem_of_mem_take hx)
  have h2 : (l.take k).length ≤ l.length := List.length_take_le' _ _
  have h3 := Nat.mul_le_mul_left c h2
  unfold upTo
  rw [ByteArray.size_append, enNum_size]
  omega
theorem upTo_pos {α : Type} (en : α → ByteArray) (l : List α) (k : Nat) : 0 < (upTo en l k).size := by
  unfold upTo
  rw [ByteArray.size_append, enNum_size]
  omega
set_option maxRecDepth 100000 in
set_option maxHeartbeats 2000000 in
theorem texts_any (v : Value) (l : List ByteArray) (w : World) (h : StrAt w v l) (hn : l.length ≤ 1000) (hs : ∀ x ∈ l, x.size ≤ 131072) :
    Calls Tryz.prog 68 #[v] w fun e w' => e = .returned (.string (enMany enText l)) ∧ Below w.heap.size w w' := by
  have HS := Lib.hid h
  have HZ := Lib.hid hs
  have hz := fun k => upTo_size (en := enText) (c := 131076) (l := l) (fun x hx => by rw [enText_size]; have := hs x hx; omega) k
  have HU := Lib.hid (fun k => Nat.le_trans (hz k) (show 4 + 131076 * l.length ≤ 131100000 by omega))
  obtain ⟨ao, cap, rfl⟩ := StrAt.form h
  obtain ⟨n, hnn⟩ : ∃ n, n = l.length := ⟨_, rfl⟩
  have hN := Bld.Out.new w
  obtain ⟨g, hgg⟩ : ∃ g, g = w.heap.size := ⟨_, rfl⟩
  obtain ⟨W0, hW0⟩ : ∃ W0, W0 = w.alloc (.cells #[.pointer none, .slice none 0 0] 132) := ⟨_, rfl⟩
  rw [← hW0, ← hgg] at hN
  have HN := Lib.hid hN
  have HW0 := Lib.hid hW0
  have HG := Lib.hid hgg
  rw [← hnn] at HS hn ⊢
  have HL := Lib.hid hnn
  clear hnn h hs hz hN hgg hW0
  go_enter Tryz.func68, Tryz.ntmps68
  go_wp2_with fail
  rw [← HW0.out, ← HG.out]
  refine (num_any (n : Int) ⟨by omega, by omega⟩ W0).mono ?_
  rintro e w5 ⟨rfl, hb⟩
  have HO5 := Lib.hid (HN.out.later hb)
  clear hb
  go_wp2_with fail
  refine (HO5.out.write (enNum (n : Int)) (by rw [enNum_size]; show 0 + 4 ≤ _; omega)).mono ?_
  rintro e w6 ⟨rfl, ho, hkb, hsz⟩
  have HO6 := Lib.hid (show Bld.Out w g (upTo enText l 0) w6 from by rw [upTo_zero, ← HL.out]; rwa [nil_app] at ho)
  clear ho hkb hsz HO5
  go_wp2_with fail
  go_loopw [12] (fun i wr => ∃ k : Nat, i = .int .i64 (k : Int) ∧ k ≤ n ∧ Hid (Bld.Out w g (upTo enText l k) wr)) (fun i _ => n - (RowKit.intOf i).toNat)
  case atStart => exact ⟨0, rfl, Nat.zero_le _, HO6⟩
  case round =>
    obtain ⟨k, rfl, hkl, HO⟩ := hrel
    rcases Nat.lt_or_ge k n with hlt | hge
    · have ki : (k : Int) < n := by omega
      have hkL : k < l.length := by rw [← HL.out]; exact hlt
      obtain ⟨b, off, hao, hblt, hc⟩ := strAt_at HS.out (by omega)
      subst hao
      have hbw : Below w.heap.size w wr := by have := HO.out.2.1; rwa [HO.out.2.2.2] at this
      have c0 : wr.cell? ⟨b, off + k, none⟩ = some (.string l[k]) := by
        have := hc k hlt
        rw [getElem!_pos l k hkL] at this
        rw [hbw.cell hblt]; exact this
      have hx1 := HZ.out l[k] (List.getElem_mem hkL)
      have hsuc := upTo_succ enText hkL
      obtain ⟨x, hx⟩ : ∃ x, x = l[k] := ⟨_, rfl⟩
      rw [← hx] at c0 hx1 hsuc
      have T1 := text_any x (by omega)
      have hts := enText_size x
      obtain ⟨T, hT⟩ : ∃ T, T = enText x := ⟨_, rfl⟩
      rw [← hT] at T1 hsuc hts
      have T1 := Lib.hid T1
      have HX := Lib.hid (And.intro hsuc (And.intro hts hx1))
      clear hc hx hx1 hsuc hT hts hbw
      go_wp2_with fail
      refine (T1.out _).mono ?_
      rintro e w7 ⟨rfl, hb⟩
      have HO7 := Lib.hid (HO.out.later hb)
      clear hb T1
      go_wp2_with fail
      refine (HO7.out.write T (by have := HU.out k; have := HX.out.2; omega)).mono ?_
      rintro e w8 ⟨rfl, ho, -, -⟩
      rw [← HX.out.1] at ho
      have HO8 := Lib.hid ho
      clear ho
      go_wp2_with fail
      exact ⟨⟨k + 1, by simp, by omega, HO8⟩, by simp [RowKit.intOf]; omega⟩
    · have ki : decide (k < n) = false := decide_eq_false (by omega)
      obtain rfl : n = k := by omega
      have HE := Lib.hid (show Bld.Out w g (enMany enText l) wr from by
        have := HO.out
        rwa [HL.out, upTo_end] at this)
      have hp : 0 < (enMany enText l).size := by rw [← upTo_end]; exact upTo_pos _ _ _
      have HP := Lib.hid hp
      clear hp HO
      go_wp2_with fail
      refine (HE.out.string HP.out).mono ?_
      rintro e w9 ⟨rfl, hb⟩
      have HB := Lib.hid hb
      clear hb
      go_wp2_with fail
      go_ret
      exact ⟨rfl, HB.out⟩
theorem enCell_size {c : Cp} (h : okCell c) : (enCell c).size ≤ 1000 := by
  obtain ⟨c1, c2, c3, c4⟩ := h
  have i1 := enAll_size (en := idB) (c := 32) c.ids fun y hy => by
    rcases c4 with ⟨_, e, _, _⟩ | ⟨_, _, _, e⟩
    · rw [e] at hy; cases hy
    · exact Nat.le_of_eq (e y hy)
  have i2 := enAll_size (en := idB) (c := 32) c.kids fun y hy => by
    rcases c4 with ⟨_, _, _, e⟩ | ⟨_, e, _, _⟩
    · exact Nat.le_of_eq (e y hy)
    · rw [e] at hy; cases hy
  have i3 : c.ids.length ≤ 8 ∧ c.kids.length ≤ 16 := by
    rcases c4 with ⟨_, e, f, _⟩ | ⟨f, e, g, _⟩
    · rw [e, f]; exact ⟨by decide, by decide⟩
    · rw [e]; exact ⟨by omega, by decide⟩
  unfold enCell
  simp only [ByteArray.size_append, enNum_size, enText_size]
  omega
theorem okCell_all {c : Cp} (h : okCell c) : (∀ x, x ∈ c.ids → x.size = 32) ∧ (∀ x, x ∈ c.kids → x.size = 32) ∧ c.ids.length ≤ 1000000 ∧ c.kids.length ≤ 1000000 := by
  obtain ⟨c1, c2, c3, c4⟩ := h
  rcases c4 with ⟨_, e, f, g⟩ | ⟨f, e, g, i⟩
  · exact ⟨fun x hx => by rw [e] at hx; (cases hx), g, by rw [e]; decide, by omega⟩
  · exact ⟨i, fun x hx => by rw [e] at hx; (cases hx), by omega, by rw [e]; decide⟩
theorem catL_enAll : ∀ l : List ByteArray, (⟨(catL l).toArray⟩ : ByteArray) = enAll idB l
  | [] => rfl
  | x :: l => by
    have e : catL (x :: l) = x.data.toList ++ catL l := rfl
    rw [e, bytes_app, bytes_of, catL_enAll l]
    rfl
theorem joined_any (v : Value) (l : List ByteArray) (w : World) (h : StrAt w v l) (hn : l.length ≤ 1000000) (hs : ∀ x, x ∈ l → x.size = 32) :
    Calls Tryz.prog 70 #[v, .string ⟨#[]⟩] w fun e w' => e = .returned (.string (enAll idB l)) ∧ Below w.heap.size w w' := by
  rw [← catL_enAll]
  exact join_any v l w h hn hs
theorem CellsAt.at_ {w : World} {ao : Option Addr} {n cap : Nat} {l : List CpR} (h : CellsAt w (.slice ao n cap) l) (hn : 0 < n) : ∃ b off, ao = some ⟨b, off, none⟩ ∧ b < w.heap.size ∧ ∀ i (hi : i < l.length), w.cell? ⟨b, off + i * 5, none⟩ = some (.string l[i].c.pre) ∧
    w.cell? ⟨b, off + i * 5 + 1, none⟩ = some (.int .i64 l[i].c.cnt) ∧ w.cell? ⟨b, off + i * 5 + 2, none⟩ = some (.string l[i].c.sum) ∧ w.cell? ⟨b, off + i * 5 + 3, none⟩ = some l[i].iv ∧ w.cell? ⟨b, off + i * 5 + 4, none⟩ = some l[i].kv := by
  obtain ⟨b, off, ha, hb, hc⟩ := h.1.at_ hn
  refine ⟨b, off, ha, hb, fun i hi => ⟨?_, hc i hi 1 _ rfl, hc i hi 2 _ rfl, hc i hi 3 _ rfl, hc i hi 4 _ rfl⟩⟩
  have := hc i hi 0 _ rfl
  simpa using this
set_option maxRecDepth 100000 in
set_option maxHeartbeats 2000000 in
theorem cells_any (v : Value) (l : List CpR) (w : World) (h : CellsAt w v l) (hn : l.length ≤ 1000) (hs : ∀ x ∈ l, okCell x.c) :
    Calls Tryz.prog 69 #[v] w fun e w' => e = .returned (.string (enMany enCell (l.map (·.c)))) ∧ Below w.heap.size w w' := by
  obtain ⟨M, hM⟩ : ∃ M, M = l.map (·.c) := ⟨_, rfl⟩
  have hMl : M.length = l.length := by rw [hM]; simp
  have hMo : ∀ x ∈ M, okCell x := fun x hx => by
    rw [hM] at hx
    obtain ⟨y, hy, rfl⟩ := List.mem_map.1 hx
    exact hs y hy
  have hz := fun k => upTo_size (en := enCell) (c := 1000) (l := M) (fun x hx => enCell_size (hMo x hx)) k
  have HU := Lib.hid (fun k => Nat.le_trans (hz k) (show 4 + 1000 * M.length ≤ 1100000 by omega))
  have HS := Lib.hid h
  have HM := Lib.hid (And.intro hM (And.intro hMl hs))
  rw [← hM]
  obtain ⟨ao, cap, rfl, -⟩ := h.1.form
  obtain ⟨n, hnn⟩ : ∃ n, n = l.length := ⟨_, rfl⟩
  have hN := Bld.Out.new w
  obtain ⟨g, hgg⟩ : ∃ g, g = w.heap.size := ⟨_, rfl⟩
  obtain ⟨W0, hW0⟩ : ∃ W0, W0 = w.alloc (.cells #[.pointer none, .slice none 0 0] 132) := ⟨_, rfl⟩
  rw [← hW0, ← hgg] at hN
  have HN := Lib.hid hN
  have HW0 := Lib.hid hW0
  have HG := Lib.hid hgg
  rw [← hnn] at HS hn ⊢
  have HL := Lib.hid (show n = M.length by rw [hMl]; exact hnn)
  have HLl := Lib.hid hnn
  clear hnn h hs hz hN hgg hW0 hM hMl hMo
  go_enter Tryz.func69, Tryz.ntmps69
  go_wp2_with fail
  rw [← HW0.out, ← HG.out]
  refine (num_any (n : Int) ⟨by omega, by omega⟩ W0).mono ?_
  rintro e w5 ⟨rfl, hb⟩
  have HO5 := Lib.hid (HN.out.later hb)
  clear hb
  go_wp2_with fail
  refine (HO5.out.write (enNum (n : Int)) (by rw [enNum_size]; show 0 + 4 ≤ _; omega)).mono ?_
  rintro e w6 ⟨rfl, ho, hkb, hsz⟩
  have HO6 := Lib.hid (show Bld.Out w g (upTo enCell M 0) w6 from by rw [upTo_zero, ← HL.out]; rwa [nil_app] at ho)
  clear ho hkb hsz HO5
  go_wp2_with fail
  go_loopw [12] (fun i wr => ∃ k : Nat, i = .int .i64 (k : Int) ∧ k ≤ n ∧ Hid (Bld.Out w g (upTo enCell M k) wr)) (fun i _ => n - (RowKit.intOf i).toNat)
  case atStart => exact ⟨0, rfl, Nat.zero_le _, HO6⟩
  case round =>
    obtain ⟨k, rfl, hkl, HO⟩ := hrel
    have hbw : Below w.heap.size w wr := by have := HO.out.2.1; rwa [HO.out.2.2.2] at this
    rcases Nat.lt_or_ge k n with hlt | hge
    · have ki : (k : Int) < n := by omega
      have hkL : k < l.length := by rw [← HLl.out]; exact hlt
      have hkM : k < M.length := by rw [← HL.out]; exact hlt
      obtain ⟨b, off, hao, hblt, hc⟩ := CellsAt.at_ HS.out (by omega)
      subst hao
      obtain ⟨c0, c1, c2, c3, c4⟩ := hc k hkL
      rw [← hbw.cell (p := ⟨b, off + k * 5, none⟩) hblt] at c0
      rw [← hbw.cell (p := ⟨b, off + k * 5 + 1, none⟩) hblt] at c1
      rw [← hbw.cell (p := ⟨b, off + k * 5 + 2, none⟩) hblt] at c2
      rw [← hbw.cell (p := ⟨b, off + k * 5 + 3, none⟩) hblt] at c3
      rw [← hbw.cell (p := ⟨b, off + k * 5 + 4, none⟩) hblt] at c4
      have hok := HM.out.2.2 l[k] (List.getElem_mem hkL)
      have hsuc := upTo_succ enCell hkM
      have hMk : M[k] = l[k].c := by simp only [HM.out.1, List.getElem_map]
      rw [hMk] at hsuc
      have hrd := HS.out.2 l[k] (List.getElem_mem hkL)
      obtain ⟨x, hx⟩ : ∃ x, x = l[k] := ⟨_, rfl⟩
      rw [← hx] at c0 c1 c2 c3 c4 hok hsuc hrd
      clear hx hMk hc
      obtain ⟨⟨a0, a1, a2, a3, a4⟩, iv, kv⟩ := x
      obtain ⟨o1, f1, e1⟩ := StrAt.form hrd.1
      obtain ⟨o2, f2, e2⟩ := StrAt.form hrd.2
      dsimp only at c0 c1 c2 c3 c4 hok hsuc hrd e1 e2
      rw [e1] at c3
      rw [e2] at c4
      obtain ⟨hi, hk⟩ := hrd
      dsimp only at hi hk
      rw [e1] at hi
      rw [e2] at hk
      have hes := enCell_size hok
      obtain ⟨ok1, ok2, ok3, ok4⟩ := okCell_all hok
      dsimp only at ok1 ok2 ok3 ok4
      obtain ⟨W3, hW3⟩ : ∃ W3, W3 = wr.alloc (.cells #[.string a0, .int .i64 a1, .string a2, .slice o1 a3.length f1, .slice o2 a4.length f2] 49) := ⟨_, rfl⟩
      have hb3 : Below wr.heap.size wr W3 := by rw [hW3]; exact (Below.refl _ _).alloc (Nat.le_refl _) _
      have k3 : BlkIs W3 wr.heap.size 49 #[.string a0, .int .i64 a1, .string a2, .slice o1 a3.length f1, .slice o2 a4.length f2] := by rw [hW3]; exact BlkIs.new _ _ _
      have HO3 := Lib.hid (HO.out.later hb3)
      have hw3 : Below w.heap.size w W3 := hbw.trans (hb3.mono hbw.size)
      have T1 := text_any a0 (by have := hok.1; dsimp only at this; omega)
      have T2 := num_any a1 hok.2.1
      have T3 := fun X : LaterOf W3 => joined_any _ a3 X.w (hi.later (hw3.trans (X.h.mono hw3.size))) ok3 ok1
      have T4 := fun X : LaterOf W3 => joined_any _ a4 X.w (hk.later (hw3.trans (X.h.mono hw3.size))) ok4 ok2
      have hen : enCell ⟨a0, a1, a2, a3, a4⟩ = enText a0 ++ enNum a1 ++ a2 ++ enAll idB a3 ++ enAll idB a4 := by
        unfold enCell
        simp only [ByteArray.append_assoc]
      obtain ⟨n3, hn3⟩ : ∃ n, n = a3.length := ⟨_, rfl⟩
      obtain ⟨n4, hn4⟩ : ∃ n, n = a4.length := ⟨_, rfl⟩
      obtain ⟨t1, ht1⟩ : ∃ T, T = enText a0 := ⟨_, rfl⟩
      obtain ⟨t2, ht2⟩ : ∃ T, T = enNum a1 := ⟨_, rfl⟩
      obtain ⟨t3, ht3⟩ : ∃ T, T = enAll idB a3 := ⟨_, rfl⟩
      obtain ⟨t4, ht4⟩ : ∃ T, T = enAll idB a4 := ⟨_, rfl⟩
      rw [← ht1, ← ht2, ← ht3, ← ht4] at hen
      rw [← ht1] at T1
      rw [← ht2] at T2
      rw [← ht3] at T3
      rw [← ht4] at T4
      rw [← hn3] at c3 T3 hW3 k3
      rw [← hn4] at c4 T4 hW3 k3
      rw [hen] at hsuc hes
      simp only [ByteArray.size_append] at hes
      have T1 := Lib.hid T1
      have T2 := Lib.hid T2
      have T3 := Lib.hid T3
      have T4 := Lib.hid T4
      have HSuc := Lib.hid hsuc
      have hcat1 : ¬ (9223372036854775807 < t1.size + t2.size) := by omega
      have hcat2 : ¬ (9223372036854775807 < t1.size + t2.size + a2.size) := by omega
      have hcat3 : ¬ (9223372036854775807 < t1.size + t2.size + a2.size + t3.size) := by omega
      have hcat4 : ¬ (9223372036854775807 < t1.size + t2.size + a2.size + t3.size + t4.size) := by omega
      have HSz := Lib.hid (show (upTo enCell M k).size + (t1 ++ t2 ++ a2 ++ t3 ++ t4).size ≤ 140737488355328 by have := HU.out k; simp only [ByteArray.size_append]; omega)
      have u0 : ∀ X : LaterOf W3, X.w.cell? ⟨wr.heap.size, 0, none⟩ = some (.string a0) := fun X => (X.blk k3).cell 0
      have u1 : ∀ X : LaterOf W3, X.w.cell? ⟨wr.heap.size, 1, none⟩ = some (.int .i64 a1) := fun X => (X.blk k3).cell 1
      have u2 : ∀ X : LaterOf W3, X.w.cell? ⟨wr.heap.size, 2, none⟩ = some (.string a2) := fun X => (X.blk k3).cell 2
      have u3 : ∀ X : LaterOf W3, X.w.cell? ⟨wr.heap.size, 3, none⟩ = some (.slice o1 n3 f1) := fun X => (X.blk k3).cell 3
      have u4 : ∀ X : LaterOf W3, X.w.cell? ⟨wr.heap.size, 4, none⟩ = some (.slice o2 n4 f2) := fun X => (X.blk k3).cell 4
      have HW3 := Lib.hid hW3
      clear hW3 hsuc hes hen ht1 ht2 ht3 ht4 hn3 hn4 hb3 hw3 k3 ok1 ok2 ok3 ok4 hok hi hk e1 e2 hbw
      go_wp2_with fail
      rw [← HW3.out]
      refine wp_region_heads (fun w' => ∃ x : LaterOf W3, w' = x.w) 18 (by kernel_rfl) (by kernel_rfl) ⟨LaterOf.start W3, rfl⟩ ?_
      simp only [List.take_succ_cons, List.take_zero, List.drop_succ_cons, List.drop_zero]
      repeat (go_big_quiet_step (first | with_reducible exact LaterOf.call _ (T1.out _) | with_reducible exact LaterOf.call _ (T2.out _) | with_reducible exact LaterOf.call _ (T3.out _) | with_reducible exact LaterOf.call _ (T4.out _)))
      refine wpQuiet_nil ?_
      intro w4 hw4
      obtain ⟨X, rfl⟩ := hw4
      have HOX := Lib.hid (HO3.out.later X.h)
      obtain ⟨w4, hx4⟩ := X
      clear u0 u1 u2 u3 u4 c0 c1 c2 c3 c4 hcat1 hcat2 hcat3 hcat4 T1 T2 T3 T4
      go_wp2_with fail
      refine (HOX.out.write (t1 ++ t2 ++ a2 ++ t3 ++ t4) HSz.out).mono ?_
      rintro e w5 ⟨rfl, ho, -, -⟩
      rw [← HSuc.out] at ho
      have HO5 := Lib.hid ho
      clear ho
      go_wp2_with fail
      exact ⟨⟨k + 1, by simp, by omega, HO5⟩, by simp [RowKit.intOf]; omega⟩
    · have ki : decide (k < n) = false := decide_eq_false (by omega)
      obtain rfl : n = k := by omega
      have HE := Lib.hid (show Bld.Out w g (enMany enCell M) wr from by
        have := HO.out
        rwa [HL.out, upTo_end] at this)
      have hp : 0 < (enMany enCell M).size := by rw [← upTo_end]; exact upTo_pos _ _ _
      have HP := Lib.hid hp
      clear hp HO hbw
      go_wp2_with fail
      refine (HE.out.string HP.out).mono ?_
      rintro e w9 ⟨rfl, hb⟩
      have HB := Lib.hid hb
      clear hb
      go_wp2_with fail
      go_ret
      exact ⟨rfl, HB.out⟩
end Go.Proofs.YtljenganlknhbaaGreat.Fr

/- frame.field, walked: of right messages. (Layer 19.) -/
namespace Go.Proofs.YtljenganlknhbaaGreat.Fr
set_option linter.unusedVariables false
set_option linter.unusedSimpArgs false
open Go.RowKit Go.Lib Oct
open Set (StrAt scells)
open Tr (Cp pfxB IsSet)
open Mk (MkR aMk okN enNum_size enText_size enMk goodB)
theorem _root_.Go.Proofs.YtljenganlknhbaaGreat.LaterOf.drawn1 {w0 : World} (x : LaterOf w0) : ∃ y : LaterOf w0, { x.w with drawn := x.w.drawn + 1 } = y.w := ⟨⟨{ x.w with drawn := x.w.drawn + 1 }, x.h.trans ⟨rfl, rfl, rfl, Nat.le_refl _, fun _ _ => rfl⟩⟩, rfl⟩
theorem enFld_1 (f : Fld) : enFld 1 f = enMany enText f.pre := if_pos rfl
theorem enFld_2 (f : Fld) : enFld 2 f = enMany enCell f.cel := by unfold enFld; rw [if_neg (by decide), if_pos rfl]
theorem enFld_3 (f : Fld) : enFld 3 f = enMany idB f.ids := by unfold enFld; rw [if_neg (by decide), if_neg (by decide), if_pos rfl]
theorem enFld_4 (f : Fld) : enFld 4 f = enMany enText f.obj := by unfold enFld; rw [if_neg (by decide), if_neg (by decide), if_neg (by decide), if_pos rfl]
theorem enFld_6 (f : Fld) : enFld 6 f = enText (enMk f.mar) := by unfold enFld; rw [if_neg (by decide), if_neg (by decide), if_neg (by decide), if_neg (by decide), if_pos rfl]
/-- What field needs of a message, by its kind. -/
structure FieldOk (m : MsgR) : Prop where
  pre : m.kind = 1 → m.pre.length ≤ 1000 ∧ ∀ x ∈ m.pre, x.size ≤ 131072
  cel : m.kind = 2 → m.cel.length ≤ 1000 ∧ ∀ x ∈ m.cel, okCell x.c
  ids : m.kind = 3 → m.ids.length ≤ 1024 ∧ ∀ x ∈ m.ids, x.size = 32
  obj : m.kind = 4 → m.obj.length ≤ 1000 ∧ ∀ x ∈ m.obj, x.size ≤ 131072
  mar : goodB m.mar.mk_ = true
theorem fieldOk {m : MsgR} (h : goodM m.msg = true) : FieldOk m := by
  obtain ⟨h1, h2, h3, ⟨⟨a1, a2, a3, a4, a5⟩, hk⟩, h5, h6, h7, h8, h9⟩ := goodM_at h
  have hl : m.msg.cel.length = m.cel.length := by simp [MsgR.msg]
  refine ⟨fun e => ⟨?_, fun x hx => ?_⟩, fun e => ⟨?_, fun x hx => ?_⟩, fun e => ⟨?_, fun x hx => ?_⟩, fun e => ⟨?_, fun x hx => h7 x hx⟩, h9⟩
  · have e1 : m.msg.kind = 1 := e
    have : m.msg.pre.length = m.pre.length := rfl
    omega
  · have := pfx_size (h5 x hx)
    omega
  · have e1 : m.msg.kind = 2 := e
    omega
  · exact ok_cell (h6 x.c (List.mem_map.2 ⟨x, hx, rfl⟩))
  · have e1 : m.msg.kind = 3 := e
    have : m.msg.ids.length = m.ids.length := rfl
    omega
  · exact h8.size hx
  · have e1 : m.msg.kind = 4 := e
    have : m.msg.obj.length = m.obj.length := rfl
    omega
set_option maxRecDepth 100000 in
set_option maxHeartbeats 4000000 in
theorem field_any (m : MsgR) (w : World) (h : m.Reads w) (hs : m.Small) (hg : goodM m.msg = true) : Calls Tryz.prog 20 #[aMsg m] w fun e w' => e = .returned (.string (enField m.msg)) ∧ Below w.heap.size w w' := by
  have hok := fieldOk hg
  have hbs : (enField m.msg).size ≤ 2200000 := enField_size hg
  clear hg
  obtain ⟨W1, hW1⟩ : ∃ W1, W1 = w.alloc (.cells #[.int .i64 m.kind, .int .i64 m.src, .int .i64 m.dst, .int .i64 m.ses, .int .i64 m.step, m.pv, m.cv, m.iv, m.ov, m.mar.rv, m.mar.kv, m.mar.bv] 30) := ⟨_, rfl⟩
  have hb1 : Below w.heap.size w W1 := by rw [hW1]; exact (Below.refl _ _).alloc (Nat.le_refl _) _
  have hr := h.later hb1
  obtain ⟨o1, f1, o2, f2, o3, f3, o4, f4, o5, f5, o6, f6, o7, f7, e1, e2, e3, e4, e5, e6, e7⟩ := MsgR.form h
  have k1 : BlkIs W1 w.heap.size 30 #[.int .i64 m.kind, .int .i64 m.src, .int .i64 m.dst, .int .i64 m.ses, .int .i64 m.step, m.pv, m.cv, m.iv, m.ov, m.mar.rv, m.mar.kv, m.mar.bv] := by rw [hW1]; exact BlkIs.new _ _ _
  have HP := Lib.hid (fun (hk : m.kind = 1) (X : LaterOf W1) => texts_any m.pv m.pre X.w (hr.later X.h).1 (hok.pre hk).1 (hok.pre hk).2)
  have HC := Lib.hid (fun (hk : m.kind = 2) (X : LaterOf W1) => cells_any m.cv m.cel X.w (hr.later X.h).2.1 (hok.cel hk).1 (hok.cel hk).2)
  have HI := Lib.hid (fun (hk : m.kind = 3) (X : LaterOf W1) => joined_any m.iv m.ids X.w (hr.later X.h).2.2.1 (by have := (hok.ids hk).1; omega) (hok.ids hk).2)
  have HO := Lib.hid (fun (hk : m.kind = 4) (X : LaterOf W1) => texts_any m.ov m.obj X.w (hr.later X.h).2.2.2.1 (hok.obj hk).1 (hok.obj hk).2)
  have HM := Lib.hid (fun X : LaterOf W1 => Mk.encode_good m.mar X.w (hr.later X.h).2.2.2.2 hs.2.1.2.2.2 hok.mar)
  have HN := Lib.hid (fun (hk : m.kind = 3) => (hok.ids hk).1)
  have e0 : enField m.msg = enFld m.kind ⟨m.pre, m.cel.map (·.c), m.ids, m.obj, m.mar.mk_⟩ := rfl
  have hml : (enMk m.mar.mk_).size ≤ 170000 := by
    have := Mk.pre3_size (Mk.ok_mk hok.mar) m.mar.mk_.tombs.length
    rwa [Mk.pre3_end] at this
  rw [e0] at hbs ⊢
  clear h hs hok e0 hr
  obtain ⟨kind, src, dst, ses, step, pre, cel, ids, obj, mar, pv, cv, iv, ov⟩ := m
  obtain ⟨refs, toks, tombs, rv, tv, bv⟩ := mar
  dsimp only at *
  subst e1 e2 e3 e4 e5 e6 e7
  unfold aMsg aMk at *
  dsimp only at *
  have u0 : ∀ X : LaterOf W1, X.w.cell? ⟨w.heap.size, 0, none⟩ = some (.int .i64 kind) := fun X => (X.blk k1).cell 0
  have u5 : ∀ X : LaterOf W1, X.w.cell? ⟨w.heap.size, 5, none⟩ = some (.slice o1 pre.length f1) := fun X => (X.blk k1).cell 5
  have u6 : ∀ X : LaterOf W1, X.w.cell? ⟨w.heap.size, 6, none⟩ = some (.slice o2 cel.length f2) := fun X => (X.blk k1).cell 6
  have u7 : ∀ X : LaterOf W1, X.w.cell? ⟨w.heap.size, 7, none⟩ = some (.slice o3 ids.length f3) := fun X => (X.blk k1).cell 7
  have u8 : ∀ X : LaterOf W1, X.w.cell? ⟨w.heap.size, 8, none⟩ = some (.slice o4 obj.length f4) := fun X => (X.blk k1).cell 8
  have u9 : ∀ X : LaterOf W1, X.w.cell? ⟨w.heap.size, 9, none⟩ = some (.slice o5 refs.length f5) := fun X => (X.blk k1).cell 9
  have u10 : ∀ X : LaterOf W1, X.w.cell? ⟨w.heap.size, 10, none⟩ = some (.slice o6 toks.length f6) := fun X => (X.blk k1).cell 10
  have u11 : ∀ X : LaterOf W1, X.w.cell? ⟨w.heap.size, 11, none⟩ = some (.slice o7 tombs.length f7) := fun X => (X.blk k1).cell 11
  have HB := Lib.hid (fun X : LaterOf W1 => hb1.trans (X.h.mono hb1.size))
  have HW := Lib.hid hW1
  clear hb1 hW1 k1
  by_cases k1 : kind = 1
  · have HF := Lib.hid (HP.out k1)
    clear HP HC HI HO
    subst k1
    rw [enFld_1] at hbs ⊢
    dsimp only at hbs ⊢
    obtain ⟨T, hT⟩ : ∃ T, T = enMany enText pre := ⟨_, rfl⟩
    rw [← hT] at HF hbs ⊢
    obtain ⟨n1, hn1⟩ : ∃ n, n = pre.length := ⟨_, rfl⟩
    obtain ⟨n2, hn2⟩ : ∃ n, n = cel.length := ⟨_, rfl⟩
    obtain ⟨n3, hn3⟩ : ∃ n, n = ids.length := ⟨_, rfl⟩
    obtain ⟨n4, hn4⟩ : ∃ n, n = obj.length := ⟨_, rfl⟩
    obtain ⟨n5, hn5⟩ : ∃ n, n = refs.length := ⟨_, rfl⟩
    obtain ⟨n6, hn6⟩ : ∃ n, n = toks.length := ⟨_, rfl⟩
    obtain ⟨n7, hn7⟩ : ∃ n, n = tombs.length := ⟨_, rfl⟩
    rw [← hn1] at u5 HF HW ⊢
    rw [← hn2] at u6 HW ⊢
    rw [← hn3] at u7 HW ⊢
    rw [← hn4] at u8 HW ⊢
    rw [← hn5] at u9 HW ⊢
    rw [← hn6] at u10 HW ⊢
    rw [← hn7] at u11 HW ⊢
    clear hT hbs hml hn1 hn2 hn3 hn4 hn5 hn6 hn7 HM HN
    go_enter Tryz.func20, Tryz.ntmps20
    go_upto_region 1 with (fail)
    rw [← HW.out]
    obtain ⟨X, hX⟩ := later_at W1
    rw [hX]
    clear hX HW
    go_wp2_with fail
    refine (LaterOf.call X (HF.out X)).mono ?_
    rintro e _ ⟨rfl, X, rfl⟩
    go_wp2_with fail
    go_ret
    exact ⟨rfl, HB.out X⟩
  by_cases k2 : kind = 2
  · have HF := Lib.hid (HC.out k2)
    clear HP HC HI HO
    subst k2
    rw [enFld_2] at hbs ⊢
    dsimp only at hbs ⊢
    obtain ⟨T, hT⟩ : ∃ T, T = enMany enCell (cel.map (·.c)) := ⟨_, rfl⟩
    rw [← hT] at HF hbs ⊢
    obtain ⟨n1, hn1⟩ : ∃ n, n = pre.length := ⟨_, rfl⟩
    obtain ⟨n2, hn2⟩ : ∃ n, n = cel.length := ⟨_, rfl⟩
    obtain ⟨n3, hn3⟩ : ∃ n, n = ids.length := ⟨_, rfl⟩
    obtain ⟨n4, hn4⟩ : ∃ n, n = obj.length := ⟨_, rfl⟩
    obtain ⟨n5, hn5⟩ : ∃ n, n = refs.length := ⟨_, rfl⟩
    obtain ⟨n6, hn6⟩ : ∃ n, n = toks.length := ⟨_, rfl⟩
    obtain ⟨n7, hn7⟩ : ∃ n, n = tombs.length := ⟨_, rfl⟩
    rw [← hn1] at u5 HW ⊢
    rw [← hn2] at u6 HF HW ⊢
    rw [← hn3] at u7 HW ⊢
    rw [← hn4] at u8 HW ⊢
    rw [← hn5] at u9 HW ⊢
    rw [← hn6] at u10 HW ⊢
    rw [← hn7] at u11 HW ⊢
    clear hT hbs hml hn1 hn2 hn3 hn4 hn5 hn6 hn7 HM HN
    go_enter Tryz.func20, Tryz.ntmps20
    go_upto_region 1 with (fail)
    rw [← HW.out]
    obtain ⟨X, hX⟩ := later_at W1
    rw [hX]
    clear hX HW
    go_wp2_with fail
    refine (LaterOf.call X (HF.out X)).mono ?_
    rintro e _ ⟨rfl, X, rfl⟩
    go_wp2_with fail
    go_ret
    exact ⟨rfl, HB.out X⟩
  by_cases k3 : kind = 3
  · have HF := Lib.hid (HI.out k3)
    have HN := Lib.hid (HN.out k3)
    clear HP HC HI HO HM
    subst k3
    rw [enFld_3] at hbs ⊢
    dsimp only at hbs ⊢
    have hem : enMany idB ids = enNum ids.length ++ enAll idB ids := rfl
    rw [hem] at hbs ⊢
    rw [ByteArray.size_append, enNum_size] at hbs
    have T1 := num_any (ids.length : Int) ⟨by omega, by have := HN.out; omega⟩
    obtain ⟨T, hT⟩ : ∃ T, T = enAll idB ids := ⟨_, rfl⟩
    rw [← hT] at HF hbs ⊢
    obtain ⟨n1, hn1⟩ : ∃ n, n = pre.length := ⟨_, rfl⟩
    obtain ⟨n2, hn2⟩ : ∃ n, n = cel.length := ⟨_, rfl⟩
    obtain ⟨n3, hn3⟩ : ∃ n, n = ids.length := ⟨_, rfl⟩
    obtain ⟨n4, hn4⟩ : ∃ n, n = obj.length := ⟨_, rfl⟩
    obtain ⟨n5, hn5⟩ : ∃ n, n = refs.length := ⟨_, rfl⟩
    obtain ⟨n6, hn6⟩ : ∃ n, n = toks.length := ⟨_, rfl⟩
    obtain ⟨n7, hn7⟩ : ∃ n, n = tombs.length := ⟨_, rfl⟩
    rw [← hn1] at u5 HW ⊢
    rw [← hn2] at u6 HW ⊢
    rw [← hn3] at u7 HF T1 HW ⊢
    rw [← hn4] at u8 HW ⊢
    rw [← hn5] at u9 HW ⊢
    rw [← hn6] at u10 HW ⊢
    rw [← hn7] at u11 HW ⊢
    obtain ⟨N, hN⟩ : ∃ N, N = enNum (n3 : Int) := ⟨_, rfl⟩
    have hN4 : N.size = 4 := by rw [hN]; exact enNum_size _
    rw [← hN] at T1 ⊢
    have T1 := Lib.hid T1
    have hcat : ¬ (9223372036854775807 < N.size + T.size) := by omega
    clear hT hbs hml hn1 hn2 hn3 hn4 hn5 hn6 hn7 hem hN hN4 HN
    go_enter Tryz.func20, Tryz.ntmps20
    go_upto_region 1 with (fail)
    rw [← HW.out]
    obtain ⟨X, hX⟩ := later_at W1
    rw [hX]
    clear hX HW
    go_wp2_with fail
    refine wp_region_all (fun w' => ∃ x : LaterOf W1, w' = x.w) (by kernel_rfl) (by kernel_rfl) (X.drawn1) ?_
    repeat (go_big_quiet_step (first | with_reducible exact LaterOf.call _ (T1.out _) | with_reducible exact LaterOf.call _ (HF.out _)))
    refine wpQuiet_nil ?_
    intro w4 hw4
    obtain ⟨X, rfl⟩ := hw4
    go_wp2_with fail
    go_ret
    exact ⟨rfl, HB.out X⟩
  by_cases k4 : kind = 4
  · have HF := Lib.hid (HO.out k4)
    clear HP HC HI HO
    subst k4
    rw [enFld_4] at hbs ⊢
    dsimp only at hbs ⊢
    obtain ⟨T, hT⟩ : ∃ T, T = enMany enText obj := ⟨_, rfl⟩
    rw [← hT] at HF hbs ⊢
    obtain ⟨n1, hn1⟩ : ∃ n, n = pre.length := ⟨_, rfl⟩
    obtain ⟨n2, hn2⟩ : ∃ n, n = cel.length := ⟨_, rfl⟩
    obtain ⟨n3, hn3⟩ : ∃ n, n = ids.length := ⟨_, rfl⟩
    obtain ⟨n4, hn4⟩ : ∃ n, n = obj.length := ⟨_, rfl⟩
    obtain ⟨n5, hn5⟩ : ∃ n, n = refs.length := ⟨_, rfl⟩
    obtain ⟨n6, hn6⟩ : ∃ n, n = toks.length := ⟨_, rfl⟩
    obtain ⟨n7, hn7⟩ : ∃ n, n = tombs.length := ⟨_, rfl⟩
    rw [← hn1] at u5 HW ⊢
    rw [← hn2] at u6 HW ⊢
    rw [← hn3] at u7 HW ⊢
    rw [← hn4] at u8 HF HW ⊢
    rw [← hn5] at u9 HW ⊢
    rw [← hn6] at u10 HW ⊢
    rw [← hn7] at u11 HW ⊢
    clear hT hbs hml hn1 hn2 hn3 hn4 hn5 hn6 hn7 HM HN
    go_enter Tryz.func20, Tryz.ntmps20
    go_upto_region 1 with (fail)
    rw [← HW.out]
    obtain ⟨X, hX⟩ := later_at W1
    rw [hX]
    clear hX HW
    go_wp2_with fail
    refine (LaterOf.call X (HF.out X)).mono ?_
    rintro e _ ⟨rfl, X, rfl⟩
    go_wp2_with fail
    go_ret
    exact ⟨rfl, HB.out X⟩
  by_cases k6 : kind = 6
  · clear HP HC HI HO HN
    have HF := Lib.hid HM.out
    clear HM
    subst k6
    rw [enFld_6] at hbs ⊢
    dsimp only at hbs ⊢
    obtain ⟨S, hS⟩ : ∃ S, S = enMk (MkR.mk_ ⟨refs, toks, tombs, .slice o5 refs.length f5, .slice o6 toks.length f6, .slice o7 tombs.length f7⟩) := ⟨_, rfl⟩
    rw [← hS] at HF hbs hml ⊢
    have T1 := text_any S (by omega)
    obtain ⟨T, hT⟩ : ∃ T, T = enText S := ⟨_, rfl⟩
    rw [← hT] at T1 ⊢
    have T1 := Lib.hid T1
    obtain ⟨n1, hn1⟩ : ∃ n, n = pre.length := ⟨_, rfl⟩
    obtain ⟨n2, hn2⟩ : ∃ n, n = cel.length := ⟨_, rfl⟩
    obtain ⟨n3, hn3⟩ : ∃ n, n = ids.length := ⟨_, rfl⟩
    obtain ⟨n4, hn4⟩ : ∃ n, n = obj.length := ⟨_, rfl⟩
    obtain ⟨n5, hn5⟩ : ∃ n, n = refs.length := ⟨_, rfl⟩
    obtain ⟨n6, hn6⟩ : ∃ n, n = toks.length := ⟨_, rfl⟩
    obtain ⟨n7, hn7⟩ : ∃ n, n = tombs.length := ⟨_, rfl⟩
    rw [← hn1] at u5 HW ⊢
    rw [← hn2] at u6 HW ⊢
    rw [← hn3] at u7 HW ⊢
    rw [← hn4] at u8 HW ⊢
    rw [← hn5] at u9 HF HW ⊢
    rw [← hn6] at u10 HF HW ⊢
    rw [← hn7] at u11 HF HW ⊢
    clear hT hS hbs hml hn1 hn2 hn3 hn4 hn5 hn6 hn7
    go_enter Tryz.func20, Tryz.ntmps20
    go_upto_region 1 with (fail)
    rw [← HW.out]
    obtain ⟨X, hX⟩ := later_at W1
    rw [hX]
    clear hX HW
    go_wp2_with fail
    refine (LaterOf.call X (HF.out X)).mono ?_
    rintro e _ ⟨rfl, X, rfl⟩
    go_wp2_with fail
    refine (LaterOf.call X (T1.out X.w)).mono ?_
    rintro e _ ⟨rfl, X, rfl⟩
    go_wp2_with fail
    go_ret
    exact ⟨rfl, HB.out X⟩
  have hno : enFld kind ⟨pre, cel.map (·.c), ids, obj, MkR.mk_ ⟨refs, toks, tombs, .slice o5 refs.length f5, .slice o6 toks.length f6, .slice o7 tombs.length f7⟩⟩ = ⟨#[]⟩ := enFld_no kind (by omega) _
  rw [hno]
  obtain ⟨n1, hn1⟩ : ∃ n, n = pre.length := ⟨_, rfl⟩
  obtain ⟨n2, hn2⟩ : ∃ n, n = cel.length := ⟨_, rfl⟩
  obtain ⟨n3, hn3⟩ : ∃ n, n = ids.length := ⟨_, rfl⟩
  obtain ⟨n4, hn4⟩ : ∃ n, n = obj.length := ⟨_, rfl⟩
  obtain ⟨n5, hn5⟩ : ∃ n, n = refs.length := ⟨_, rfl⟩
  obtain ⟨n6, hn6⟩ : ∃ n, n = toks.length := ⟨_, rfl⟩
  obtain ⟨n7, hn7⟩ : ∃ n, n = tombs.length := ⟨_, rfl⟩
  rw [← hn1] at u5 HW ⊢
  rw [← hn2] at u6 HW ⊢
  rw [← hn3] at u7 HW ⊢
  rw [← hn4] at u8 HW ⊢
  rw [← hn5] at u9 HW ⊢
  rw [← hn6] at u10 HW ⊢
  rw [← hn7] at u11 HW ⊢
  have q1 : (kind == 1) = false := by simpa using k1
  have q2 : (kind == 2) = false := by simpa using k2
  have q3 : (kind == 3) = false := by simpa using k3
  have q4 : (kind == 4) = false := by simpa using k4
  have q6 : (kind == 6) = false := by simpa using k6
  clear hno hbs hml hn1 hn2 hn3 hn4 hn5 hn6 hn7 k1 k2 k3 k4 k6 HP HC HI HO HM HN
  go_enter Tryz.func20, Tryz.ntmps20
  go_upto_region 1 with (fail)
  rw [← HW.out]
  obtain ⟨X, hX⟩ := later_at W1
  rw [hX]
  clear hX HW
  go_wp2_with fail
  go_ret
  exact ⟨rfl, HB.out X⟩
end Go.Proofs.YtljenganlknhbaaGreat.Fr

