/- object.entries and object.parents, walked: what they read, as plain functions of the bytes ahead. Condition: the Reader's own block. -/
import Derived.Test.YtmdchfmcghiaeaaTree
import Derived.Test.YtmdchfmcghiaeaaOctet1
namespace Go.Proofs.Ytmdchfmcghiaeaa.Obj
open Go.RowKit
open Oct (Rd takeR textR val Moved)
/-- The first byte of what was taken, or none. -/
def kindOf (k : ByteArray) : Int := if h : 0 < k.size then ((k[0]'h).toNat : Int) else 0
/-- One entry as the Reader hands it out: kind, name, id; and the Reader behind it. -/
def takeK (s : ByteArray × Bool) : ByteArray × ByteArray × Bool := takeR s.1 s.2 1
def takeN (s : ByteArray × Bool) : ByteArray × ByteArray × Bool := textR (takeK s).2.1 (takeK s).2.2 255
def takeI (s : ByteArray × Bool) : ByteArray × ByteArray × Bool := takeR (takeN s).2.1 (takeN s).2.2 32
def entS (s : ByteArray × Bool) : Nat → ByteArray × Bool
  | 0 => s
  | k + 1 => (takeI (entS s k)).2
def entN (s : ByteArray × Bool) (k : Nat) : ByteArray := (takeN (entS s k)).1
def entK (s : ByteArray × Bool) (k : Nat) : Int := kindOf (takeK (entS s k)).1
def entI (s : ByteArray × Bool) (k : Nat) : ByteArray := (takeI (entS s k)).1
theorem takeR_bad (r : ByteArray) (n : Int) : takeR r true n = (⟨#[]⟩, ⟨#[]⟩, true) := if_neg (by simp)
theorem textR_bad (r : ByteArray) (n : Int) : (textR r true n).2.2 = true := by
  unfold textR
  rw [takeR_bad]
  split
  · rfl
  · rw [takeR_bad]
theorem entS_bad (s : ByteArray × Bool) (k : Nat) (h : (entS s k).2 = true) : ∀ d, (entS s (k + d)).2 = true
  | 0 => h
  | d + 1 => by
    have ih := entS_bad s k h d
    show (takeI (entS s (k + d))).2.2 = true
    have hk : (takeK (entS s (k + d))).2.2 = true := by unfold takeK; rw [ih, takeR_bad]
    have hn : (takeN (entS s (k + d))).2.2 = true := by unfold takeN; rw [hk]; exact textR_bad _ _
    unfold takeI
    rw [hn, takeR_bad]
/-- The Reader behind all entries: n of them, or bad where there are too many. -/
def entsEnd (s : ByteArray × Bool) (n : Nat) : ByteArray × Bool := if 256 < n then (⟨#[]⟩, true) else entS s n
/-- The first n entries as cells. -/
def ecells (nm : Nat → ByteArray) (kd : Nat → Int) (id : Nat → ByteArray) : Nat → List Value
  | 0 => []
  | k + 1 => ecells nm kd id k ++ [.string (nm k), .int .i64 (kd k), .string (id k)]
theorem ecells_length (nm : Nat → ByteArray) (kd : Nat → Int) (id : Nat → ByteArray) : ∀ n, (ecells nm kd id n).length = n * 3
  | 0 => rfl
  | k + 1 => by rw [ecells, List.length_append, ecells_length nm kd id k]; simp; omega
theorem ecells_get (nm : Nat → ByteArray) (kd : Nat → Int) (id : Nat → ByteArray) : ∀ n i, i < n → (ecells nm kd id n)[i * 3]? = some (.string (nm i)) ∧ (ecells nm kd id n)[i * 3 + 1]? = some (.int .i64 (kd i)) ∧ (ecells nm kd id n)[i * 3 + 2]? = some (.string (id i))
  | k + 1, i, h => by
    rw [ecells]
    have hl := ecells_length nm kd id k
    rcases Nat.lt_or_ge i k with h' | h'
    · rw [List.getElem?_append_left (by omega), List.getElem?_append_left (by omega), List.getElem?_append_left (by omega)]
      exact ecells_get nm kd id k i h'
    · obtain rfl : i = k := by omega
      rw [List.getElem?_append_right (by omega), List.getElem?_append_right (by omega), List.getElem?_append_right (by omega), hl]
      simp [show i * 3 + 1 - i * 3 = 1 by omega, show i * 3 + 2 - i * 3 = 2 by omega]
theorem EntsAt.own {w : World} {base n : Nat} {e : TypeId} {v : Value} {nm : Nat → ByteArray} {kd : Nat → Int} {id : Nat → ByteArray} (h : SlIs w base e 3 v n (ecells nm kd id n)) : ∃ ao cap, v = .slice ao n cap ∧ EntsAt w ao n nm kd id := by
  obtain ⟨ao, cap, rfl, h1, h2, h3⟩ := h.form
  refine ⟨ao, cap, rfl, by unfold maxLen at h2; omega, fun hn => ?_⟩
  obtain ⟨g, off, cap', hv, hg, hlt, _, _, hc, _⟩ := h.at_ hn
  obtain ⟨rfl, _, _⟩ : ao = some ⟨g, off, none⟩ ∧ n = n ∧ cap = cap' := by simpa using hv
  refine ⟨g, off, rfl, hlt, fun i hi => ?_⟩
  have hl := ecells_length nm kd id n
  obtain ⟨e0, e1, e2⟩ := ecells_get nm kd id n i hi
  refine ⟨by rw [hc (i * 3) (by omega)]; exact e0, ?_, ?_⟩
  · rw [show off + i * 3 + 1 = off + (i * 3 + 1) by omega, hc (i * 3 + 1) (by omega)]; exact e1
  · rw [show off + i * 3 + 2 = off + (i * 3 + 2) by omega, hc (i * 3 + 2) (by omega)]; exact e2
theorem takeR1_cases (r : ByteArray) (b : Bool) : (takeR r b 1).1 = ⟨#[]⟩ ∨ ∃ x, (takeR r b 1).1 = ⟨#[x]⟩ := by
  unfold takeR
  split
  · next h =>
    right
    have hl : (r.extract 0 (1 : Int).toNat).data.toList.length = 1 := by
      have := h.2.2
      show (r.extract 0 1).size = 1
      rw [ByteArray.size_extract]; omega
    match hq : (r.extract 0 (1 : Int).toNat).data.toList with
    | [x] => exact ⟨x, by apply ByteArray.ext; apply Array.ext'; exact hq⟩
    | [] => rw [hq] at hl; cases hl
    | _ :: _ :: _ => rw [hq] at hl; simp at hl
  · exact Or.inl rfl
theorem el_ent : ElemOk Try.prog 32 55 3 40 := ElemOk.mk' (z := .agg #[.string ⟨#[]⟩, .int .i64 0, .string ⟨#[]⟩]) Try.underlying32 (by kernel_rfl) rfl
theorem _root_.Go.Proofs.Ytmdchfmcghiaeaa.Oct.Moved.fresh {g : Nat} {a w : World} (h : Moved g a w) {p : Addr} (hp : a.heap.size ≤ p.block) (u : Value) : Moved g a (w.setCell p u) :=
  ⟨h.os, h.tape, h.output, by rw [World.size_setCell]; exact h.size, fun k hk hne => (Below.heap_setCell w p u k (fun e => by omega)).trans (h.block k hk hne)⟩
theorem _root_.Go.Proofs.Ytmdchfmcghiaeaa.BlkIs.newAt {w : World} {g : Nat} (hg : g = w.heap.size) (t : TypeId) (cs : Array Value) : BlkIs (w.alloc (.cells cs t)) g t cs := by rw [hg]; exact BlkIs.new w t cs
theorem _root_.Go.Proofs.Ytmdchfmcghiaeaa.Oct.Moved.row {g : Nat} {a w w' : World} {row : Option Nat} (h : Moved g a w) (hg : w.grownBy w' row) (hr : ∀ k, row = some k → a.heap.size ≤ k) : Moved g a w' :=
  ⟨hg.os.trans h.os, hg.tape.trans h.tape, hg.output.trans h.output, Nat.le_trans h.size hg.size, fun k hk hne => (hg.block k (Nat.lt_of_lt_of_le hk h.size) (fun e => by have := hr k e.symm; omega)).trans (h.block k hk hne)⟩
/-- What entries leaves: its slice, the Reader behind it. -/
def EntsOut (w w' : World) (g : Nat) (s : ByteArray × Bool) (n : Nat) (v : Value) : Prop :=
  ∃ ao m cap r', v = .slice ao m cap ∧ Rd w' g r' (entsEnd s n).2 ∧ Moved g w w' ∧
    ((entsEnd s n).2 = false → r' = (entsEnd s n).1 ∧ n ≤ 256 ∧ SlIs w' w.heap.size 55 3 v n (ecells (entN s) (entK s) (entI s) n))
set_option maxRecDepth 100000 in
set_option maxHeartbeats 1000000 in
theorem entries_any (g : Nat) (r : ByteArray) (b : Bool) (w : World) (h : Rd w g r b) :
    Calls Try.prog 45 #[.pointer (some ⟨g, 0, none⟩)] w fun e w' => ∃ v, e = .returned v ∧ EntsOut w w' g (takeR r b 4).2 (val (takeR r b 4).1.data.toList) v := by
  have Hn := Lib.hid (Oct.rd_num g r b w h)
  have hv := Oct.val_takeR r b
  have hgw := h.lt
  clear h
  generalize takeR r b 4 = q at *
  obtain ⟨t, s⟩ := q
  simp only at Hn hv ⊢
  generalize val t.data.toList = n at *
  have Hv := Lib.hid hv
  clear hv
  go_enter Try.func45, Try.ntmps45
  go_wp2_with fail
  refine Hn.out.mono ?_
  rintro e w1 ⟨rfl, h1, hb1⟩
  have H1 := Lib.hid (And.intro h1 hb1)
  clear h1 hb1 Hn
  by_cases h256 : 256 < n
  case pos =>
    have hE : entsEnd s n = (⟨#[]⟩, true) := if_pos h256
    have HE := Lib.hid hE
    have hi : 256 < (n : Int) := by omega
    have hi0 : 0 < (n : Int) := by omega
    clear hE h256
    go_wp2_with fail
    refine (Oct.rd_spoil g _ _ w1 H1.out.1).mono ?_
    rintro e w2 ⟨rfl, h2, hb2⟩
    have H2 := Lib.hid (And.intro h2 (H1.out.2.trans hb2))
    clear h2 hb2 hi
    go_wp2_with fail
    go_loopw [4, 14] (fun o i wr => o = .slice none 0 0 ∧ i = .int .u32 0 ∧ wr = w2) (fun _ _ _ => 0)
    case atStart => exact ⟨rfl, rfl, rfl⟩
    case round =>
      obtain ⟨rfl, rfl, rfl⟩ := hrel
      go_wp2_with fail
      refine (Oct.rd_bad g _ _ _ H2.out.1).mono ?_
      rintro e w3 ⟨rfl, rfl⟩
      go_wp2_with fail
      go_ret
      refine ⟨_, rfl, none, 0, 0, ⟨#[]⟩, rfl, ?_, H2.out.2, ?_⟩
      · rw [HE.out]; exact H2.out.1
      · rw [HE.out]; intro hf; cases hf
  case neg =>
    have hn : n ≤ 256 := by omega
    have hE : entsEnd s n = entS s n := if_neg h256
    have HE := Lib.hid hE
    have hi : decide (256 < (n : Int)) = false := decide_eq_false (by omega)
    clear hE h256
    go_wp2_with fail
    clear hi
    go_loopw [4, 14] (fun o i wr => ∃ k : Nat, i = .int .u32 (k : Int) ∧ k ≤ n ∧ SlIs wr w.heap.size 55 3 o k (ecells (entN s) (entK s) (entI s) k) ∧ Rd wr g (entS s k).1 (entS s k).2 ∧ Moved g w wr) (fun _ i _ => ((n : Int) - intOf i).toNat)
    case atStart => exact ⟨0, rfl, by omega, SlIs.nil_ _ _ _ _, H1.out.1, H1.out.2⟩
    case round =>
      obtain ⟨k, rfl, hk, hs, hr, hm⟩ := hrel
      obtain ⟨ao1, cap1, rfl, hnc1, hcm1, hao1⟩ := hs.form
      have H := Lib.hid (And.intro hs (And.intro hr hm))
      clear hs hr hm
      rcases Nat.lt_or_ge k n with hk1 | hk1
      case inr =>
        obtain rfl : k = n := by omega
        have ki : (k : Int) ≤ (k : Int) := by omega
        go_wp2_with fail
        go_ret
        exact ⟨_, rfl, _, _, _, (entS s k).1, rfl, by rw [HE.out]; exact H.out.2.1, H.out.2.2, fun _ => ⟨by rw [HE.out], hn, H.out.1⟩⟩
      case inl =>
        have ki : (k : Int) < n := by omega
        have hbad := entS_bad s k
        cases hbk : (entS s k).2
        case true =>
          have hb2 := hbad hbk (n - k)
          rw [show k + (n - k) = n by omega] at hb2
          have Hb2 := Lib.hid hb2
          clear hbad hb2
          go_wp2_with fail
          refine (Oct.rd_bad g _ _ _ H.out.2.1).mono ?_
          rintro e w3 ⟨rfl, rfl⟩
          rw [hbk]
          go_wp2_with fail
          go_ret
          refine ⟨_, rfl, none, 0, 0, (entS s k).1, rfl, ?_, H.out.2.2, ?_⟩
          · rw [HE.out, Hb2.out, ← hbk]; exact H.out.2.1
          · rw [HE.out, Hb2.out]; intro hf; cases hf
        case false =>
          clear hbad
          go_wp2_with fail
          refine (Oct.rd_bad g _ _ _ H.out.2.1).mono ?_
          rintro e w3 ⟨rfl, rfl⟩
          rw [hbk]
          go_wp2_with fail
          have hbw := H.out.2.2.size
          have e0 := BlkIs.new wr 55 #[.string ⟨#[]⟩, .int .i64 0, .string ⟨#[]⟩]
          have r0 : Rd (wr.alloc (.cells #[.string ⟨#[]⟩, .int .i64 0, .string ⟨#[]⟩] 55)) g (entS s k).1 (entS s k).2 := BlkIs.alloc H.out.2.1 _
          refine (Oct.rd_take g _ _ 1 _ r0).mono ?_
          rintro e w4 ⟨rfl, h4, hm4⟩
          have hne : wr.heap.size ≠ g := by have := H.out.2.1.lt; omega
          have e4 := hm4.blk e0 hne
          have M4 := (H.out.2.2.alloc _).trans hm4
          have s4 := hm4.sl (H.out.1.alloc (.cells #[.string ⟨#[]⟩, .int .i64 0, .string ⟨#[]⟩] 55)) hgw
          change Rd w4 g (takeK (entS s k)).2.1 (takeK (entS s k)).2.2 at h4
          have hkk : entK s k = kindOf (takeK (entS s k)).1 := rfl
          have hcase := takeR1_cases (entS s k).1 (entS s k).2
          change (takeK (entS s k)).1 = _ ∨ ∃ x, (takeK (entS s k)).1 = _ at hcase
          rw [show takeR (entS s k).1 (entS s k).2 1 = takeK (entS s k) from rfl]
          have H4 := Lib.hid (And.intro e4 (And.intro h4 (And.intro M4 s4)))
          have Hkk := Lib.hid hkk
          clear e0 r0 hm4 e4 h4 M4 s4 hkk
          generalize (takeK (entS s k)).1 = tk at *
          have hz4 : wr.heap.size < w4.heap.size := H4.out.1.lt
          have hown : Value.ownBlock (.slice ao1 k cap1) ≠ some wr.heap.size := fun hh => by have := (H.out.1.lt _ hh).2; omega
          have f4 := H4.out.1.free 1
          have c4 : w4.cell? ⟨wr.heap.size, 1, none⟩ = some (.int .i64 0) := H4.out.1.cell 1
          rcases hcase with rfl | ⟨x, rfl⟩
          · have hkz : entK s k = 0 := Hkk.out
            go_wp2_with fail
            refine (Oct.rd_text g _ _ 255 _ H4.out.2.1).mono ?_
            rintro e w6 ⟨rfl, h6, hm6⟩
            have e6 := hm6.blk H4.out.1 hne
            have M6 := H4.out.2.2.1.trans hm6
            have s6 := hm6.sl H4.out.2.2.2 hgw
            change Rd w6 g (takeN (entS s k)).2.1 (takeN (entS s k)).2.2 at h6
            rw [show textR (takeK (entS s k)).2.1 (takeK (entS s k)).2.2 255 = takeN (entS s k) from rfl]
            have f6 := e6.free 0
            have e7 := e6.put 0 (.string (entN s k))
            have h7 : Rd (w6.setCell ⟨wr.heap.size, 0, none⟩ (.string (entN s k))) g _ _ := BlkIs.far h6 (p := ⟨wr.heap.size, 0, none⟩) hne.symm (.string (entN s k))
            have M7 := M6.fresh (p := ⟨wr.heap.size, 0, none⟩) hbw (.string (entN s k))
            have s7 := s6.far (p := ⟨wr.heap.size, 0, none⟩) hown (.string (entN s k))
            simp only [List.setIfInBounds_toArray, List.set_cons_zero] at e7
            have H7 := Lib.hid (And.intro e7 (And.intro h7 (And.intro M7 s7)))
            have c6 : w6.cell? ⟨wr.heap.size, 0, none⟩ = some (.string ⟨#[]⟩) := e6.cell 0
            clear e6 M6 s6 e7 h7 M7 s7 h6 hm6
            rw [show (takeN (entS s k)).1 = entN s k from rfl]
            go_wp2_with fail
            refine (Oct.rd_take g _ _ 32 _ H7.out.2.1).mono ?_
            rintro e w8 ⟨rfl, h8, hm8⟩
            have e8 := hm8.blk H7.out.1 hne
            have M8 := H7.out.2.2.1.trans hm8
            have s8 := hm8.sl H7.out.2.2.2 hgw
            change Rd w8 g (entS s (k + 1)).1 (entS s (k + 1)).2 at h8
            rw [show (takeR (takeN (entS s k)).2.1 (takeN (entS s k)).2.2 32).1 = entI s k from rfl]
            have f8 := e8.free 2
            have c8 : w8.cell? ⟨wr.heap.size, 2, none⟩ = some (.string ⟨#[]⟩) := e8.cell 2
            have c80 : w8.cell? ⟨wr.heap.size, 0, none⟩ = some (.string (entN s k)) := e8.cell 0
            have c81 : w8.cell? ⟨wr.heap.size, 1, none⟩ = some (.int .i64 0) := e8.cell 1
            have h9 : Rd (w8.setCell ⟨wr.heap.size, 2, none⟩ (.string (entI s k))) g _ _ := BlkIs.far h8 (p := ⟨wr.heap.size, 2, none⟩) hne.symm (.string (entI s k))
            have M9 := M8.fresh (p := ⟨wr.heap.size, 2, none⟩) hbw (.string (entI s k))
            have s9 := s8.far (p := ⟨wr.heap.size, 2, none⟩) hown (.string (entI s k))
            have H9 := Lib.hid (And.intro h9 (And.intro M9 s9))
            have hz8 := e8.lt
            clear e8 M8 s8 h9 M9 s9 h8 hm8 c6 f6
            go_wp2_with (first
              | (at_builtin
                 refine wpList_append_sl rfl _ _ _ 32 rfl el_ent (.slice ao1 k cap1) k (ecells (entN s) (entK s) (entI s) k) rfl (H9.out.2.2.alloc _) _ 1 [.string (entN s k), .int .i64 0, .string (entI s k)] rfl (SrcIs.own Try.underlying32 (SlIs.made (base := 0) (BlkIs.newAt (by simp) _ _) (Nat.zero_le _) rfl (by decide))) (by intro u hu; simp at hu; rcases hu with rfl | rfl | rfl <;> rfl) (by unfold maxLen; omega) (by omega) (by simp only [World.size_alloc, World.size_setCell]; omega) ?_
                 intro v1 w10 hs10 hg10 hat10
                 have H10 := Lib.hid (And.intro hs10 (And.intro hg10 (H9.out.2.2.alloc (.cells #[.string (entN s k), .int .i64 0, .string (entI s k)] 55))))
                 clear hs10 hg10 hat10))
            have hrow : ∀ j, Value.ownBlock (.slice ao1 k cap1) = some j → w.heap.size ≤ j := fun j hj => (H.out.1.lt j hj).1
            refine ⟨⟨k + 1, rfl, hk1, ?_, ?_, ?_⟩, ?_⟩
            · rw [ecells, hkz]; exact H10.out.1
            · refine BlkIs.grown (BlkIs.alloc H9.out.1 _) H10.out.2.1 fun hh => ?_
              have := hrow g hh.symm
              omega
            · exact (H9.out.2.1.alloc _).row H10.out.2.1 hrow
            · simp [intOf]; omega
          · have hxw : wrap64 (((ByteArray.mk #[x])[0]'(Nat.zero_lt_one)).toNat : Int) = (x.toNat : Int) := by
              have hx1 : ((ByteArray.mk #[x])[0]'(Nat.zero_lt_one)) = x := rfl
              have hx2 := x.toNat_lt
              rw [hx1]
              exact Go.IntWalk.wrap64_in _ (by omega)
            have hkz : entK s k = (x.toNat : Int) := Hkk.out
            have e5 := H4.out.1.put 1 (.int .i64 (x.toNat : Int))
            simp only [List.setIfInBounds_toArray, List.set_cons_succ, List.set_cons_zero] at e5
            have h5 : Rd (w4.setCell ⟨wr.heap.size, 1, none⟩ (.int .i64 (x.toNat : Int))) g _ _ := BlkIs.far H4.out.2.1 (p := ⟨wr.heap.size, 1, none⟩) hne.symm (.int .i64 (x.toNat : Int))
            have M5 := H4.out.2.2.1.fresh (p := ⟨wr.heap.size, 1, none⟩) hbw (.int .i64 (x.toNat : Int))
            have s5 := H4.out.2.2.2.far (p := ⟨wr.heap.size, 1, none⟩) hown (.int .i64 (x.toNat : Int))
            have H5 := Lib.hid (And.intro e5 (And.intro h5 (And.intro M5 s5)))
            clear e5 h5 M5 s5
            go_wp2_with fail
            rw [hxw]
            refine (Oct.rd_text g _ _ 255 _ H5.out.2.1).mono ?_
            rintro e w6 ⟨rfl, h6, hm6⟩
            have e6 := hm6.blk H5.out.1 hne
            have M6 := H5.out.2.2.1.trans hm6
            have s6 := hm6.sl H5.out.2.2.2 hgw
            change Rd w6 g (takeN (entS s k)).2.1 (takeN (entS s k)).2.2 at h6
            rw [show textR (takeK (entS s k)).2.1 (takeK (entS s k)).2.2 255 = takeN (entS s k) from rfl]
            have f6 := e6.free 0
            have e7 := e6.put 0 (.string (entN s k))
            have h7 : Rd (w6.setCell ⟨wr.heap.size, 0, none⟩ (.string (entN s k))) g _ _ := BlkIs.far h6 (p := ⟨wr.heap.size, 0, none⟩) hne.symm (.string (entN s k))
            have M7 := M6.fresh (p := ⟨wr.heap.size, 0, none⟩) hbw (.string (entN s k))
            have s7 := s6.far (p := ⟨wr.heap.size, 0, none⟩) hown (.string (entN s k))
            simp only [List.setIfInBounds_toArray, List.set_cons_zero] at e7
            have H7 := Lib.hid (And.intro e7 (And.intro h7 (And.intro M7 s7)))
            have c6 : w6.cell? ⟨wr.heap.size, 0, none⟩ = some (.string ⟨#[]⟩) := e6.cell 0
            clear e6 M6 s6 e7 h7 M7 s7 h6 hm6
            rw [show (takeN (entS s k)).1 = entN s k from rfl]
            go_wp2_with fail
            refine (Oct.rd_take g _ _ 32 _ H7.out.2.1).mono ?_
            rintro e w8 ⟨rfl, h8, hm8⟩
            have e8 := hm8.blk H7.out.1 hne
            have M8 := H7.out.2.2.1.trans hm8
            have s8 := hm8.sl H7.out.2.2.2 hgw
            change Rd w8 g (entS s (k + 1)).1 (entS s (k + 1)).2 at h8
            rw [show (takeR (takeN (entS s k)).2.1 (takeN (entS s k)).2.2 32).1 = entI s k from rfl]
            have f8 := e8.free 2
            have c8 : w8.cell? ⟨wr.heap.size, 2, none⟩ = some (.string ⟨#[]⟩) := e8.cell 2
            have c80 : w8.cell? ⟨wr.heap.size, 0, none⟩ = some (.string (entN s k)) := e8.cell 0
            have c81 : w8.cell? ⟨wr.heap.size, 1, none⟩ = some (.int .i64 (x.toNat : Int)) := e8.cell 1
            have h9 : Rd (w8.setCell ⟨wr.heap.size, 2, none⟩ (.string (entI s k))) g _ _ := BlkIs.far h8 (p := ⟨wr.heap.size, 2, none⟩) hne.symm (.string (entI s k))
            have M9 := M8.fresh (p := ⟨wr.heap.size, 2, none⟩) hbw (.string (entI s k))
            have s9 := s8.far (p := ⟨wr.heap.size, 2, none⟩) hown (.string (entI s k))
            have H9 := Lib.hid (And.intro h9 (And.intro M9 s9))
            have hz8 := e8.lt
            clear e8 M8 s8 h9 M9 s9 h8 hm8 c6 f6
            go_wp2_with (first
              | (at_builtin
                 refine wpList_append_sl rfl _ _ _ 32 rfl el_ent (.slice ao1 k cap1) k (ecells (entN s) (entK s) (entI s) k) rfl (H9.out.2.2.alloc _) _ 1 [.string (entN s k), .int .i64 (x.toNat : Int), .string (entI s k)] rfl (SrcIs.own Try.underlying32 (SlIs.made (base := 0) (BlkIs.newAt (by simp) _ _) (Nat.zero_le _) rfl (by decide))) (by intro u hu; simp at hu; rcases hu with rfl | rfl | rfl <;> rfl) (by unfold maxLen; omega) (by omega) (by simp only [World.size_alloc, World.size_setCell]; omega) ?_
                 intro v1 w10 hs10 hg10 hat10
                 have H10 := Lib.hid (And.intro hs10 (And.intro hg10 (H9.out.2.2.alloc (.cells #[.string (entN s k), .int .i64 (x.toNat : Int), .string (entI s k)] 55))))
                 clear hs10 hg10 hat10))
            have hrow : ∀ j, Value.ownBlock (.slice ao1 k cap1) = some j → w.heap.size ≤ j := fun j hj => (H.out.1.lt j hj).1
            refine ⟨⟨k + 1, rfl, hk1, ?_, ?_, ?_⟩, ?_⟩
            · rw [ecells, hkz]; exact H10.out.1
            · refine BlkIs.grown (BlkIs.alloc H9.out.1 _) H10.out.2.1 fun hh => ?_
              have := hrow g hh.symm
              omega
            · exact (H9.out.2.1.alloc _).row H10.out.2.1 hrow
            · simp [intOf]; omega
/-- The Reader behind k parents, each parent. -/
def parS (s : ByteArray × Bool) : Nat → ByteArray × Bool
  | 0 => s
  | k + 1 => (takeR (parS s k).1 (parS s k).2 32).2
def parT (s : ByteArray × Bool) (k : Nat) : ByteArray := (takeR (parS s k).1 (parS s k).2 32).1
theorem parS_bad (s : ByteArray × Bool) (k : Nat) (h : (parS s k).2 = true) : ∀ d, (parS s (k + d)).2 = true
  | 0 => h
  | d + 1 => by
    have ih := parS_bad s k h d
    show (takeR (parS s (k + d)).1 (parS s (k + d)).2 32).2.2 = true
    rw [ih, takeR_bad]
def parsEnd (s : ByteArray × Bool) (n : Nat) : ByteArray × Bool := if 8 < n then (⟨#[]⟩, true) else parS s n
/-- What parents leaves: its slice, the Reader behind it. -/
def ParsOut (w w' : World) (g : Nat) (s : ByteArray × Bool) (n : Nat) (v : Value) : Prop :=
  ∃ ao m cap r', v = .slice ao m cap ∧ Rd w' g r' (parsEnd s n).2 ∧ Moved g w w' ∧
    ((parsEnd s n).2 = false → r' = (parsEnd s n).1 ∧ n ≤ 8 ∧ SlIs w' w.heap.size 9 1 v n (texts (parT s) n))
set_option maxRecDepth 100000 in
set_option maxHeartbeats 1000000 in
theorem parents_any (g : Nat) (r : ByteArray) (b : Bool) (w : World) (h : Rd w g r b) :
    Calls Try.prog 46 #[.pointer (some ⟨g, 0, none⟩)] w fun e w' => ∃ v, e = .returned v ∧ ParsOut w w' g (takeR r b 4).2 (val (takeR r b 4).1.data.toList) v := by
  have Hn := Lib.hid (Oct.rd_num g r b w h)
  have hv := Oct.val_takeR r b
  have hgw := h.lt
  clear h
  generalize takeR r b 4 = q at *
  obtain ⟨t, s⟩ := q
  simp only at Hn hv ⊢
  generalize val t.data.toList = n at *
  have Hv := Lib.hid hv
  clear hv
  go_enter Try.func46, Try.ntmps46
  go_wp2_with fail
  refine Hn.out.mono ?_
  rintro e w1 ⟨rfl, h1, hb1⟩
  have H1 := Lib.hid (And.intro h1 hb1)
  clear h1 hb1 Hn
  by_cases h256 : 8 < n
  case pos =>
    have hE : parsEnd s n = (⟨#[]⟩, true) := if_pos h256
    have HE := Lib.hid hE
    have hi : 8 < (n : Int) := by omega
    have hi0 : 0 < (n : Int) := by omega
    clear hE h256
    go_wp2_with fail
    refine (Oct.rd_spoil g _ _ w1 H1.out.1).mono ?_
    rintro e w2 ⟨rfl, h2, hb2⟩
    have H2 := Lib.hid (And.intro h2 (H1.out.2.trans hb2))
    clear h2 hb2 hi
    go_wp2_with fail
    go_loopw [4, 12] (fun o i wr => o = .slice none 0 0 ∧ i = .int .u32 0 ∧ wr = w2) (fun _ _ _ => 0)
    case atStart => exact ⟨rfl, rfl, rfl⟩
    case round =>
      obtain ⟨rfl, rfl, rfl⟩ := hrel
      go_wp2_with fail
      refine (Oct.rd_bad g _ _ _ H2.out.1).mono ?_
      rintro e w3 ⟨rfl, rfl⟩
      go_wp2_with fail
      go_ret
      refine ⟨_, rfl, none, 0, 0, ⟨#[]⟩, rfl, ?_, H2.out.2, ?_⟩
      · rw [HE.out]; exact H2.out.1
      · rw [HE.out]; intro hf; cases hf
  case neg =>
    have hn : n ≤ 8 := by omega
    have hE : parsEnd s n = parS s n := if_neg h256
    have HE := Lib.hid hE
    have hi : decide (8 < (n : Int)) = false := decide_eq_false (by omega)
    clear hE h256
    go_wp2_with fail
    clear hi
    go_loopw [4, 12] (fun o i wr => ∃ k : Nat, i = .int .u32 (k : Int) ∧ k ≤ n ∧ SlIs wr w.heap.size 9 1 o k (texts (parT s) k) ∧ Rd wr g (parS s k).1 (parS s k).2 ∧ Moved g w wr) (fun _ i _ => ((n : Int) - intOf i).toNat)
    case atStart => exact ⟨0, rfl, by omega, SlIs.nil_ _ _ _ _, H1.out.1, H1.out.2⟩
    case round =>
      obtain ⟨k, rfl, hk, hs, hr, hm⟩ := hrel
      obtain ⟨ao1, cap1, rfl, hnc1, hcm1, hao1⟩ := hs.form
      have H := Lib.hid (And.intro hs (And.intro hr hm))
      clear hs hr hm
      rcases Nat.lt_or_ge k n with hk1 | hk1
      case inr =>
        obtain rfl : k = n := by omega
        have ki : (k : Int) ≤ (k : Int) := by omega
        go_wp2_with fail
        go_ret
        exact ⟨_, rfl, _, _, _, (parS s k).1, rfl, by rw [HE.out]; exact H.out.2.1, H.out.2.2, fun _ => ⟨by rw [HE.out], hn, H.out.1⟩⟩
      case inl =>
        have ki : (k : Int) < n := by omega
        have hbad := parS_bad s k
        cases hbk : (parS s k).2
        case true =>
          have hb2 := hbad hbk (n - k)
          rw [show k + (n - k) = n by omega] at hb2
          have Hb2 := Lib.hid hb2
          clear hbad hb2
          go_wp2_with fail
          refine (Oct.rd_bad g _ _ _ H.out.2.1).mono ?_
          rintro e w3 ⟨rfl, rfl⟩
          rw [hbk]
          go_wp2_with fail
          go_ret
          refine ⟨_, rfl, none, 0, 0, (parS s k).1, rfl, ?_, H.out.2.2, ?_⟩
          · rw [HE.out, Hb2.out, ← hbk]; exact H.out.2.1
          · rw [HE.out, Hb2.out]; intro hf; cases hf
        case false =>
          clear hbad
          go_wp2_with fail
          refine (Oct.rd_bad g _ _ _ H.out.2.1).mono ?_
          rintro e w3 ⟨rfl, rfl⟩
          rw [hbk]
          go_wp2_with fail
          have hbw := H.out.2.2.size
          refine (Oct.rd_take g _ _ 32 _ H.out.2.1).mono ?_
          rintro e w4 ⟨rfl, h4, hm4⟩
          have M4 := H.out.2.2.trans hm4
          have s4 := hm4.sl H.out.1 hgw
          change Rd w4 g (parS s (k + 1)).1 (parS s (k + 1)).2 at h4
          rw [show (takeR (parS s k).1 (parS s k).2 32).1 = parT s k from rfl]
          have H4 := Lib.hid (And.intro h4 (And.intro M4 s4))
          have hz4 := M4.size
          clear hm4 h4 M4 s4
          go_wp2_with (first
            | (at_builtin
               refine wpList_append_sl rfl _ _ _ 25 rfl el_str (.slice ao1 k cap1) k (texts (parT s) k) rfl (H4.out.2.2.alloc _) _ 1 [.string (parT s k)] rfl (SrcIs.own Try.underlying25 (SlIs.made (base := 0) (BlkIs.newAt (by simp) _ _) (Nat.zero_le _) rfl (by decide))) (by intro u hu; rcases List.mem_singleton.1 hu with rfl; rfl) (by unfold maxLen; omega) (by omega) (by simp only [World.size_alloc]; omega) ?_
               intro v1 w10 hs10 hg10 hat10
               have H10 := Lib.hid (And.intro hs10 hg10)
               clear hs10 hg10 hat10))
          have hrow : ∀ j, Value.ownBlock (.slice ao1 k cap1) = some j → w.heap.size ≤ j := fun j hj => (H.out.1.lt j hj).1
          refine ⟨⟨k + 1, rfl, hk1, ?_, ?_, ?_⟩, ?_⟩
          · rw [texts]; exact H10.out.1
          · refine BlkIs.grown (BlkIs.alloc H4.out.1 _) H10.out.2 fun hh => ?_
            have := hrow g hh.symm
            omega
          · exact (H4.out.2.1.alloc _).row H10.out.2 hrow
          · simp [intOf]; omega
end Go.Proofs.Ytmdchfmcghiaeaa.Obj
