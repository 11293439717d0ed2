/- frame.Decode, walked. Printed by gen_frd2.py. Conditions: at most 2^30 bytes. (Layer 19.) -/
import Derived.Test.YtljenganlknhbaaGreatFrD0
import Derived.Test.YtljenganlknhbaaGreatPkI
import Derived.Deep.RegionHeld
import Derived.Deep.CutRange
import Derived.Deep.CutBlock
namespace Go.Proofs.YtljenganlknhbaaGreat.Fr
set_option linter.unusedVariables false
set_option linter.unusedSimpArgs false
open Go.RowKit Oct
open Set (StrAt scells)
open Tr (Cp)
open Mk (OneOk moved_row rList_snoc rNum_val rNum_lt MkR aMk)
theorem num_call (g : Nat) (s s' : RS) (x : Int) (hq : rNum s = (x, s')) (W : World) (h : Rd W g s.1 s.2) : Calls Tryz.prog 41 #[.pointer (some ⟨g, 0, none⟩)] W fun e w' => e = .returned (.int .u32 x) ∧ Rd w' g s'.1 s'.2 ∧ Moved g W w' := by
  have := rd_num g s.1 s.2 W h
  rwa [rNum_val s, show (takeR s.1 s.2 4).2 = (rNum s).2 from rfl, hq] at this
theorem ds_num {w : World} {g P : Nat} {s s' : RS} {x : Int} (hq : rNum s = (x, s')) (W : World) (h : DS w g P s W) : Calls Tryz.prog 41 #[.pointer (some ⟨g, 0, none⟩)] W fun e w' => e = .returned (.int .u32 x) ∧ DS w g P s' w' :=
  (num_call g s s' x hq W h.2.2.1).mono fun e w' ⟨h1, h2, h3⟩ => ⟨h1, h.call h2 h3⟩
theorem dm_num {w : World} {g P M : Nat} {cs : Array Value} {s s' : RS} {x : Int} (hq : rNum s = (x, s')) (W : World) (h : DM w g P M s cs W) : Calls Tryz.prog 41 #[.pointer (some ⟨g, 0, none⟩)] W fun e w' => e = .returned (.int .u32 x) ∧ DM w g P M s' cs w' ∧ Moved g W w' :=
  (num_call g s s' x hq W h.1.2.2.1).mono fun e w' ⟨h1, h2, h3⟩ => ⟨h1, h.call h2 h3, h3⟩
theorem head8 {s : ByteArray} {s1 : RS} {r : ByteArray} {n c : Int} (h1 : rNum (s, false) = (n, s1)) (h2 : rNum s1 = (c, (r, false))) : 8 ≤ s.size ∧ s.extract 8 s.size = r := by
  obtain ⟨a1, a2, a3⟩ := codec_num.back s1 (by rw [h2])
  rw [h2] at a3
  obtain ⟨b1, b2, b3⟩ := codec_num.back (s, false) (by rw [h1]; exact a1)
  rw [h1] at b3
  simp only at a3 b3
  have e : s = (enNum n ++ enNum c) ++ r := by rw [b3, a3, ByteArray.append_assoc]
  have hz : (enNum n ++ enNum c).size = 8 := by rw [ByteArray.size_append, Mk.enNum_size, Mk.enNum_size]
  have hs : s.size = 8 + r.size := by
    have := congrArg ByteArray.size e
    rw [ByteArray.size_append, hz] at this
    exact this
  refine ⟨by omega, ?_⟩
  have h3 : ((enNum n ++ enNum c) ++ r).extract 8 ((enNum n ++ enNum c) ++ r).size = r := ByteArray.extract_append_eq_right hz.symm (by rw [ByteArray.size_append, hz])
  rw [← e] at h3
  exact h3
theorem one_byte {t : ByteArray} (h : t.size = 1) : ∃ b, t = ⟨#[b]⟩ := by
  obtain ⟨a⟩ := t
  have hl : a.toList.length = 1 := by
    have : a.size = 1 := h
    simpa using this
  obtain ⟨b, hb⟩ := List.length_eq_one_iff.1 hl
  exact ⟨b, by congr 1; apply Array.ext'; rw [hb]⟩
theorem take1 (s : RS) : (rTake 1 s).1 = ⟨#[]⟩ ∨ ∃ b, (rTake 1 s).1 = ⟨#[b]⟩ := by
  unfold rTake takeR
  split
  · next h =>
    refine .inr (one_byte ?_)
    show (s.1.extract 0 (1 : Int).toNat).size = 1
    rw [ByteArray.size_extract]
    have : (1 : Int).toNat = 1 := rfl
    omega
  · exact .inl rfl
theorem takeR_le (r : ByteArray) (b : Bool) (n : Int) (h : 0 ≤ n) : ((takeR r b n).1.size : Int) ≤ n := by
  unfold takeR
  split
  · simp only [ByteArray.size_extract]
    omega
  · exact h
theorem rText_size (most : Int) (h : 0 ≤ most) (s : RS) : ((rText most s).1.size : Int) ≤ most := by
  unfold rText textR
  split
  · exact h
  · next hc =>
    have := takeR_le (takeR s.1 s.2 4).2.1 (takeR s.1 s.2 4).2.2 (val (takeR s.1 s.2 4).1.data.toList) (by omega)
    omega
theorem rTimes_len {α : Type} (one : RS → α × RS) : ∀ (n : Nat) (s : RS), (rTimes one n s).1.length = n
  | 0, _ => rfl
  | n + 1, s => by rw [rTimes, List.length_cons, rTimes_len one n]
theorem rCell_fit (s : RS) : (rCell s).1.pre.size ≤ 140737488355328 ∧ (rCell s).1.ids.length ≤ 1000000 ∧ (rCell s).1.kids.length ≤ 1000000 := by
  refine ⟨?_, ?_⟩
  · have := rText_size 64 (by decide) s
    show (rText 64 s).1.size ≤ _
    omega
  · show ((rCellT (rCellH s).1.2.1 (rCellH s).2).1.1.length ≤ 1000000) ∧ ((rCellT (rCellH s).1.2.1 (rCellH s).2).1.2.length ≤ 1000000)
    unfold rCellT
    split
    · exact ⟨Nat.zero_le _, by simp only [rTimes_len]; decide⟩
    · exact ⟨by simp only [rTimes_len]; omega, Nat.zero_le _⟩
/-- The numbers ahead of a field: where the Reader stands, what has been laid. -/
def stS (t0 t1 t2 t3 t4 : RS) : Nat → RS
  | 0 => t0 | 1 => t1 | 2 => t2 | 3 => t3 | _ => t4
def stC (kd a1 a2 a3 a4 : Int) : Nat → Array Value
  | 0 => #[.int .i64 kd, .int .i64 0, .int .i64 0, .int .i64 0, .int .i64 0, .slice none 0 0, .slice none 0 0, .slice none 0 0, .slice none 0 0, .slice none 0 0, .slice none 0 0, .slice none 0 0]
  | 1 => #[.int .i64 kd, .int .i64 a1, .int .i64 0, .int .i64 0, .int .i64 0, .slice none 0 0, .slice none 0 0, .slice none 0 0, .slice none 0 0, .slice none 0 0, .slice none 0 0, .slice none 0 0]
  | 2 => #[.int .i64 kd, .int .i64 a1, .int .i64 a2, .int .i64 0, .int .i64 0, .slice none 0 0, .slice none 0 0, .slice none 0 0, .slice none 0 0, .slice none 0 0, .slice none 0 0, .slice none 0 0]
  | 3 => #[.int .i64 kd, .int .i64 a1, .int .i64 a2, .int .i64 a3, .int .i64 0, .slice none 0 0, .slice none 0 0, .slice none 0 0, .slice none 0 0, .slice none 0 0, .slice none 0 0, .slice none 0 0]
  | _ => #[.int .i64 kd, .int .i64 a1, .int .i64 a2, .int .i64 a3, .int .i64 a4, .slice none 0 0, .slice none 0 0, .slice none 0 0, .slice none 0 0, .slice none 0 0, .slice none 0 0, .slice none 0 0]
theorem rMsg_at {r : ByteArray} {kd a1 a2 a3 a4 : Int} {t0 t1 t2 t3 t4 : RS} (h0 : rKind (r, false) = (kd, t0)) (h1 : rNum t0 = (a1, t1)) (h2 : rNum t1 = (a2, t2)) (h3 : rNum t2 = (a3, t3)) (h4 : rNum t3 = (a4, t4)) :
    rMsg (r, false) = (msgOf (kd, a1, a2, a3, a4) (rField kd t4).1, (rField kd t4).2) := by
  unfold rMsg rHead
  simp only [h0, h1, h2, h3, h4]
theorem rNum_rest (s : RS) : (rNum s).2.1.size ≤ s.1.size := takeR_rest _ _ _
/-- What Decode has behind the field: a message that lies, all its own. -/
def FSt (w : World) (g P M : Nat) (hd : Hd) (fd : Fld) (st : RS) (W : World) : Prop :=
  ∃ m : MsgR, DM w g P M st #[.int .i64 m.kind, .int .i64 m.src, .int .i64 m.dst, .int .i64 m.ses, .int .i64 m.step, m.pv, m.cv, m.iv, m.ov, m.mar.rv, m.mar.kv, m.mar.bv] W ∧ m.Own (M + 1) W ∧ m.msg = msgOf hd fd ∧ m.Small
theorem rKind_none {s : RS} (h : (rTake 1 s).1 = ⟨#[]⟩) : (rKind s).1 = 0 := by unfold rKind; simp only [h]
theorem rKind_byte {s : RS} {b : UInt8} (h : (rTake 1 s).1 = ⟨#[b]⟩) : (rKind s).1 = (b.toNat : Int) := by unfold rKind; simp only [h]
theorem sl_farM {W : World} {base M i n size : Nat} {e : TypeId} {v u : Value} {xs : List Value} (h : SlIs W base e size v n xs) (hM : M < base) : SlIs (W.setCell ⟨M, i, none⟩ u) base e size v n xs :=
  h.far (p := ⟨M, i, none⟩) (fun hk => by have := (h.lt M hk).1; omega) u
theorem mar_farM {W : World} {base M i : Nat} {m : MkR} {u : Value} (h : m.Own base W) (hM : M < base) : m.Own base (W.setCell ⟨M, i, none⟩ u) :=
  ⟨sl_farM h.1 hM, sl_farM h.2.1 hM, sl_farM h.2.2.1 hM, fun z hz => ⟨sl_farM (h.2.2.2 z hz).1 hM, sl_farM (h.2.2.2 z hz).2 hM⟩⟩
theorem rMany_all {α : Type} {one : RS → α × RS} {P : α → Prop} (h : ∀ s, P (one s).1) (most : Int) (s : RS) : ∀ x ∈ (rMany one most s).1, P x := Mk.rList_all h _ _
theorem map_same {α : Type} (l : List α) : l.map (fun x => x) = l := List.map_id' l
section
variable {w W : World} {g P M base : Nat} {kd a1 a2 a3 a4 : Int} {t4 : RS} {v : Value}
theorem fst_no (k : ¬ (kd = 1 ∨ kd = 2 ∨ kd = 3 ∨ kd = 4 ∨ kd = 6)) (hd : DM w g P M t4 #[.int .i64 kd, .int .i64 a1, .int .i64 a2, .int .i64 a3, .int .i64 a4, .slice none 0 0, .slice none 0 0, .slice none 0 0, .slice none 0 0, .slice none 0 0, .slice none 0 0, .slice none 0 0] W) :
    FSt w g P M (kd, a1, a2, a3, a4) (rField kd t4).1 (rField kd t4).2 W := by
  rw [rField_no kd k]
  exact ⟨⟨kd, a1, a2, a3, a4, [], [], [], [], Mk.MkR.none_, .slice none 0 0, .slice none 0 0, .slice none 0 0, .slice none 0 0⟩, hd, ⟨SlIs.nil_ _ _ _ _, SlIs.nil_ _ _ _ _, (fun z hz => by cases hz), SlIs.nil_ _ _ _ _, SlIs.nil_ _ _ _ _, Mk.MkR.none_own _ _⟩, rfl,
    ⟨⟨Nat.zero_le _, Nat.zero_le _, Nat.zero_le _, Nat.zero_le _⟩, Mk.MkR.none_small, (fun x hx => by cases hx), (fun x hx => by cases hx)⟩⟩
theorem fst_1 {l : List ByteArray} (k : kd = 1) (hd : DM w g P M (rMany (rText 64) 64 t4).2 #[.int .i64 kd, .int .i64 a1, .int .i64 a2, .int .i64 a3, .int .i64 a4, .slice none 0 0, .slice none 0 0, .slice none 0 0, .slice none 0 0, .slice none 0 0, .slice none 0 0, .slice none 0 0] W)
    (hs : SlIs W base 9 1 v l.length (scells l)) (hb : M < base) (hl : l.map (fun x : ByteArray => x) = (rMany (rText 64) 64 t4).1) : FSt w g P M (kd, a1, a2, a3, a4) (rField kd t4).1 (rField kd t4).2 (W.setCell ⟨M, 5, none⟩ v) := by
  rw [map_same] at hl
  have h1 := Mk.rMany_len (rText 64) 64 t4 (by decide)
  have h2 := rMany_all (one := rText 64) (P := fun x => x.size ≤ 140737488355328) (fun s => by have := rText_size 64 (by decide) s; omega) 64 t4
  rw [← hl] at h1 h2
  have hd2 := hd.put 5 v
  simp only [List.setIfInBounds_toArray, List.set_cons_zero, List.set_cons_succ] at hd2
  have e1 : (rField kd t4).2 = (rMany (rText 64) 64 t4).2 := by rw [k, rField_1]
  have e2 : (rField kd t4).1 = { noFld with pre := l } := by rw [k, rField_1, hl]
  rw [e1, e2]
  exact ⟨⟨kd, a1, a2, a3, a4, l, [], [], [], Mk.MkR.none_, v, .slice none 0 0, .slice none 0 0, .slice none 0 0⟩, hd2, ⟨(sl_farM hs hb).mono hb, SlIs.nil_ _ _ _ _, (fun z hz => by cases hz), SlIs.nil_ _ _ _ _, SlIs.nil_ _ _ _ _, Mk.MkR.none_own _ _⟩, rfl,
    ⟨⟨by show l.length ≤ _; omega, Nat.zero_le _, Nat.zero_le _, Nat.zero_le _⟩, Mk.MkR.none_small, h2, (fun x hx => by cases hx)⟩⟩
theorem fst_2 {l : List CpR} (k : kd = 2) (hd : DM w g P M (rMany rCell 64 t4).2 #[.int .i64 kd, .int .i64 a1, .int .i64 a2, .int .i64 a3, .int .i64 a4, .slice none 0 0, .slice none 0 0, .slice none 0 0, .slice none 0 0, .slice none 0 0, .slice none 0 0, .slice none 0 0] W)
    (hs : SlIs W base 49 5 v l.length (rowCells vCp l)) (ho : ∀ z ∈ l, CpR.Own base W z) (hb : M < base) (hl : l.map (fun x : CpR => x.c) = (rMany rCell 64 t4).1) : FSt w g P M (kd, a1, a2, a3, a4) (rField kd t4).1 (rField kd t4).2 (W.setCell ⟨M, 6, none⟩ v) := by
  have h1 := Mk.rMany_len rCell 64 t4 (by decide)
  have h2 := rMany_all (one := rCell) (P := fun c => c.pre.size ≤ 140737488355328 ∧ c.ids.length ≤ 1000000 ∧ c.kids.length ≤ 1000000) rCell_fit 64 t4
  rw [← hl] at h1 h2
  rw [List.length_map] at h1
  have hd2 := hd.put 6 v
  simp only [List.setIfInBounds_toArray, List.set_cons_zero, List.set_cons_succ] at hd2
  have e1 : (rField kd t4).2 = (rMany rCell 64 t4).2 := by rw [k, rField_2]
  have e2 : (rField kd t4).1 = { noFld with cel := l.map (fun x : CpR => x.c) } := by rw [k, rField_2, hl]
  rw [e1, e2]
  exact ⟨⟨kd, a1, a2, a3, a4, [], l, [], [], Mk.MkR.none_, .slice none 0 0, v, .slice none 0 0, .slice none 0 0⟩, hd2, ⟨SlIs.nil_ _ _ _ _, (sl_farM hs hb).mono hb, (fun z hz => ⟨(sl_farM (ho z hz).1 hb).mono hb, (sl_farM (ho z hz).2 hb).mono hb⟩), SlIs.nil_ _ _ _ _, SlIs.nil_ _ _ _ _, Mk.MkR.none_own _ _⟩, rfl,
    ⟨⟨Nat.zero_le _, by show l.length ≤ _; omega, Nat.zero_le _, Nat.zero_le _⟩, Mk.MkR.none_small, (fun x hx => by cases hx), (fun x hx => h2 x.c (List.mem_map.2 ⟨x, hx, rfl⟩))⟩⟩
theorem fst_3 {l : List ByteArray} (k : kd = 3) (hd : DM w g P M (rMany (rTake 32) 1024 t4).2 #[.int .i64 kd, .int .i64 a1, .int .i64 a2, .int .i64 a3, .int .i64 a4, .slice none 0 0, .slice none 0 0, .slice none 0 0, .slice none 0 0, .slice none 0 0, .slice none 0 0, .slice none 0 0] W)
    (hs : SlIs W base 9 1 v l.length (scells l)) (hb : M < base) (hl : l.map (fun x : ByteArray => x) = (rMany (rTake 32) 1024 t4).1) : FSt w g P M (kd, a1, a2, a3, a4) (rField kd t4).1 (rField kd t4).2 (W.setCell ⟨M, 7, none⟩ v) := by
  rw [map_same] at hl
  have h1 := Mk.rMany_len (rTake 32) 1024 t4 (by decide)
  rw [← hl] at h1
  have hd2 := hd.put 7 v
  simp only [List.setIfInBounds_toArray, List.set_cons_zero, List.set_cons_succ] at hd2
  have e1 : (rField kd t4).2 = (rMany (rTake 32) 1024 t4).2 := by rw [k, rField_3]
  have e2 : (rField kd t4).1 = { noFld with ids := l } := by rw [k, rField_3, hl]
  rw [e1, e2]
  exact ⟨⟨kd, a1, a2, a3, a4, [], [], l, [], Mk.MkR.none_, .slice none 0 0, .slice none 0 0, v, .slice none 0 0⟩, hd2, ⟨SlIs.nil_ _ _ _ _, SlIs.nil_ _ _ _ _, (fun z hz => by cases hz), (sl_farM hs hb).mono hb, SlIs.nil_ _ _ _ _, Mk.MkR.none_own _ _⟩, rfl,
    ⟨⟨Nat.zero_le _, Nat.zero_le _, by show l.length ≤ _; omega, Nat.zero_le _⟩, Mk.MkR.none_small, (fun x hx => by cases hx), (fun x hx => by cases hx)⟩⟩
theorem fst_4 {l : List ByteArray} (k : kd = 4) (hd : DM w g P M (rMany (rText 131072) 16 t4).2 #[.int .i64 kd, .int .i64 a1, .int .i64 a2, .int .i64 a3, .int .i64 a4, .slice none 0 0, .slice none 0 0, .slice none 0 0, .slice none 0 0, .slice none 0 0, .slice none 0 0, .slice none 0 0] W)
    (hs : SlIs W base 9 1 v l.length (scells l)) (hb : M < base) (hl : l.map (fun x : ByteArray => x) = (rMany (rText 131072) 16 t4).1) : FSt w g P M (kd, a1, a2, a3, a4) (rField kd t4).1 (rField kd t4).2 (W.setCell ⟨M, 8, none⟩ v) := by
  rw [map_same] at hl
  have h1 := Mk.rMany_len (rText 131072) 16 t4 (by decide)
  rw [← hl] at h1
  have hd2 := hd.put 8 v
  simp only [List.setIfInBounds_toArray, List.set_cons_zero, List.set_cons_succ] at hd2
  have e1 : (rField kd t4).2 = (rMany (rText 131072) 16 t4).2 := by rw [k, rField_4]
  have e2 : (rField kd t4).1 = { noFld with obj := l } := by rw [k, rField_4, hl]
  rw [e1, e2]
  exact ⟨⟨kd, a1, a2, a3, a4, [], [], [], l, Mk.MkR.none_, .slice none 0 0, .slice none 0 0, .slice none 0 0, v⟩, hd2, ⟨SlIs.nil_ _ _ _ _, SlIs.nil_ _ _ _ _, (fun z hz => by cases hz), SlIs.nil_ _ _ _ _, (sl_farM hs hb).mono hb, Mk.MkR.none_own _ _⟩, rfl,
    ⟨⟨Nat.zero_le _, Nat.zero_le _, Nat.zero_le _, by show l.length ≤ _; omega⟩, Mk.MkR.none_small, (fun x hx => by cases hx), (fun x hx => by cases hx)⟩⟩
theorem fst_6 {m : MkR} {st : RS} (k : kd = 6) (hd : DM w g P M st #[.int .i64 kd, .int .i64 a1, .int .i64 a2, .int .i64 a3, .int .i64 a4, .slice none 0 0, .slice none 0 0, .slice none 0 0, .slice none 0 0, .slice none 0 0, .slice none 0 0, .slice none 0 0] W)
    (ho : m.Own base W) (hsm : m.Small) (hb : M < base) (hm : m.mk_ = (rMarks t4).1) (hst : st = (rMarks t4).2) : FSt w g P M (kd, a1, a2, a3, a4) (rField kd t4).1 (rField kd t4).2 (((W.setCell ⟨M, 9, none⟩ m.rv).setCell ⟨M, 10, none⟩ m.kv).setCell ⟨M, 11, none⟩ m.bv) := by
  have hd2 := ((hd.put 9 m.rv).put 10 m.kv).put 11 m.bv
  simp only [List.setIfInBounds_toArray, List.set_cons_zero, List.set_cons_succ] at hd2
  have e1 : (rField kd t4).2 = st := by rw [k, rField_6, hst]
  have e2 : (rField kd t4).1 = { noFld with mar := m.mk_ } := by rw [k, rField_6, hm]
  rw [e1, e2]
  exact ⟨⟨kd, a1, a2, a3, a4, [], [], [], [], m, .slice none 0 0, .slice none 0 0, .slice none 0 0, .slice none 0 0⟩, hd2, ⟨SlIs.nil_ _ _ _ _, SlIs.nil_ _ _ _ _, (fun z hz => by cases hz), SlIs.nil_ _ _ _ _, SlIs.nil_ _ _ _ _, (mar_farM (mar_farM (mar_farM ho hb) hb) hb).mono hb⟩, rfl,
    ⟨⟨Nat.zero_le _, Nat.zero_le _, Nat.zero_le _, Nat.zero_le _⟩, hsm, (fun x hx => by cases hx), (fun x hx => by cases hx)⟩⟩
end
theorem mar_moved {g base : Nat} {W W' : World} {m : MkR} (h : m.Own base W) (hm : Moved g W W') (hg : g < base) : m.Own base W' :=
  ⟨hm.sl h.1 hg, hm.sl h.2.1 hg, hm.sl h.2.2.1 hg, fun z hz => ⟨hm.sl (h.2.2.2 z hz).1 hg, hm.sl (h.2.2.2 z hz).2 hg⟩⟩
theorem own_far12 {base A : Nat} {W : World} {m : MsgR} (h : m.Own base W) (hA : A < base) (x0 x1 x2 x3 x4 x5 x6 x7 x8 x9 x10 x11 : Value) : m.Own base ((((((((((((W.setCell ⟨A, 0, none⟩ x0).setCell ⟨A, 1, none⟩ x1).setCell ⟨A, 2, none⟩ x2).setCell ⟨A, 3, none⟩ x3).setCell ⟨A, 4, none⟩ x4).setCell ⟨A, 5, none⟩ x5).setCell ⟨A, 6, none⟩ x6).setCell ⟨A, 7, none⟩ x7).setCell ⟨A, 8, none⟩ x8).setCell ⟨A, 9, none⟩ x9).setCell ⟨A, 10, none⟩ x10).setCell ⟨A, 11, none⟩ x11) :=
  have key : ∀ {e : TypeId} {size n : Nat} {v : Value} {vs : List Value}, SlIs W base e size v n vs → SlIs ((((((((((((W.setCell ⟨A, 0, none⟩ x0).setCell ⟨A, 1, none⟩ x1).setCell ⟨A, 2, none⟩ x2).setCell ⟨A, 3, none⟩ x3).setCell ⟨A, 4, none⟩ x4).setCell ⟨A, 5, none⟩ x5).setCell ⟨A, 6, none⟩ x6).setCell ⟨A, 7, none⟩ x7).setCell ⟨A, 8, none⟩ x8).setCell ⟨A, 9, none⟩ x9).setCell ⟨A, 10, none⟩ x10).setCell ⟨A, 11, none⟩ x11) base e size v n vs := fun hs => far12 hs (fun hk => by have := (hs.lt A hk).1; omega) x0 x1 x2 x3 x4 x5 x6 x7 x8 x9 x10 x11
  ⟨key h.1, key h.2.1, fun z hz => ⟨key (h.2.2.1 z hz).1, key (h.2.2.1 z hz).2⟩, key h.2.2.2.1, key h.2.2.2.2.1, key h.2.2.2.2.2.1, key h.2.2.2.2.2.2.1, key h.2.2.2.2.2.2.2.1, fun z hz => ⟨key (h.2.2.2.2.2.2.2.2 z hz).1, key (h.2.2.2.2.2.2.2.2 z hz).2⟩⟩
theorem readM_good {r : ByteArray} {m : Msg} {rr : ByteArray} {bb : Bool} (h : rMsg (r, false) = (m, (rr, bb))) (hw : bb = false ∧ rr.size = 0) (hg : goodM m = true) : readM r = (0, m) := by
  unfold readM
  rw [h]
  exact if_pos ⟨hw.1, hw.2, hg⟩
theorem readM_bad {r : ByteArray} {m : Msg} {rr : ByteArray} {bb : Bool} (h : rMsg (r, false) = (m, (rr, bb))) (hw : ¬ (bb = false ∧ rr.size = 0 ∧ goodM m = true)) : readM r = (4, noMsg) := by
  unfold readM
  rw [h]
  exact if_neg hw
theorem rMarks_some {t : RS} {tx : ByteArray} {t5 : RS} {m : Mk.Mks} (h : rTextAll t = (tx, t5)) (hd : Mk.dec tx = some m) : rMarks t = (m, t5) := by unfold rMarks; simp only [h, hd]
theorem rMarks_none {t : RS} {tx : ByteArray} {t5 : RS} (h : rTextAll t = (tx, t5)) (hd : Mk.dec tx = none) : rMarks t = (Mk.Mks.empty, spoilt) := by unfold rMarks; simp only [h, hd]
set_option maxRecDepth 100000 in
set_option maxHeartbeats 8000000 in
theorem decode_any (s : ByteArray) (w : World) (hs : s.size ≤ 1073741824) : Calls Tryz.prog 14 #[.string s] w fun e w' => FDecOut s w e w' := by
  obtain ⟨n, s1, hq1⟩ : ∃ x s', rNum (s, false) = (x, s') := ⟨_, _, rfl⟩
  obtain ⟨c, s2, hq2⟩ : ∃ x s', rNum s1 = (x, s') := ⟨_, _, rfl⟩
  have hl1 := rNum_lt (s, false)
  rw [hq1] at hl1
  have hl2 := rNum_lt s1
  rw [hq2] at hl2
  have hdec : decM s = if s2.2 = true ∨ n ≠ (s2.1.size : Int) then (3, noMsg) else if (crcB s2.1 : Int) ≠ c then (20, noMsg) else readM s2.1 := by
    unfold decM
    simp only [hq1, hq2]
  obtain ⟨W1, hW1⟩ : ∃ W1, W1 = w.alloc (.cells #[.int .i64 0, .int .i64 0, .int .i64 0, .int .i64 0, .int .i64 0, .slice none 0 0, .slice none 0 0, .slice none 0 0, .slice none 0 0, .slice none 0 0, .slice none 0 0, .slice none 0 0] 30) := ⟨_, rfl⟩
  have hb1 : Below w.heap.size w W1 := by rw [hW1]; exact (Below.refl _ _).alloc (Nat.le_refl _) _
  have k1 : BlkIs W1 w.heap.size 30 #[.int .i64 0, .int .i64 0, .int .i64 0, .int .i64 0, .int .i64 0, .slice none 0 0, .slice none 0 0, .slice none 0 0, .slice none 0 0, .slice none 0 0, .slice none 0 0, .slice none 0 0] := by rw [hW1]; exact BlkIs.new _ _ _
  obtain ⟨g, hg⟩ : ∃ g, g = W1.heap.size := ⟨_, rfl⟩
  have RN := rd_new s W1
  rw [← hg] at RN
  have RN := Lib.hid RN
  have H1 := Lib.hid (And.intro hb1 (And.intro k1 hg))
  have HW := Lib.hid hW1
  have HDec := Lib.hid hdec
  have Q1 := Lib.hid hq1
  have Q2 := Lib.hid hq2
  have HL := Lib.hid (And.intro hl1 hl2)
  have hw1 : IntKind.i64.wrap n = n := IntWalk.i64_in _ (by omega)
  clear hdec hW1 hb1 k1 hg hq1 hq2 hl1 hl2
  go_enter Tryz.func14, Tryz.ntmps14
  go_wp2_with fail
  rw [← HW.out]
  refine RN.out.mono ?_
  rintro e w2 ⟨rfl, hr2, hb2⟩
  obtain ⟨P, hP⟩ : ∃ P, P = w2.heap.size := ⟨_, rfl⟩
  obtain ⟨W3, hW3⟩ : ∃ W3, W3 = w2.alloc (.cells #[.pointer (some ⟨g, 0, none⟩)] 64) := ⟨_, rfl⟩
  have hwW : w.heap.size < g := by rw [H1.out.2.2]; exact H1.out.2.1.lt
  have hgP : g < P := by rw [hP]; exact hr2.lt
  have hb3 : Below w2.heap.size w2 W3 := by rw [hW3]; exact (Below.refl _ _).alloc (Nat.le_refl _) _
  have HD := Lib.hid (show DS w g P (s, false) W3 from ⟨(H1.out.1.trans (hb2.mono (Nat.le_of_lt hwW))).trans (hb3.mono (by rw [← hP]; omega)), (BlkIs.below H1.out.2.1 hb2 hwW).below hb3 (by rw [← hP]; omega), BlkIs.below hr2 hb3 hr2.lt, by rw [hW3, hP]; exact BlkIs.new _ _ _, hwW, hgP⟩)
  have HW3 := Lib.hid (And.intro hW3 hP)
  have hc0 : W3.cell? ⟨P, 0, none⟩ = some (.pointer (some ⟨g, 0, none⟩)) := HD.out.2.2.2.1.cell 0
  clear RN HW hr2 hb2 hW3 hP hb3 hwW hgP
  go_upto_region 2 with (fail)
  rw [← HW3.out.1, ← HW3.out.2]
  clear HW3
  go_region_held (fun w' => w'.cell? ⟨P, 0, none⟩ = some (.pointer (some ⟨g, 0, none⟩))) (go_keep)
    (first
      | (go_at_call 41
         refine (ds_num Q1.out _ (by first | exact HD.out | exact HD.out.drew)).mono ?_
         rintro e w4 ⟨rfl, h4⟩
         have H4 := Lib.hid h4
         have c4 : w4.cell? ⟨P, 0, none⟩ = some (.pointer (some ⟨g, 0, none⟩)) := h4.2.2.2.1.cell 0
         clear h4)
      | (go_at_call 41
         refine (ds_num Q2.out _ (by first | exact H4.out | exact H4.out.drew)).mono ?_
         rintro e w5 ⟨rfl, h5⟩
         have H5 := Lib.hid h5
         have c5 : w5.cell? ⟨P, 0, none⟩ = some (.pointer (some ⟨g, 0, none⟩)) := h5.2.2.2.1.cell 0
         clear h5))
  clear c4 H4 HD hc0
  obtain ⟨r, b⟩ := s2
  have RB := Lib.hid (rd_bad g r b w5 H5.out.2.2.1)
  cases b
  case true =>
    have HX := Lib.hid (show decM s = (3, noMsg) by rw [HDec.out, if_pos (.inl rfl)])
    clear HDec
    go_wp2_with fail
    refine RB.out.mono ?_
    rintro e _ ⟨rfl, rfl⟩
    have a0 : w5.cell? ⟨w.heap.size, 0, none⟩ = some (.int .i64 0) := H5.out.2.1.cell 0
    have z0 : w5.frozen? ⟨w.heap.size, 0, none⟩ = false := H5.out.2.1.free 0
    have a1 : w5.cell? ⟨w.heap.size, 1, none⟩ = some (.int .i64 0) := H5.out.2.1.cell 1
    have z1 : w5.frozen? ⟨w.heap.size, 1, none⟩ = false := H5.out.2.1.free 1
    have a2 : w5.cell? ⟨w.heap.size, 2, none⟩ = some (.int .i64 0) := H5.out.2.1.cell 2
    have z2 : w5.frozen? ⟨w.heap.size, 2, none⟩ = false := H5.out.2.1.free 2
    have a3 : w5.cell? ⟨w.heap.size, 3, none⟩ = some (.int .i64 0) := H5.out.2.1.cell 3
    have z3 : w5.frozen? ⟨w.heap.size, 3, none⟩ = false := H5.out.2.1.free 3
    have a4 : w5.cell? ⟨w.heap.size, 4, none⟩ = some (.int .i64 0) := H5.out.2.1.cell 4
    have z4 : w5.frozen? ⟨w.heap.size, 4, none⟩ = false := H5.out.2.1.free 4
    have a5 : w5.cell? ⟨w.heap.size, 5, none⟩ = some (.slice none 0 0) := H5.out.2.1.cell 5
    have z5 : w5.frozen? ⟨w.heap.size, 5, none⟩ = false := H5.out.2.1.free 5
    have a6 : w5.cell? ⟨w.heap.size, 6, none⟩ = some (.slice none 0 0) := H5.out.2.1.cell 6
    have z6 : w5.frozen? ⟨w.heap.size, 6, none⟩ = false := H5.out.2.1.free 6
    have a7 : w5.cell? ⟨w.heap.size, 7, none⟩ = some (.slice none 0 0) := H5.out.2.1.cell 7
    have z7 : w5.frozen? ⟨w.heap.size, 7, none⟩ = false := H5.out.2.1.free 7
    have a8 : w5.cell? ⟨w.heap.size, 8, none⟩ = some (.slice none 0 0) := H5.out.2.1.cell 8
    have z8 : w5.frozen? ⟨w.heap.size, 8, none⟩ = false := H5.out.2.1.free 8
    have a9 : w5.cell? ⟨w.heap.size, 9, none⟩ = some (.slice none 0 0) := H5.out.2.1.cell 9
    have z9 : w5.frozen? ⟨w.heap.size, 9, none⟩ = false := H5.out.2.1.free 9
    have a10 : w5.cell? ⟨w.heap.size, 10, none⟩ = some (.slice none 0 0) := H5.out.2.1.cell 10
    have z10 : w5.frozen? ⟨w.heap.size, 10, none⟩ = false := H5.out.2.1.free 10
    have a11 : w5.cell? ⟨w.heap.size, 11, none⟩ = some (.slice none 0 0) := H5.out.2.1.cell 11
    have z11 : w5.frozen? ⟨w.heap.size, 11, none⟩ = false := H5.out.2.1.free 11
    go_wp2_with fail
    refine bodyPost_ret (results_cell_tmp' rfl _ _ w.heap.size 30 #[.int .i64 0, .int .i64 0, .int .i64 0, .int .i64 0, .int .i64 0, .slice none 0 0, .slice none 0 0, .slice none 0 0, .slice none 0 0, .slice none 0 0, .slice none 0 0, .slice none 0 0] (0, 0) _ rfl (put12 H5.out.2.1 (.int .i64 0) (.int .i64 0) (.int .i64 0) (.int .i64 0) (.int .i64 0) (.slice none 0 0) (.slice none 0 0) (.slice none 0 0) (.slice none 0 0) (.slice none 0 0) (.slice none 0 0) (.slice none 0 0)) Tryz.underlying30 rfl (by show _ = some 12; kernel_rfl)) rfl ?_
    exact fdec_none (n := 3) HX.out (below12 H5.out.1 (Nat.le_refl _) (.int .i64 0) (.int .i64 0) (.int .i64 0) (.int .i64 0) (.int .i64 0) (.slice none 0 0) (.slice none 0 0) (.slice none 0 0) (.slice none 0 0) (.slice none 0 0) (.slice none 0 0) (.slice none 0 0))
  have RL := Lib.hid (rd_left g r false w5 H5.out.2.2.1)
  by_cases hn : n = (r.size : Int)
  case neg =>
    have HX := Lib.hid (show decM s = (3, noMsg) by rw [HDec.out, if_pos (.inr hn)])
    have hn1 : (n == (r.size : Int)) = false := by simpa using hn
    have hn2 : (n != (r.size : Int)) = true := by simpa using hn
    clear HDec
    go_wp2_with fail
    refine RB.out.mono ?_
    rintro e _ ⟨rfl, rfl⟩
    go_wp2_with fail
    refine RL.out.mono ?_
    rintro e _ ⟨rfl, rfl⟩
    have a0 : w5.cell? ⟨w.heap.size, 0, none⟩ = some (.int .i64 0) := H5.out.2.1.cell 0
    have z0 : w5.frozen? ⟨w.heap.size, 0, none⟩ = false := H5.out.2.1.free 0
    have a1 : w5.cell? ⟨w.heap.size, 1, none⟩ = some (.int .i64 0) := H5.out.2.1.cell 1
    have z1 : w5.frozen? ⟨w.heap.size, 1, none⟩ = false := H5.out.2.1.free 1
    have a2 : w5.cell? ⟨w.heap.size, 2, none⟩ = some (.int .i64 0) := H5.out.2.1.cell 2
    have z2 : w5.frozen? ⟨w.heap.size, 2, none⟩ = false := H5.out.2.1.free 2
    have a3 : w5.cell? ⟨w.heap.size, 3, none⟩ = some (.int .i64 0) := H5.out.2.1.cell 3
    have z3 : w5.frozen? ⟨w.heap.size, 3, none⟩ = false := H5.out.2.1.free 3
    have a4 : w5.cell? ⟨w.heap.size, 4, none⟩ = some (.int .i64 0) := H5.out.2.1.cell 4
    have z4 : w5.frozen? ⟨w.heap.size, 4, none⟩ = false := H5.out.2.1.free 4
    have a5 : w5.cell? ⟨w.heap.size, 5, none⟩ = some (.slice none 0 0) := H5.out.2.1.cell 5
    have z5 : w5.frozen? ⟨w.heap.size, 5, none⟩ = false := H5.out.2.1.free 5
    have a6 : w5.cell? ⟨w.heap.size, 6, none⟩ = some (.slice none 0 0) := H5.out.2.1.cell 6
    have z6 : w5.frozen? ⟨w.heap.size, 6, none⟩ = false := H5.out.2.1.free 6
    have a7 : w5.cell? ⟨w.heap.size, 7, none⟩ = some (.slice none 0 0) := H5.out.2.1.cell 7
    have z7 : w5.frozen? ⟨w.heap.size, 7, none⟩ = false := H5.out.2.1.free 7
    have a8 : w5.cell? ⟨w.heap.size, 8, none⟩ = some (.slice none 0 0) := H5.out.2.1.cell 8
    have z8 : w5.frozen? ⟨w.heap.size, 8, none⟩ = false := H5.out.2.1.free 8
    have a9 : w5.cell? ⟨w.heap.size, 9, none⟩ = some (.slice none 0 0) := H5.out.2.1.cell 9
    have z9 : w5.frozen? ⟨w.heap.size, 9, none⟩ = false := H5.out.2.1.free 9
    have a10 : w5.cell? ⟨w.heap.size, 10, none⟩ = some (.slice none 0 0) := H5.out.2.1.cell 10
    have z10 : w5.frozen? ⟨w.heap.size, 10, none⟩ = false := H5.out.2.1.free 10
    have a11 : w5.cell? ⟨w.heap.size, 11, none⟩ = some (.slice none 0 0) := H5.out.2.1.cell 11
    have z11 : w5.frozen? ⟨w.heap.size, 11, none⟩ = false := H5.out.2.1.free 11
    go_wp2_with fail
    refine bodyPost_ret (results_cell_tmp' rfl _ _ w.heap.size 30 #[.int .i64 0, .int .i64 0, .int .i64 0, .int .i64 0, .int .i64 0, .slice none 0 0, .slice none 0 0, .slice none 0 0, .slice none 0 0, .slice none 0 0, .slice none 0 0, .slice none 0 0] (0, 0) _ rfl (put12 H5.out.2.1 (.int .i64 0) (.int .i64 0) (.int .i64 0) (.int .i64 0) (.int .i64 0) (.slice none 0 0) (.slice none 0 0) (.slice none 0 0) (.slice none 0 0) (.slice none 0 0) (.slice none 0 0) (.slice none 0 0)) Tryz.underlying30 rfl (by show _ = some 12; kernel_rfl)) rfl ?_
    exact fdec_none (n := 3) HX.out (below12 H5.out.1 (Nat.le_refl _) (.int .i64 0) (.int .i64 0) (.int .i64 0) (.int .i64 0) (.int .i64 0) (.slice none 0 0) (.slice none 0 0) (.slice none 0 0) (.slice none 0 0) (.slice none 0 0) (.slice none 0 0) (.slice none 0 0))
  obtain ⟨h8, hex⟩ := head8 Q1.out Q2.out
  have hrs : r.size ≤ s.size := by rw [← hex, ByteArray.size_extract]; omega
  have h8i : (8 : Int) ≤ (s.size : Int) := by omega
  have CS := Lib.hid (Pak.crcsum_any r w5 (by omega))
  rw [show Pak.crc r.data.toList = crcB r from rfl] at CS
  obtain ⟨cc, hcc⟩ : ∃ x, x = crcB r := ⟨_, rfl⟩
  have hn1 : (n == (r.size : Int)) = true := by simpa using hn
  have hn2 : (n != (r.size : Int)) = false := by simpa using hn
  have HN := Lib.hid hn
  have HCC := Lib.hid hcc
  have HEX := Lib.hid hex
  rw [← hcc] at CS
  clear hcc hn hex
  go_wp2_with fail
  refine RB.out.mono ?_
  rintro e _ ⟨rfl, rfl⟩
  go_wp2_with fail
  refine RL.out.mono ?_
  rintro e _ ⟨rfl, rfl⟩
  go_wp2_with fail
  rw [HEX.out]
  refine CS.out.mono ?_
  rintro e w6 ⟨rfl, hb6⟩
  have H6 := Lib.hid (H5.out.below hb6)
  clear hb6 CS RL RB H5 c5
  by_cases hcc : (cc : Int) = c
  case neg =>
    have HX := Lib.hid (show decM s = (20, noMsg) by rw [HDec.out, if_neg (fun h => h.elim (fun h => by cases h) (fun h => h HN.out)), ← HCC.out, if_pos hcc])
    have hc1 : ((cc : Int) == c) = false := by simpa using hcc
    have hc2 : ((cc : Int) != c) = true := by simpa using hcc
    clear HDec hcc
    have a0 : w6.cell? ⟨w.heap.size, 0, none⟩ = some (.int .i64 0) := H6.out.2.1.cell 0
    have z0 : w6.frozen? ⟨w.heap.size, 0, none⟩ = false := H6.out.2.1.free 0
    have a1 : w6.cell? ⟨w.heap.size, 1, none⟩ = some (.int .i64 0) := H6.out.2.1.cell 1
    have z1 : w6.frozen? ⟨w.heap.size, 1, none⟩ = false := H6.out.2.1.free 1
    have a2 : w6.cell? ⟨w.heap.size, 2, none⟩ = some (.int .i64 0) := H6.out.2.1.cell 2
    have z2 : w6.frozen? ⟨w.heap.size, 2, none⟩ = false := H6.out.2.1.free 2
    have a3 : w6.cell? ⟨w.heap.size, 3, none⟩ = some (.int .i64 0) := H6.out.2.1.cell 3
    have z3 : w6.frozen? ⟨w.heap.size, 3, none⟩ = false := H6.out.2.1.free 3
    have a4 : w6.cell? ⟨w.heap.size, 4, none⟩ = some (.int .i64 0) := H6.out.2.1.cell 4
    have z4 : w6.frozen? ⟨w.heap.size, 4, none⟩ = false := H6.out.2.1.free 4
    have a5 : w6.cell? ⟨w.heap.size, 5, none⟩ = some (.slice none 0 0) := H6.out.2.1.cell 5
    have z5 : w6.frozen? ⟨w.heap.size, 5, none⟩ = false := H6.out.2.1.free 5
    have a6 : w6.cell? ⟨w.heap.size, 6, none⟩ = some (.slice none 0 0) := H6.out.2.1.cell 6
    have z6 : w6.frozen? ⟨w.heap.size, 6, none⟩ = false := H6.out.2.1.free 6
    have a7 : w6.cell? ⟨w.heap.size, 7, none⟩ = some (.slice none 0 0) := H6.out.2.1.cell 7
    have z7 : w6.frozen? ⟨w.heap.size, 7, none⟩ = false := H6.out.2.1.free 7
    have a8 : w6.cell? ⟨w.heap.size, 8, none⟩ = some (.slice none 0 0) := H6.out.2.1.cell 8
    have z8 : w6.frozen? ⟨w.heap.size, 8, none⟩ = false := H6.out.2.1.free 8
    have a9 : w6.cell? ⟨w.heap.size, 9, none⟩ = some (.slice none 0 0) := H6.out.2.1.cell 9
    have z9 : w6.frozen? ⟨w.heap.size, 9, none⟩ = false := H6.out.2.1.free 9
    have a10 : w6.cell? ⟨w.heap.size, 10, none⟩ = some (.slice none 0 0) := H6.out.2.1.cell 10
    have z10 : w6.frozen? ⟨w.heap.size, 10, none⟩ = false := H6.out.2.1.free 10
    have a11 : w6.cell? ⟨w.heap.size, 11, none⟩ = some (.slice none 0 0) := H6.out.2.1.cell 11
    have z11 : w6.frozen? ⟨w.heap.size, 11, none⟩ = false := H6.out.2.1.free 11
    go_wp2_with fail
    refine bodyPost_ret (results_cell_tmp' rfl _ _ w.heap.size 30 #[.int .i64 0, .int .i64 0, .int .i64 0, .int .i64 0, .int .i64 0, .slice none 0 0, .slice none 0 0, .slice none 0 0, .slice none 0 0, .slice none 0 0, .slice none 0 0, .slice none 0 0] (0, 0) _ rfl (put12 H6.out.2.1 (.int .i64 0) (.int .i64 0) (.int .i64 0) (.int .i64 0) (.int .i64 0) (.slice none 0 0) (.slice none 0 0) (.slice none 0 0) (.slice none 0 0) (.slice none 0 0) (.slice none 0 0) (.slice none 0 0)) Tryz.underlying30 rfl (by show _ = some 12; kernel_rfl)) rfl ?_
    exact fdec_none (n := 20) HX.out (below12 H6.out.1 (Nat.le_refl _) (.int .i64 0) (.int .i64 0) (.int .i64 0) (.int .i64 0) (.int .i64 0) (.slice none 0 0) (.slice none 0 0) (.slice none 0 0) (.slice none 0 0) (.slice none 0 0) (.slice none 0 0) (.slice none 0 0))
  have HX := Lib.hid (show decM s = readM r by rw [HDec.out, if_neg (fun h => h.elim (fun h => by cases h) (fun h => h HN.out)), ← HCC.out, if_neg (fun h => h hcc)])
  have hc1 : ((cc : Int) == c) = true := by simpa using hcc
  have hc2 : ((cc : Int) != c) = false := by simpa using hcc
  clear HDec hcc hn1 hn2
  obtain ⟨M, hM⟩ : ∃ M, M = w6.heap.size := ⟨_, rfl⟩
  obtain ⟨W7, hW7⟩ : ∃ W7, W7 = w6.alloc (.cells #[.int .i64 0, .int .i64 0, .int .i64 0, .int .i64 0, .int .i64 0, .slice none 0 0, .slice none 0 0, .slice none 0 0, .slice none 0 0, .slice none 0 0, .slice none 0 0, .slice none 0 0] 30) := ⟨_, rfl⟩
  have HD7 := Lib.hid (show DM w g P M (r, false) #[.int .i64 0, .int .i64 0, .int .i64 0, .int .i64 0, .int .i64 0, .slice none 0 0, .slice none 0 0, .slice none 0 0, .slice none 0 0, .slice none 0 0, .slice none 0 0, .slice none 0 0] W7 from ⟨by rw [hW7]; exact H6.out.alloc _, by rw [hW7, hM]; exact BlkIs.new _ _ _, by rw [hM]; exact H6.out.2.2.2.1.lt⟩)
  have HW7 := Lib.hid (And.intro hW7 hM)
  clear hW7 hM
  obtain ⟨tk, t0, hqk⟩ : ∃ x s', rTake 1 (r, false) = (x, s') := ⟨_, _, rfl⟩
  have htk := take1 (r, false)
  rw [hqk] at htk
  obtain ⟨kd, hkd⟩ : ∃ k : Int, k = (rKind (r, false)).1 := ⟨_, rfl⟩
  have hq0 : rKind (r, false) = (kd, t0) := Prod.ext hkd.symm (by show (rTake 1 (r, false)).2 = t0; rw [hqk])
  have hk0 : tk = ⟨#[]⟩ → kd = 0 := fun h => by rw [hkd]; exact rKind_none (by rw [hqk]; exact h)
  have hk1 : ∀ b, tk = ⟨#[b]⟩ → kd = (b.toNat : Int) := fun b h => by rw [hkd]; exact rKind_byte (by rw [hqk]; exact h)
  obtain ⟨a1, t1, hn1⟩ : ∃ x s', rNum t0 = (x, s') := ⟨_, _, rfl⟩
  obtain ⟨a2, t2, hn2⟩ : ∃ x s', rNum t1 = (x, s') := ⟨_, _, rfl⟩
  obtain ⟨a3, t3, hn3⟩ : ∃ x s', rNum t2 = (x, s') := ⟨_, _, rfl⟩
  obtain ⟨a4, t4, hn4⟩ : ∃ x s', rNum t3 = (x, s') := ⟨_, _, rfl⟩
  have l1 := rNum_lt t0
  have l2 := rNum_lt t1
  have l3 := rNum_lt t2
  have l4 := rNum_lt t3
  rw [hn1] at l1
  rw [hn2] at l2
  rw [hn3] at l3
  rw [hn4] at l4
  have hsz : t4.1.size ≤ s.size := by
    have e1 := rNum_rest t0
    have e2 := rNum_rest t1
    have e3 := rNum_rest t2
    have e4 := rNum_rest t3
    have e0 := takeR_rest r false 1
    rw [show takeR r false 1 = rTake 1 (r, false) from rfl, hqk] at e0
    rw [hn1] at e1
    rw [hn2] at e2
    rw [hn3] at e3
    rw [hn4] at e4
    simp only at e0 e1 e2 e3 e4
    omega
  have HMS := Lib.hid (rMsg_at hq0 hn1 hn2 hn3 hn4)
  have HN1 := Lib.hid hn1
  have HN2 := Lib.hid hn2
  have HN3 := Lib.hid hn3
  have HN4 := Lib.hid hn4
  have HLS := Lib.hid (And.intro l1 (And.intro l2 (And.intro l3 l4)))
  have HKD := Lib.hid (And.intro hk0 hk1)
  have HTK := Lib.hid htk
  have HSZ := Lib.hid hsz
  have TK := Lib.hid (show Calls Tryz.prog 44 #[.pointer (some ⟨g, 0, none⟩), .int .i64 1] W7 fun e w' => e = .returned (.string tk) ∧ Rd w' g t0.1 t0.2 ∧ Moved g W7 w' from by
    have := rd_take g r false 1 W7 HD7.out.1.2.2.1
    rwa [show takeR r false 1 = rTake 1 (r, false) from rfl, hqk] at this)
  have hc7 : W7.cell? ⟨P, 0, none⟩ = some (.pointer (some ⟨g, 0, none⟩)) := HD7.out.1.2.2.2.1.cell 0
  clear hqk htk hkd hk0 hk1 hq0 hn1 hn2 hn3 hn4 l1 l2 l3 l4 hsz h8 h8i hrs
  go_upto_region 8 with (fail)
  rw [← HW7.out.1, ← HW7.out.2]
  clear HW7 H6
  go_wp2_with fail
  refine TK.out.mono ?_
  rintro e w8 ⟨rfl, hr8, hm8⟩
  have HD8 := Lib.hid (HD7.out.call hr8 hm8)
  clear hr8 hm8 TK HD7 hc7
  go_upto_if 40 with (fail)
  go_cut [40] from 41 to 44 (fun y40 wx => Hid (DM w g P M t0 #[.int .i64 kd, .int .i64 0, .int .i64 0, .int .i64 0, .int .i64 0, .slice none 0 0, .slice none 0 0, .slice none 0 0, .slice none 0 0, .slice none 0 0, .slice none 0 0, .slice none 0 0] wx))
  case first =>
    rcases HTK.out with hk | ⟨b, hk⟩
    · have HKD3 := Lib.hid (HKD.out.1 hk)
      have he : tk.toList.isEmpty = true := by rw [hk, ByteArray.toList_eq]; rfl
      have he2 : (tk.toList == []) = true := by rw [hk, ByteArray.toList_eq]; rfl
      have he5 : (!tk.toList.isEmpty) = false := by rw [he]; rfl
      rw [he5]
      clear HKD HTK hk
      go_wp2_with fail
      go_meet
      case rel =>
        rw [show kd = 0 from HKD3.out]
        exact HD8
    · have HKD3 := Lib.hid (HKD.out.2 b hk)
      have m0 : w8.cell? ⟨M, 0, none⟩ = some (.int .i64 0) := HD8.out.2.1.cell 0
      have f0 : w8.frozen? ⟨M, 0, none⟩ = false := HD8.out.2.1.free 0
      have he : tk.toList.isEmpty = false := by rw [hk, ByteArray.toList_eq]; rfl
      have he2 : (tk.toList == []) = false := by rw [hk, ByteArray.toList_eq]; rfl
      have he5 : (!tk.toList.isEmpty) = true := by rw [he]; rfl
      have hz : 0 < tk.size := by rw [hk]; exact Nat.one_pos
      have hzi : (0 : Int) < (tk.size : Int) := by omega
      have HV := Lib.hid (show (tk[0]'hz).toNat = b.toNat by subst hk; rfl)
      rw [he5]
      clear HKD HTK hk
      go_wp2_with fail
      go_meet
      case rel =>
        rw [HV.out, show wrap64 (b.toNat : Int) = (b.toNat : Int) from IntWalk.wrap64_in _ (by have := b.toNat_lt; omega)]
        rw [show kd = (b.toNat : Int) from HKD3.out]
        have := HD8.out.put 0 (.int .i64 (b.toNat : Int))
        simp only [List.setIfInBounds_toArray, List.set_cons_zero, List.set_cons_succ] at this
        exact Lib.hid this
  case rest =>
    have HD9 := hcut
    clear hcut HD8 HKD HTK
    obtain ⟨R, hR⟩ : ∃ R, R = wc.heap.size := ⟨_, rfl⟩
    obtain ⟨W9, hW9⟩ : ∃ W9, W9 = wc.alloc (.cells #[.pointer (some ⟨M, 1, none⟩), .pointer (some ⟨M, 2, none⟩), .pointer (some ⟨M, 3, none⟩), .pointer (some ⟨M, 4, none⟩)] 68) := ⟨_, rfl⟩
    have HR9 := Lib.hid (show DM w g P M t0 #[.int .i64 kd, .int .i64 0, .int .i64 0, .int .i64 0, .int .i64 0, .slice none 0 0, .slice none 0 0, .slice none 0 0, .slice none 0 0, .slice none 0 0, .slice none 0 0, .slice none 0 0] W9 ∧ BlkIs W9 R 68 #[.pointer (some ⟨M, 1, none⟩), .pointer (some ⟨M, 2, none⟩), .pointer (some ⟨M, 3, none⟩), .pointer (some ⟨M, 4, none⟩)] ∧ M < R from ⟨by rw [hW9]; exact HD9.out.alloc _, by rw [hW9, hR]; exact BlkIs.new _ _ _, by rw [hR]; exact HD9.out.2.1.lt⟩)
    have HW9 := Lib.hid (And.intro hW9 hR)
    clear hW9 hR HD9
    go_upto_block 1 with (fail)
    rw [← HW9.out.1, ← HW9.out.2]
    clear HW9
    go_wp2_with fail
    go_loopw [51] (fun i wr => ∃ k : Nat, i = .int .i64 (k : Int) ∧ k ≤ 4 ∧ Hid (DM w g P M (stS t0 t1 t2 t3 t4 k) (stC kd a1 a2 a3 a4 k) wr ∧ BlkIs wr R 68 #[.pointer (some ⟨M, 1, none⟩), .pointer (some ⟨M, 2, none⟩), .pointer (some ⟨M, 3, none⟩), .pointer (some ⟨M, 4, none⟩)])) (fun i _ => 4 - (RowKit.intOf i).toNat)
    case atStart => exact ⟨0, rfl, by omega, Lib.hid ⟨HR9.out.1, HR9.out.2.1⟩⟩
    case round =>
      obtain ⟨k, rfl, hk4, HK⟩ := hrel
      have hRM : M < R := HR9.out.2.2
      rcases Nat.lt_or_ge k 4 with hlt | hge
      · have hcases : k = 0 ∨ k = 1 ∨ k = 2 ∨ k = 3 := by omega
        clear HR9
        rcases hcases with rfl | rfl | rfl | rfl
        · have HK2 := Lib.hid (show DM w g P M t0 #[.int .i64 kd, .int .i64 0, .int .i64 0, .int .i64 0, .int .i64 0, .slice none 0 0, .slice none 0 0, .slice none 0 0, .slice none 0 0, .slice none 0 0, .slice none 0 0, .slice none 0 0] wr ∧ BlkIs wr R 68 #[.pointer (some ⟨M, 1, none⟩), .pointer (some ⟨M, 2, none⟩), .pointer (some ⟨M, 3, none⟩), .pointer (some ⟨M, 4, none⟩)] from HK.out)
          have p0 : wr.cell? ⟨P, 0, none⟩ = some (.pointer (some ⟨g, 0, none⟩)) := HK2.out.1.1.2.2.2.1.cell 0
          have r0 : wr.cell? ⟨R, 0, none⟩ = some (.pointer (some ⟨M, 1, none⟩)) := HK2.out.2.cell 0
          have hwa : IntKind.i64.wrap a1 = a1 := IntWalk.i64_in _ (by have := HLS.out; omega)
          clear HK
          go_wp2_with fail
          refine (dm_num HN1.out _ HK2.out.1).mono ?_
          rintro e w9 ⟨rfl, hd9, hm9⟩
          have HK3 := Lib.hid (And.intro hd9 (hm9.blk HK2.out.2 (by have := HK2.out.1.1.2.2.2.2; have := HK2.out.1.2.2; omega)))
          have q0 : w9.cell? ⟨M, 1, none⟩ = some (.int .i64 0) := HK3.out.1.2.1.cell 1
          have q1 : w9.frozen? ⟨M, 1, none⟩ = false := HK3.out.1.2.1.free 1
          clear hd9 hm9 p0 r0 HK2
          go_wp2_with fail
          refine ⟨⟨1, by rfl, by omega, Lib.hid ⟨?_, HK3.out.2.far (p := ⟨M, 1, none⟩) (Nat.ne_of_gt hRM) _⟩⟩, by simp [RowKit.intOf]⟩
          have := HK3.out.1.put 1 (.int .i64 a1)
          simp only [List.setIfInBounds_toArray, List.set_cons_zero, List.set_cons_succ] at this
          exact this
        · have HK2 := Lib.hid (show DM w g P M t1 #[.int .i64 kd, .int .i64 a1, .int .i64 0, .int .i64 0, .int .i64 0, .slice none 0 0, .slice none 0 0, .slice none 0 0, .slice none 0 0, .slice none 0 0, .slice none 0 0, .slice none 0 0] wr ∧ BlkIs wr R 68 #[.pointer (some ⟨M, 1, none⟩), .pointer (some ⟨M, 2, none⟩), .pointer (some ⟨M, 3, none⟩), .pointer (some ⟨M, 4, none⟩)] from HK.out)
          have p0 : wr.cell? ⟨P, 0, none⟩ = some (.pointer (some ⟨g, 0, none⟩)) := HK2.out.1.1.2.2.2.1.cell 0
          have r0 : wr.cell? ⟨R, 1, none⟩ = some (.pointer (some ⟨M, 2, none⟩)) := HK2.out.2.cell 1
          have hwa : IntKind.i64.wrap a2 = a2 := IntWalk.i64_in _ (by have := HLS.out; omega)
          clear HK
          go_wp2_with fail
          refine (dm_num HN2.out _ HK2.out.1).mono ?_
          rintro e w9 ⟨rfl, hd9, hm9⟩
          have HK3 := Lib.hid (And.intro hd9 (hm9.blk HK2.out.2 (by have := HK2.out.1.1.2.2.2.2; have := HK2.out.1.2.2; omega)))
          have q0 : w9.cell? ⟨M, 2, none⟩ = some (.int .i64 0) := HK3.out.1.2.1.cell 2
          have q1 : w9.frozen? ⟨M, 2, none⟩ = false := HK3.out.1.2.1.free 2
          clear hd9 hm9 p0 r0 HK2
          go_wp2_with fail
          refine ⟨⟨2, by rfl, by omega, Lib.hid ⟨?_, HK3.out.2.far (p := ⟨M, 2, none⟩) (Nat.ne_of_gt hRM) _⟩⟩, by simp [RowKit.intOf]⟩
          have := HK3.out.1.put 2 (.int .i64 a2)
          simp only [List.setIfInBounds_toArray, List.set_cons_zero, List.set_cons_succ] at this
          exact this
        · have HK2 := Lib.hid (show DM w g P M t2 #[.int .i64 kd, .int .i64 a1, .int .i64 a2, .int .i64 0, .int .i64 0, .slice none 0 0, .slice none 0 0, .slice none 0 0, .slice none 0 0, .slice none 0 0, .slice none 0 0, .slice none 0 0] wr ∧ BlkIs wr R 68 #[.pointer (some ⟨M, 1, none⟩), .pointer (some ⟨M, 2, none⟩), .pointer (some ⟨M, 3, none⟩), .pointer (some ⟨M, 4, none⟩)] from HK.out)
          have p0 : wr.cell? ⟨P, 0, none⟩ = some (.pointer (some ⟨g, 0, none⟩)) := HK2.out.1.1.2.2.2.1.cell 0
          have r0 : wr.cell? ⟨R, 2, none⟩ = some (.pointer (some ⟨M, 3, none⟩)) := HK2.out.2.cell 2
          have hwa : IntKind.i64.wrap a3 = a3 := IntWalk.i64_in _ (by have := HLS.out; omega)
          clear HK
          go_wp2_with fail
          refine (dm_num HN3.out _ HK2.out.1).mono ?_
          rintro e w9 ⟨rfl, hd9, hm9⟩
          have HK3 := Lib.hid (And.intro hd9 (hm9.blk HK2.out.2 (by have := HK2.out.1.1.2.2.2.2; have := HK2.out.1.2.2; omega)))
          have q0 : w9.cell? ⟨M, 3, none⟩ = some (.int .i64 0) := HK3.out.1.2.1.cell 3
          have q1 : w9.frozen? ⟨M, 3, none⟩ = false := HK3.out.1.2.1.free 3
          clear hd9 hm9 p0 r0 HK2
          go_wp2_with fail
          refine ⟨⟨3, by rfl, by omega, Lib.hid ⟨?_, HK3.out.2.far (p := ⟨M, 3, none⟩) (Nat.ne_of_gt hRM) _⟩⟩, by simp [RowKit.intOf]⟩
          have := HK3.out.1.put 3 (.int .i64 a3)
          simp only [List.setIfInBounds_toArray, List.set_cons_zero, List.set_cons_succ] at this
          exact this
        · have HK2 := Lib.hid (show DM w g P M t3 #[.int .i64 kd, .int .i64 a1, .int .i64 a2, .int .i64 a3, .int .i64 0, .slice none 0 0, .slice none 0 0, .slice none 0 0, .slice none 0 0, .slice none 0 0, .slice none 0 0, .slice none 0 0] wr ∧ BlkIs wr R 68 #[.pointer (some ⟨M, 1, none⟩), .pointer (some ⟨M, 2, none⟩), .pointer (some ⟨M, 3, none⟩), .pointer (some ⟨M, 4, none⟩)] from HK.out)
          have p0 : wr.cell? ⟨P, 0, none⟩ = some (.pointer (some ⟨g, 0, none⟩)) := HK2.out.1.1.2.2.2.1.cell 0
          have r0 : wr.cell? ⟨R, 3, none⟩ = some (.pointer (some ⟨M, 4, none⟩)) := HK2.out.2.cell 3
          have hwa : IntKind.i64.wrap a4 = a4 := IntWalk.i64_in _ (by have := HLS.out; omega)
          clear HK
          go_wp2_with fail
          refine (dm_num HN4.out _ HK2.out.1).mono ?_
          rintro e w9 ⟨rfl, hd9, hm9⟩
          have HK3 := Lib.hid (And.intro hd9 (hm9.blk HK2.out.2 (by have := HK2.out.1.1.2.2.2.2; have := HK2.out.1.2.2; omega)))
          have q0 : w9.cell? ⟨M, 4, none⟩ = some (.int .i64 0) := HK3.out.1.2.1.cell 4
          have q1 : w9.frozen? ⟨M, 4, none⟩ = false := HK3.out.1.2.1.free 4
          clear hd9 hm9 p0 r0 HK2
          go_wp2_with fail
          refine ⟨⟨4, by rfl, by omega, Lib.hid ⟨?_, HK3.out.2.far (p := ⟨M, 4, none⟩) (Nat.ne_of_gt hRM) _⟩⟩, by simp [RowKit.intOf]⟩
          have := HK3.out.1.put 4 (.int .i64 a4)
          simp only [List.setIfInBounds_toArray, List.set_cons_zero, List.set_cons_succ] at this
          exact this
      · obtain rfl : k = 4 := by omega
        have HK5 := Lib.hid (show DM w g P M t4 #[.int .i64 kd, .int .i64 a1, .int .i64 a2, .int .i64 a3, .int .i64 a4, .slice none 0 0, .slice none 0 0, .slice none 0 0, .slice none 0 0, .slice none 0 0, .slice none 0 0, .slice none 0 0] wr from HK.out.1)
        have m0 : wr.cell? ⟨M, 0, none⟩ = some (.int .i64 kd) := HK5.out.2.1.cell 0
        clear HK HR9 hRM hge hk4
        go_upto_block 3 with (fail)
        go_cut [11, 12] from 63 to 102 (fun y11 y12 wx => Hid (FSt w g P M (kd, a1, a2, a3, a4) (rField kd t4).1 (rField kd t4).2 wx))
        case first =>
          have p0 : wr.cell? ⟨P, 0, none⟩ = some (.pointer (some ⟨g, 0, none⟩)) := HK5.out.1.2.2.2.1.cell 0
          by_cases k1 : kd = 1
          · have q : (kd == 1) = true := by rw [k1]; rfl
            have HKK := Lib.hid k1
            clear k1
            go_wp2_with fail
            refine (list_str g t4 64 _ _ _ (rText 64) wr HK5.out.1.2.2.1 (by decide) (by decide) (one1 g P wr HK5.out.1.2.2.2.1 (by have := HK5.out.1.2.2.2.2; omega))).mono ?_
            rintro e w10 ⟨v, l, rfl, hs1, hl1, hr1, hm1, ho1⟩
            obtain ⟨o1, f1, rfl, -, -, -⟩ := hs1.form
            have HL1 := Lib.hid (And.intro hs1 (And.intro hl1 ho1))
            have HD10 := Lib.hid (HK5.out.call hr1 hm1)
            have HML := Lib.hid (HK5.out.2.1.lt)
            obtain ⟨ln, hln⟩ : ∃ n, n = l.length := ⟨_, rfl⟩
            rw [← hln] at HL1 ⊢
            have c5 : w10.cell? ⟨M, 5, none⟩ = some (.slice none 0 0) := HD10.out.2.1.cell 5
            have z5 : w10.frozen? ⟨M, 5, none⟩ = false := HD10.out.2.1.free 5
            have HLN := Lib.hid hln
            clear hs1 hl1 hr1 hm1 ho1 hln p0 m0
            go_wp2_with fail
            go_meet
            case rel => exact Lib.hid (fst_1 HKK.out HD10.out (by rw [← HLN.out]; exact HL1.out.1) HML.out HL1.out.2.1)
          have q1 : (kd == 1) = false := by simpa using k1
          by_cases k2 : kd = 2
          · have q : (kd == 2) = true := by rw [k2]; rfl
            have HKK := Lib.hid k2
            clear k1 k2
            go_wp2_with fail
            refine (list_cp g t4 64 _ _ _ (rCell) wr HK5.out.1.2.2.1 (by decide) (by decide) (one2 g P wr HK5.out.1.2.2.2.1 (by have := HK5.out.1.2.2.2.2; omega))).mono ?_
            rintro e w10 ⟨v, l, rfl, hs1, hl1, hr1, hm1, ho1⟩
            obtain ⟨o1, f1, rfl, -, -, -⟩ := hs1.form
            have HL1 := Lib.hid (And.intro hs1 (And.intro hl1 ho1))
            have HD10 := Lib.hid (HK5.out.call hr1 hm1)
            have HML := Lib.hid (HK5.out.2.1.lt)
            obtain ⟨ln, hln⟩ : ∃ n, n = l.length := ⟨_, rfl⟩
            rw [← hln] at HL1 ⊢
            have c5 : w10.cell? ⟨M, 6, none⟩ = some (.slice none 0 0) := HD10.out.2.1.cell 6
            have z5 : w10.frozen? ⟨M, 6, none⟩ = false := HD10.out.2.1.free 6
            have HLN := Lib.hid hln
            clear hs1 hl1 hr1 hm1 ho1 hln p0 m0
            go_wp2_with fail
            go_meet
            case rel => exact Lib.hid (fst_2 HKK.out HD10.out (by rw [← HLN.out]; exact HL1.out.1) HL1.out.2.2 HML.out HL1.out.2.1)
          have q2 : (kd == 2) = false := by simpa using k2
          by_cases k3 : kd = 3
          · have q : (kd == 3) = true := by rw [k3]; rfl
            have HKK := Lib.hid k3
            clear k1 k2 k3
            go_wp2_with fail
            refine (list_str g t4 1024 _ _ _ (rTake 32) wr HK5.out.1.2.2.1 (by decide) (by decide) (one3 g P wr HK5.out.1.2.2.2.1 (by have := HK5.out.1.2.2.2.2; omega))).mono ?_
            rintro e w10 ⟨v, l, rfl, hs1, hl1, hr1, hm1, ho1⟩
            obtain ⟨o1, f1, rfl, -, -, -⟩ := hs1.form
            have HL1 := Lib.hid (And.intro hs1 (And.intro hl1 ho1))
            have HD10 := Lib.hid (HK5.out.call hr1 hm1)
            have HML := Lib.hid (HK5.out.2.1.lt)
            obtain ⟨ln, hln⟩ : ∃ n, n = l.length := ⟨_, rfl⟩
            rw [← hln] at HL1 ⊢
            have c5 : w10.cell? ⟨M, 7, none⟩ = some (.slice none 0 0) := HD10.out.2.1.cell 7
            have z5 : w10.frozen? ⟨M, 7, none⟩ = false := HD10.out.2.1.free 7
            have HLN := Lib.hid hln
            clear hs1 hl1 hr1 hm1 ho1 hln p0 m0
            go_wp2_with fail
            go_meet
            case rel => exact Lib.hid (fst_3 HKK.out HD10.out (by rw [← HLN.out]; exact HL1.out.1) HML.out HL1.out.2.1)
          have q3 : (kd == 3) = false := by simpa using k3
          by_cases k4 : kd = 4
          · have q : (kd == 4) = true := by rw [k4]; rfl
            have HKK := Lib.hid k4
            clear k1 k2 k3 k4
            go_wp2_with fail
            refine (list_str g t4 16 _ _ _ (rText 131072) wr HK5.out.1.2.2.1 (by decide) (by decide) (one4 g P wr HK5.out.1.2.2.2.1 (by have := HK5.out.1.2.2.2.2; omega))).mono ?_
            rintro e w10 ⟨v, l, rfl, hs1, hl1, hr1, hm1, ho1⟩
            obtain ⟨o1, f1, rfl, -, -, -⟩ := hs1.form
            have HL1 := Lib.hid (And.intro hs1 (And.intro hl1 ho1))
            have HD10 := Lib.hid (HK5.out.call hr1 hm1)
            have HML := Lib.hid (HK5.out.2.1.lt)
            obtain ⟨ln, hln⟩ : ∃ n, n = l.length := ⟨_, rfl⟩
            rw [← hln] at HL1 ⊢
            have c5 : w10.cell? ⟨M, 8, none⟩ = some (.slice none 0 0) := HD10.out.2.1.cell 8
            have z5 : w10.frozen? ⟨M, 8, none⟩ = false := HD10.out.2.1.free 8
            have HLN := Lib.hid hln
            clear hs1 hl1 hr1 hm1 ho1 hln p0 m0
            go_wp2_with fail
            go_meet
            case rel => exact Lib.hid (fst_4 HKK.out HD10.out (by rw [← HLN.out]; exact HL1.out.1) HML.out HL1.out.2.1)
          have q4 : (kd == 4) = false := by simpa using k4
          by_cases k6 : kd = 6
          · have q : (kd == 6) = true := by rw [k6]; rfl
            have HKK := Lib.hid k6
            clear k1 k2 k3 k4 k6
            have hsi : ((s.size : Nat) : Int) ≤ 1073741824 := by omega
            have TX := rd_text g t4.1 t4.2 (s.size : Int) wr HK5.out.1.2.2.1
            rw [show textR t4.1 t4.2 (s.size : Int) = rText (s.size : Int) t4 from rfl, rText_big t4 (s.size : Int) (by have := HSZ.out; omega)] at TX
            obtain ⟨tx, t5, hqx⟩ : ∃ x s', rTextAll t4 = (x, s') := ⟨_, _, rfl⟩
            rw [hqx] at TX
            have TX := Lib.hid TX
            have HQX := Lib.hid hqx
            clear hqx
            go_wp2_with fail
            refine TX.out.mono ?_
            rintro e w10 ⟨rfl, hr1, hm1⟩
            have HD10 := Lib.hid (HK5.out.call hr1 hm1)
            clear hr1 hm1 TX p0 m0
            go_wp2_with fail
            refine (Mk.decode_own tx w10).mono ?_
            rintro e w11 ⟨mm, ke, rfl, hown, hsm, hb11, hke⟩
            obtain ⟨refs, toks, tombs, rv, kv, bv⟩ := mm
            obtain ⟨o1, f1, hv1, -, -, -⟩ := hown.1.form
            obtain ⟨o2, f2, hv2, -, -, -⟩ := hown.2.1.form
            obtain ⟨o3, f3, hv3, -, -, -⟩ := hown.2.2.1.form
            dsimp only at hv1 hv2 hv3
            subst hv1 hv2 hv3
            unfold aMk
            dsimp only
            have hd11 := HD10.out.below hb11
            obtain ⟨B2, hB2⟩ : ∃ B, B = w11.heap.size := ⟨_, rfl⟩
            obtain ⟨W12, hW12⟩ : ∃ W, W = w11.alloc (.cells #[.slice o1 refs.length f1, .slice o2 toks.length f2, .slice o3 tombs.length f3] 28) := ⟨_, rfl⟩
            have hb12 : Below w11.heap.size w11 W12 := by rw [hW12]; exact (Below.refl _ _).alloc (Nat.le_refl _) _
            have H12 := Lib.hid (show DM w g P M t5 #[.int .i64 kd, .int .i64 a1, .int .i64 a2, .int .i64 a3, .int .i64 a4, .slice none 0 0, .slice none 0 0, .slice none 0 0, .slice none 0 0, .slice none 0 0, .slice none 0 0, .slice none 0 0] W12 ∧ BlkIs W12 B2 28 #[.slice o1 refs.length f1, .slice o2 toks.length f2, .slice o3 tombs.length f3] ∧ M < B2 from ⟨hd11.below hb12, by rw [hW12, hB2]; exact BlkIs.new _ _ _, by rw [hB2]; exact hd11.2.1.lt⟩)
            have HO12 := Lib.hid (And.intro (hown.later hb12) hsm)
            have HBS := Lib.hid (show M < w10.heap.size ∧ g < w10.heap.size from ⟨HD10.out.2.1.lt, BlkIs.lt HD10.out.1.2.2.1⟩)
            have HKE := Lib.hid hke
            have HW12 := Lib.hid (And.intro hW12 hB2)
            clear hW12 hB2 hb12 hd11 hown hsm hb11 hke HD10
            obtain ⟨m1, hm1⟩ : ∃ n, n = refs.length := ⟨_, rfl⟩
            obtain ⟨m2, hm2⟩ : ∃ n, n = toks.length := ⟨_, rfl⟩
            obtain ⟨m3, hm3⟩ : ∃ n, n = tombs.length := ⟨_, rfl⟩
            rw [← hm1, ← hm2, ← hm3] at H12 HO12 HKE HW12 ⊢
            clear hm1 hm2 hm3
            go_upto_region 27 with (fail)
            rw [← HW12.out.1, ← HW12.out.2]
            clear HW12
            rcases HKE.out with ⟨hd, he⟩ | ⟨hd, hmn, he⟩
            · subst he
              have HMK := Lib.hid (rMarks_some HQX.out hd)
              have b0 : W12.cell? ⟨B2, 0, none⟩ = some (.slice o1 m1 f1) := H12.out.2.1.cell 0
              have b1 : W12.cell? ⟨B2, 1, none⟩ = some (.slice o2 m2 f2) := H12.out.2.1.cell 1
              have b2 : W12.cell? ⟨B2, 2, none⟩ = some (.slice o3 m3 f3) := H12.out.2.1.cell 2
              have e9 : W12.cell? ⟨M, 9, none⟩ = some (.slice none 0 0) := H12.out.1.2.1.cell 9
              have y9 : W12.frozen? ⟨M, 9, none⟩ = false := H12.out.1.2.1.free 9
              have e10 : W12.cell? ⟨M, 10, none⟩ = some (.slice none 0 0) := H12.out.1.2.1.cell 10
              have y10 : W12.frozen? ⟨M, 10, none⟩ = false := H12.out.1.2.1.free 10
              have e11 : W12.cell? ⟨M, 11, none⟩ = some (.slice none 0 0) := H12.out.1.2.1.cell 11
              have y11 : W12.frozen? ⟨M, 11, none⟩ = false := H12.out.1.2.1.free 11
              clear hd
              go_wp2_with fail
              go_meet
              case rel =>
                have hf := fst_6 (m := ⟨refs, toks, tombs, .slice o1 m1 f1, .slice o2 m2 f2, .slice o3 m3 f3⟩) HKK.out H12.out.1 HO12.out.1 HO12.out.2 HBS.out.1 (by rw [HMK.out]) (by rw [HMK.out])
                dsimp only at hf
                exact Lib.hid hf
            · subst he
              have HMK := Lib.hid (rMarks_none HQX.out hd)
              have HMN := Lib.hid hmn
              have p1 : W12.cell? ⟨P, 0, none⟩ = some (.pointer (some ⟨g, 0, none⟩)) := H12.out.1.1.2.2.2.1.cell 0
              clear hd hmn
              go_wp2_with fail
              refine (rd_spoil g _ _ W12 H12.out.1.1.2.2.1).mono ?_
              rintro e w13 ⟨rfl, hr3, hm3⟩
              have H13 := Lib.hid (show DM w g P M spoilt #[.int .i64 kd, .int .i64 a1, .int .i64 a2, .int .i64 a3, .int .i64 a4, .slice none 0 0, .slice none 0 0, .slice none 0 0, .slice none 0 0, .slice none 0 0, .slice none 0 0, .slice none 0 0] w13 ∧ BlkIs w13 B2 28 #[.slice o1 m1 f1, .slice o2 m2 f2, .slice o3 m3 f3] from ⟨H12.out.1.call hr3 hm3, hm3.blk H12.out.2.1 (by have := H12.out.1.1.2.2.2.2; have := H12.out.1.2.2; have := H12.out.2.2; omega)⟩)
              have HO13 := Lib.hid (mar_moved HO12.out.1 hm3 HBS.out.2)
              have b0 : w13.cell? ⟨B2, 0, none⟩ = some (.slice o1 m1 f1) := H13.out.2.cell 0
              have b1 : w13.cell? ⟨B2, 1, none⟩ = some (.slice o2 m2 f2) := H13.out.2.cell 1
              have b2 : w13.cell? ⟨B2, 2, none⟩ = some (.slice o3 m3 f3) := H13.out.2.cell 2
              have e9 : w13.cell? ⟨M, 9, none⟩ = some (.slice none 0 0) := H13.out.1.2.1.cell 9
              have y9 : w13.frozen? ⟨M, 9, none⟩ = false := H13.out.1.2.1.free 9
              have e10 : w13.cell? ⟨M, 10, none⟩ = some (.slice none 0 0) := H13.out.1.2.1.cell 10
              have y10 : w13.frozen? ⟨M, 10, none⟩ = false := H13.out.1.2.1.free 10
              have e11 : w13.cell? ⟨M, 11, none⟩ = some (.slice none 0 0) := H13.out.1.2.1.cell 11
              have y11 : w13.frozen? ⟨M, 11, none⟩ = false := H13.out.1.2.1.free 11
              clear hr3 hm3 p1
              go_wp2_with fail
              go_meet
              case rel =>
                have hf := fst_6 (m := ⟨refs, toks, tombs, .slice o1 m1 f1, .slice o2 m2 f2, .slice o3 m3 f3⟩) HKK.out H13.out.1 HO13.out HO12.out.2 HBS.out.1 (by rw [HMK.out, HMN.out]; rfl) (by rw [HMK.out])
                dsimp only at hf
                exact Lib.hid hf
          have q6 : (kd == 6) = false := by simpa using k6
          have HKK := Lib.hid (show ¬ (kd = 1 ∨ kd = 2 ∨ kd = 3 ∨ kd = 4 ∨ kd = 6) by omega)
          clear k1 k2 k3 k4 k6
          go_wp2_with fail
          go_meet
          case rel => exact Lib.hid (fst_no HKK.out HK5.out)
        case rest =>
          have HF := hcut
          clear hcut HK5 m0
          obtain ⟨rf, hrf⟩ : ∃ x, x = rField kd t4 := ⟨_, rfl⟩
          rw [← hrf] at HMS HF
          obtain ⟨fd, rr, bb⟩ := rf
          obtain ⟨m, hD, hown, hmsg, hsm⟩ := HF.out
          dsimp only at hD hmsg
          clear HF hrf
          rw [← hmsg] at HMS
          obtain ⟨o1, f1, e1, -, -, -⟩ := hown.1.form
          obtain ⟨o2, f2, e2, -, -, -⟩ := hown.2.1.form
          obtain ⟨o3, f3, e3, -, -, -⟩ := hown.2.2.2.1.form
          obtain ⟨o4, f4, e4, -, -, -⟩ := hown.2.2.2.2.1.form
          obtain ⟨o5, f5, e5, -, -, -⟩ := hown.2.2.2.2.2.1.form
          obtain ⟨o6, f6, e6, -, -, -⟩ := hown.2.2.2.2.2.2.1.form
          obtain ⟨o7, f7, e7, -, -, -⟩ := hown.2.2.2.2.2.2.2.1.form
          obtain ⟨q, hq⟩ : ∃ q, q = goodM m.msg := ⟨_, rfl⟩
          have GD := good_any m wc hown.reads hsm
          rw [← hq] at GD
          have hag : aMsg m = .agg #[.int .i64 m.kind, .int .i64 m.src, .int .i64 m.dst, .int .i64 m.ses, .int .i64 m.step, m.pv, m.cv, m.iv, m.ov, m.mar.rv, m.mar.kv, m.mar.bv] := rfl
          have HOwn := Lib.hid (And.intro hown hsm)
          have HQ := Lib.hid hq
          rw [e1, e2, e3, e4, e5, e6, e7] at hD hag
          rw [hag] at GD
          have HAG := Lib.hid hag
          clear hown hsm hq hmsg e1 e2 e3 e4 e5 e6 e7 hag
          obtain ⟨n1, hn1⟩ : ∃ n, n = m.pre.length := ⟨_, rfl⟩
          obtain ⟨n2, hn2⟩ : ∃ n, n = m.cel.length := ⟨_, rfl⟩
          obtain ⟨n3, hn3⟩ : ∃ n, n = m.ids.length := ⟨_, rfl⟩
          obtain ⟨n4, hn4⟩ : ∃ n, n = m.obj.length := ⟨_, rfl⟩
          obtain ⟨n5, hn5⟩ : ∃ n, n = m.mar.refs.length := ⟨_, rfl⟩
          obtain ⟨n6, hn6⟩ : ∃ n, n = m.mar.toks.length := ⟨_, rfl⟩
          obtain ⟨n7, hn7⟩ : ∃ n, n = m.mar.tombs.length := ⟨_, rfl⟩
          rw [← hn1, ← hn2, ← hn3, ← hn4, ← hn5, ← hn6, ← hn7] at hD GD HAG
          obtain ⟨k0, hk0⟩ : ∃ n, n = m.kind := ⟨_, rfl⟩
          obtain ⟨src, hsrc⟩ : ∃ n, n = m.src := ⟨_, rfl⟩
          obtain ⟨dst, hdst⟩ : ∃ n, n = m.dst := ⟨_, rfl⟩
          obtain ⟨ses, hses⟩ : ∃ n, n = m.ses := ⟨_, rfl⟩
          obtain ⟨stp, hstp⟩ : ∃ n, n = m.step := ⟨_, rfl⟩
          rw [← hk0, ← hsrc, ← hdst, ← hses, ← hstp] at hD GD HAG
          have HD := Lib.hid hD
          have GD := Lib.hid GD
          have RW := Lib.hid (rd_whole g rr bb wc hD.1.2.2.1)
          have p0 : wc.cell? ⟨P, 0, none⟩ = some (.pointer (some ⟨g, 0, none⟩)) := hD.1.2.2.2.1.cell 0
          have v0 : wc.cell? ⟨M, 0, none⟩ = some (.int .i64 k0) := hD.2.1.cell 0
          have v1 : wc.cell? ⟨M, 1, none⟩ = some (.int .i64 src) := hD.2.1.cell 1
          have v2 : wc.cell? ⟨M, 2, none⟩ = some (.int .i64 dst) := hD.2.1.cell 2
          have v3 : wc.cell? ⟨M, 3, none⟩ = some (.int .i64 ses) := hD.2.1.cell 3
          have v4 : wc.cell? ⟨M, 4, none⟩ = some (.int .i64 stp) := hD.2.1.cell 4
          have v5 : wc.cell? ⟨M, 5, none⟩ = some (.slice o1 n1 f1) := hD.2.1.cell 5
          have v6 : wc.cell? ⟨M, 6, none⟩ = some (.slice o2 n2 f2) := hD.2.1.cell 6
          have v7 : wc.cell? ⟨M, 7, none⟩ = some (.slice o3 n3 f3) := hD.2.1.cell 7
          have v8 : wc.cell? ⟨M, 8, none⟩ = some (.slice o4 n4 f4) := hD.2.1.cell 8
          have v9 : wc.cell? ⟨M, 9, none⟩ = some (.slice o5 n5 f5) := hD.2.1.cell 9
          have v10 : wc.cell? ⟨M, 10, none⟩ = some (.slice o6 n6 f6) := hD.2.1.cell 10
          have v11 : wc.cell? ⟨M, 11, none⟩ = some (.slice o7 n7 f7) := hD.2.1.cell 11
          clear hD hn1 hn2 hn3 hn4 hn5 hn6 hn7 hk0 hsrc hdst hses hstp
          by_cases hw : bb = false ∧ rr.size = 0
          · have ew : (!bb && decide (rr.size = 0)) = true := by simp [hw.1, hw.2]
            have HWH := Lib.hid hw
            rw [ew] at RW
            clear hw ew
            go_wp2_with fail
            refine RW.out.mono ?_
            rintro e _ ⟨rfl, rfl⟩
            clear RW
            go_wp2_with fail
            refine GD.out.mono ?_
            rintro e w15 ⟨rfl, hb15⟩
            have HD15 := Lib.hid (HD.out.below hb15)
            have HO15 := Lib.hid (HOwn.out.1.later hb15)
            clear hb15 GD p0 v0 v1 v2 v3 v4 v5 v6 v7 v8 v9 v10 v11
            cases q
            · have HX := Lib.hid (show decM s = (4, noMsg) by rw [HX.out]; exact readM_bad HMS.out (fun h => by have := h.2.2; rw [← HQ.out] at this; cases this))
              have a0 : w15.cell? ⟨w.heap.size, 0, none⟩ = some (.int .i64 0) := HD15.out.1.2.1.cell 0
              have z0 : w15.frozen? ⟨w.heap.size, 0, none⟩ = false := HD15.out.1.2.1.free 0
              have a1 : w15.cell? ⟨w.heap.size, 1, none⟩ = some (.int .i64 0) := HD15.out.1.2.1.cell 1
              have z1 : w15.frozen? ⟨w.heap.size, 1, none⟩ = false := HD15.out.1.2.1.free 1
              have a2 : w15.cell? ⟨w.heap.size, 2, none⟩ = some (.int .i64 0) := HD15.out.1.2.1.cell 2
              have z2 : w15.frozen? ⟨w.heap.size, 2, none⟩ = false := HD15.out.1.2.1.free 2
              have a3 : w15.cell? ⟨w.heap.size, 3, none⟩ = some (.int .i64 0) := HD15.out.1.2.1.cell 3
              have z3 : w15.frozen? ⟨w.heap.size, 3, none⟩ = false := HD15.out.1.2.1.free 3
              have a4 : w15.cell? ⟨w.heap.size, 4, none⟩ = some (.int .i64 0) := HD15.out.1.2.1.cell 4
              have z4 : w15.frozen? ⟨w.heap.size, 4, none⟩ = false := HD15.out.1.2.1.free 4
              have a5 : w15.cell? ⟨w.heap.size, 5, none⟩ = some (.slice none 0 0) := HD15.out.1.2.1.cell 5
              have z5 : w15.frozen? ⟨w.heap.size, 5, none⟩ = false := HD15.out.1.2.1.free 5
              have a6 : w15.cell? ⟨w.heap.size, 6, none⟩ = some (.slice none 0 0) := HD15.out.1.2.1.cell 6
              have z6 : w15.frozen? ⟨w.heap.size, 6, none⟩ = false := HD15.out.1.2.1.free 6
              have a7 : w15.cell? ⟨w.heap.size, 7, none⟩ = some (.slice none 0 0) := HD15.out.1.2.1.cell 7
              have z7 : w15.frozen? ⟨w.heap.size, 7, none⟩ = false := HD15.out.1.2.1.free 7
              have a8 : w15.cell? ⟨w.heap.size, 8, none⟩ = some (.slice none 0 0) := HD15.out.1.2.1.cell 8
              have z8 : w15.frozen? ⟨w.heap.size, 8, none⟩ = false := HD15.out.1.2.1.free 8
              have a9 : w15.cell? ⟨w.heap.size, 9, none⟩ = some (.slice none 0 0) := HD15.out.1.2.1.cell 9
              have z9 : w15.frozen? ⟨w.heap.size, 9, none⟩ = false := HD15.out.1.2.1.free 9
              have a10 : w15.cell? ⟨w.heap.size, 10, none⟩ = some (.slice none 0 0) := HD15.out.1.2.1.cell 10
              have z10 : w15.frozen? ⟨w.heap.size, 10, none⟩ = false := HD15.out.1.2.1.free 10
              have a11 : w15.cell? ⟨w.heap.size, 11, none⟩ = some (.slice none 0 0) := HD15.out.1.2.1.cell 11
              have z11 : w15.frozen? ⟨w.heap.size, 11, none⟩ = false := HD15.out.1.2.1.free 11
              go_wp2_with fail
              refine bodyPost_ret (results_cell_tmp' rfl _ _ w.heap.size 30 #[.int .i64 0, .int .i64 0, .int .i64 0, .int .i64 0, .int .i64 0, .slice none 0 0, .slice none 0 0, .slice none 0 0, .slice none 0 0, .slice none 0 0, .slice none 0 0, .slice none 0 0] (0, 0) _ rfl (put12 HD15.out.1.2.1 (.int .i64 0) (.int .i64 0) (.int .i64 0) (.int .i64 0) (.int .i64 0) (.slice none 0 0) (.slice none 0 0) (.slice none 0 0) (.slice none 0 0) (.slice none 0 0) (.slice none 0 0) (.slice none 0 0)) Tryz.underlying30 rfl (by show _ = some 12; kernel_rfl)) rfl ?_
              exact fdec_none (n := 4) HX.out (below12 HD15.out.1.1 (Nat.le_refl _) (.int .i64 0) (.int .i64 0) (.int .i64 0) (.int .i64 0) (.int .i64 0) (.slice none 0 0) (.slice none 0 0) (.slice none 0 0) (.slice none 0 0) (.slice none 0 0) (.slice none 0 0) (.slice none 0 0))
            · have HX := Lib.hid (show decM s = (0, m.msg) by rw [HX.out]; exact readM_good HMS.out HWH.out HQ.out.symm)
              have a0 : w15.cell? ⟨w.heap.size, 0, none⟩ = some (.int .i64 0) := HD15.out.1.2.1.cell 0
              have z0 : w15.frozen? ⟨w.heap.size, 0, none⟩ = false := HD15.out.1.2.1.free 0
              have a1 : w15.cell? ⟨w.heap.size, 1, none⟩ = some (.int .i64 0) := HD15.out.1.2.1.cell 1
              have z1 : w15.frozen? ⟨w.heap.size, 1, none⟩ = false := HD15.out.1.2.1.free 1
              have a2 : w15.cell? ⟨w.heap.size, 2, none⟩ = some (.int .i64 0) := HD15.out.1.2.1.cell 2
              have z2 : w15.frozen? ⟨w.heap.size, 2, none⟩ = false := HD15.out.1.2.1.free 2
              have a3 : w15.cell? ⟨w.heap.size, 3, none⟩ = some (.int .i64 0) := HD15.out.1.2.1.cell 3
              have z3 : w15.frozen? ⟨w.heap.size, 3, none⟩ = false := HD15.out.1.2.1.free 3
              have a4 : w15.cell? ⟨w.heap.size, 4, none⟩ = some (.int .i64 0) := HD15.out.1.2.1.cell 4
              have z4 : w15.frozen? ⟨w.heap.size, 4, none⟩ = false := HD15.out.1.2.1.free 4
              have a5 : w15.cell? ⟨w.heap.size, 5, none⟩ = some (.slice none 0 0) := HD15.out.1.2.1.cell 5
              have z5 : w15.frozen? ⟨w.heap.size, 5, none⟩ = false := HD15.out.1.2.1.free 5
              have a6 : w15.cell? ⟨w.heap.size, 6, none⟩ = some (.slice none 0 0) := HD15.out.1.2.1.cell 6
              have z6 : w15.frozen? ⟨w.heap.size, 6, none⟩ = false := HD15.out.1.2.1.free 6
              have a7 : w15.cell? ⟨w.heap.size, 7, none⟩ = some (.slice none 0 0) := HD15.out.1.2.1.cell 7
              have z7 : w15.frozen? ⟨w.heap.size, 7, none⟩ = false := HD15.out.1.2.1.free 7
              have a8 : w15.cell? ⟨w.heap.size, 8, none⟩ = some (.slice none 0 0) := HD15.out.1.2.1.cell 8
              have z8 : w15.frozen? ⟨w.heap.size, 8, none⟩ = false := HD15.out.1.2.1.free 8
              have a9 : w15.cell? ⟨w.heap.size, 9, none⟩ = some (.slice none 0 0) := HD15.out.1.2.1.cell 9
              have z9 : w15.frozen? ⟨w.heap.size, 9, none⟩ = false := HD15.out.1.2.1.free 9
              have a10 : w15.cell? ⟨w.heap.size, 10, none⟩ = some (.slice none 0 0) := HD15.out.1.2.1.cell 10
              have z10 : w15.frozen? ⟨w.heap.size, 10, none⟩ = false := HD15.out.1.2.1.free 10
              have a11 : w15.cell? ⟨w.heap.size, 11, none⟩ = some (.slice none 0 0) := HD15.out.1.2.1.cell 11
              have z11 : w15.frozen? ⟨w.heap.size, 11, none⟩ = false := HD15.out.1.2.1.free 11
              have v0 : w15.cell? ⟨M, 0, none⟩ = some (.int .i64 k0) := HD15.out.2.1.cell 0
              have v1 : w15.cell? ⟨M, 1, none⟩ = some (.int .i64 src) := HD15.out.2.1.cell 1
              have v2 : w15.cell? ⟨M, 2, none⟩ = some (.int .i64 dst) := HD15.out.2.1.cell 2
              have v3 : w15.cell? ⟨M, 3, none⟩ = some (.int .i64 ses) := HD15.out.2.1.cell 3
              have v4 : w15.cell? ⟨M, 4, none⟩ = some (.int .i64 stp) := HD15.out.2.1.cell 4
              have v5 : w15.cell? ⟨M, 5, none⟩ = some (.slice o1 n1 f1) := HD15.out.2.1.cell 5
              have v6 : w15.cell? ⟨M, 6, none⟩ = some (.slice o2 n2 f2) := HD15.out.2.1.cell 6
              have v7 : w15.cell? ⟨M, 7, none⟩ = some (.slice o3 n3 f3) := HD15.out.2.1.cell 7
              have v8 : w15.cell? ⟨M, 8, none⟩ = some (.slice o4 n4 f4) := HD15.out.2.1.cell 8
              have v9 : w15.cell? ⟨M, 9, none⟩ = some (.slice o5 n5 f5) := HD15.out.2.1.cell 9
              have v10 : w15.cell? ⟨M, 10, none⟩ = some (.slice o6 n6 f6) := HD15.out.2.1.cell 10
              have v11 : w15.cell? ⟨M, 11, none⟩ = some (.slice o7 n7 f7) := HD15.out.2.1.cell 11
              go_wp2_with fail
              refine bodyPost_ret (results_cell_tmp' rfl _ _ w.heap.size 30 #[.int .i64 k0, .int .i64 src, .int .i64 dst, .int .i64 ses, .int .i64 stp, .slice o1 n1 f1, .slice o2 n2 f2, .slice o3 n3 f3, .slice o4 n4 f4, .slice o5 n5 f5, .slice o6 n6 f6, .slice o7 n7 f7] (0, 0) _ rfl (put12 HD15.out.1.2.1 (.int .i64 k0) (.int .i64 src) (.int .i64 dst) (.int .i64 ses) (.int .i64 stp) (.slice o1 n1 f1) (.slice o2 n2 f2) (.slice o3 n3 f3) (.slice o4 n4 f4) (.slice o5 n5 f5) (.slice o6 n6 f6) (.slice o7 n7 f7)) Tryz.underlying30 rfl (by show _ = some 12; kernel_rfl)) rfl ?_
              exact ⟨m, by rw [HX.out, HAG.out]; rfl, by rw [HX.out], (own_far12 HO15.out (by have := HD15.out.1.2.2.2.2; have := HD15.out.2.2; omega) (.int .i64 k0) (.int .i64 src) (.int .i64 dst) (.int .i64 ses) (.int .i64 stp) (.slice o1 n1 f1) (.slice o2 n2 f2) (.slice o3 n3 f3) (.slice o4 n4 f4) (.slice o5 n5 f5) (.slice o6 n6 f6) (.slice o7 n7 f7)).reads, HOwn.out.2, below12 HD15.out.1.1 (Nat.le_refl _) (.int .i64 k0) (.int .i64 src) (.int .i64 dst) (.int .i64 ses) (.int .i64 stp) (.slice o1 n1 f1) (.slice o2 n2 f2) (.slice o3 n3 f3) (.slice o4 n4 f4) (.slice o5 n5 f5) (.slice o6 n6 f6) (.slice o7 n7 f7)⟩
          · have ew : (!bb && decide (rr.size = 0)) = false := by
              cases bb
              · simpa using fun h => hw ⟨rfl, h⟩
              · rfl
            have HX := Lib.hid (show decM s = (4, noMsg) by rw [HX.out]; exact readM_bad HMS.out (fun h => hw ⟨h.1, h.2.1⟩))
            rw [ew] at RW
            clear hw ew
            go_wp2_with fail
            refine RW.out.mono ?_
            rintro e _ ⟨rfl, rfl⟩
            clear RW
            have a0 : wc.cell? ⟨w.heap.size, 0, none⟩ = some (.int .i64 0) := HD.out.1.2.1.cell 0
            have z0 : wc.frozen? ⟨w.heap.size, 0, none⟩ = false := HD.out.1.2.1.free 0
            have a1 : wc.cell? ⟨w.heap.size, 1, none⟩ = some (.int .i64 0) := HD.out.1.2.1.cell 1
            have z1 : wc.frozen? ⟨w.heap.size, 1, none⟩ = false := HD.out.1.2.1.free 1
            have a2 : wc.cell? ⟨w.heap.size, 2, none⟩ = some (.int .i64 0) := HD.out.1.2.1.cell 2
            have z2 : wc.frozen? ⟨w.heap.size, 2, none⟩ = false := HD.out.1.2.1.free 2
            have a3 : wc.cell? ⟨w.heap.size, 3, none⟩ = some (.int .i64 0) := HD.out.1.2.1.cell 3
            have z3 : wc.frozen? ⟨w.heap.size, 3, none⟩ = false := HD.out.1.2.1.free 3
            have a4 : wc.cell? ⟨w.heap.size, 4, none⟩ = some (.int .i64 0) := HD.out.1.2.1.cell 4
            have z4 : wc.frozen? ⟨w.heap.size, 4, none⟩ = false := HD.out.1.2.1.free 4
            have a5 : wc.cell? ⟨w.heap.size, 5, none⟩ = some (.slice none 0 0) := HD.out.1.2.1.cell 5
            have z5 : wc.frozen? ⟨w.heap.size, 5, none⟩ = false := HD.out.1.2.1.free 5
            have a6 : wc.cell? ⟨w.heap.size, 6, none⟩ = some (.slice none 0 0) := HD.out.1.2.1.cell 6
            have z6 : wc.frozen? ⟨w.heap.size, 6, none⟩ = false := HD.out.1.2.1.free 6
            have a7 : wc.cell? ⟨w.heap.size, 7, none⟩ = some (.slice none 0 0) := HD.out.1.2.1.cell 7
            have z7 : wc.frozen? ⟨w.heap.size, 7, none⟩ = false := HD.out.1.2.1.free 7
            have a8 : wc.cell? ⟨w.heap.size, 8, none⟩ = some (.slice none 0 0) := HD.out.1.2.1.cell 8
            have z8 : wc.frozen? ⟨w.heap.size, 8, none⟩ = false := HD.out.1.2.1.free 8
            have a9 : wc.cell? ⟨w.heap.size, 9, none⟩ = some (.slice none 0 0) := HD.out.1.2.1.cell 9
            have z9 : wc.frozen? ⟨w.heap.size, 9, none⟩ = false := HD.out.1.2.1.free 9
            have a10 : wc.cell? ⟨w.heap.size, 10, none⟩ = some (.slice none 0 0) := HD.out.1.2.1.cell 10
            have z10 : wc.frozen? ⟨w.heap.size, 10, none⟩ = false := HD.out.1.2.1.free 10
            have a11 : wc.cell? ⟨w.heap.size, 11, none⟩ = some (.slice none 0 0) := HD.out.1.2.1.cell 11
            have z11 : wc.frozen? ⟨w.heap.size, 11, none⟩ = false := HD.out.1.2.1.free 11
            go_wp2_with fail
            refine bodyPost_ret (results_cell_tmp' rfl _ _ w.heap.size 30 #[.int .i64 0, .int .i64 0, .int .i64 0, .int .i64 0, .int .i64 0, .slice none 0 0, .slice none 0 0, .slice none 0 0, .slice none 0 0, .slice none 0 0, .slice none 0 0, .slice none 0 0] (0, 0) _ rfl (put12 HD.out.1.2.1 (.int .i64 0) (.int .i64 0) (.int .i64 0) (.int .i64 0) (.int .i64 0) (.slice none 0 0) (.slice none 0 0) (.slice none 0 0) (.slice none 0 0) (.slice none 0 0) (.slice none 0 0) (.slice none 0 0)) Tryz.underlying30 rfl (by show _ = some 12; kernel_rfl)) rfl ?_
            exact fdec_none (n := 4) HX.out (below12 HD.out.1.1 (Nat.le_refl _) (.int .i64 0) (.int .i64 0) (.int .i64 0) (.int .i64 0) (.int .i64 0) (.slice none 0 0) (.slice none 0 0) (.slice none 0 0) (.slice none 0 0) (.slice none 0 0) (.slice none 0 0) (.slice none 0 0))
end Go.Proofs.YtljenganlknhbaaGreat.Fr
