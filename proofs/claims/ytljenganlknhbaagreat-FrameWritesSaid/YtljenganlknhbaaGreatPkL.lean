/- Several texts in one. (Layer 19.) -/
import Derived.Test.YtljenganlknhbaaGreatMk12
import Derived.Test.YtljenganlknhbaaGreatTrH
import Derived.Test.YtljenganlknhbaaGreatPkI
import Derived.Test.YtljenganlknhbaaGreatMk2
/- Messages, plain: what they are, which can be, their bytes, and that these are read back. No program is walked. (Layer 19.) -/
namespace Go.Proofs.YtljenganlknhbaaGreat.Fr
set_option linter.unusedVariables false
set_option linter.unusedSimpArgs false
open Oct
open Tr (Cp chk pfxB IsSet holds leafChk leafS innerS all32)
open Mk (Mks goodB enMk okN)
structure Msg where
  kind : Int
  src : Int
  dst : Int
  ses : Int
  step : Int
  pre : List ByteArray
  cel : List Cp
  ids : List ByteArray
  obj : List ByteArray
  mar : Mks
def noMsg : Msg := ⟨0, 0, 0, 0, 0, [], [], [], [], Mks.empty⟩
def mkN (m : Mks) : Nat := m.refs.length + m.toks.length + m.tombs.length
/-- Only the field of the kind is other than empty, and has a right number of things. -/
def Alone (m : Msg) : Prop :=
  ((m.kind = 1 ∨ m.pre.length = 0) ∧ (m.kind = 2 ∨ m.cel.length = 0) ∧ (m.kind = 3 ∨ m.ids.length = 0) ∧ (m.kind = 4 ∨ m.obj.length = 0) ∧ (m.kind = 6 ∨ mkN m.mar = 0)) ∧
  ((m.kind = 1 ∧ 1 ≤ m.pre.length ∧ m.pre.length ≤ 64) ∨ (m.kind = 2 ∧ 1 ≤ m.cel.length ∧ m.cel.length ≤ 64) ∨ (m.kind = 3 ∧ 1 ≤ m.ids.length ∧ m.ids.length ≤ 1024) ∨ (m.kind = 4 ∧ m.obj.length ≤ 16) ∨ m.kind = 5 ∨ m.kind = 6)
instance (m : Msg) : Decidable (Alone m) := by unfold Alone; infer_instance
def aloneB (m : Msg) : Bool := decide (Alone m)
def nodesB (m : Msg) : Bool := decide ((1 ≤ m.src ∧ m.src ≤ 7) ∧ (1 ≤ m.dst ∧ m.dst ≤ 7) ∧ m.src ≠ m.dst)
def numsB (m : Msg) : Bool := decide ((0 ≤ m.ses ∧ m.ses ≤ 1073741824) ∧ (0 ≤ m.step ∧ m.step ≤ 1073741824))
noncomputable def goodCell (c : Cp) : Bool := decide (chk c = 0)
def shortB (s : ByteArray) : Bool := decide (s.size ≤ 131072)
noncomputable def goodM (m : Msg) : Bool := nodesB m && numsB m && aloneB m && m.pre.all pfxB && m.cel.all goodCell && m.obj.all shortB && holds (IsSet m.ids) && goodB m.mar
-- the bytes
def idB (s : ByteArray) : ByteArray := s
def enKind (n : Int) : ByteArray := ⟨#[UInt8.ofNat n.toNat]⟩
def enCell (c : Cp) : ByteArray := (enText c.pre ++ (enNum c.cnt ++ c.sum)) ++ (enAll idB c.ids ++ enAll idB c.kids)
structure Fld where
  pre : List ByteArray
  cel : List Cp
  ids : List ByteArray
  obj : List ByteArray
  mar : Mks
def noFld : Fld := ⟨[], [], [], [], Mks.empty⟩
def fldOf (m : Msg) : Fld := ⟨m.pre, m.cel, m.ids, m.obj, m.mar⟩
def enFld (k : Int) (f : Fld) : ByteArray :=
  if k = 1 then enMany enText f.pre else if k = 2 then enMany enCell f.cel else if k = 3 then enMany idB f.ids
  else if k = 4 then enMany enText f.obj else if k = 6 then enText (enMk f.mar) else ⟨#[]⟩
def enField (m : Msg) : ByteArray := enFld m.kind (fldOf m)
def enBody (m : Msg) : ByteArray := (enKind m.kind ++ (enNum m.src ++ (enNum m.dst ++ (enNum m.ses ++ enNum m.step)))) ++ enField m
def crcB (s : ByteArray) : Nat := Pak.crc s.data.toList
def frameB (s : ByteArray) : ByteArray := enNum s.size ++ (enNum (crcB s) ++ s)
def encM (m : Msg) : ByteArray := frameB (enBody m)
-- the readers
def rKind (s : RS) : Int × RS := (match (rTake 1 s).1.data.toList with | [] => 0 | b :: _ => (b.toNat : Int), (rTake 1 s).2)
def rTimes {α : Type} (one : RS → α × RS) : Nat → RS → List α × RS
  | 0, s => ([], s)
  | n + 1, s => ((one s).1 :: (rTimes one n (one s).2).1, (rTimes one n (one s).2).2)
def rCellH (s : RS) : (ByteArray × Int × ByteArray) × RS := (((rText 64 s).1, (rNum (rText 64 s).2).1, (rTake 32 (rNum (rText 64 s).2).2).1), (rTake 32 (rNum (rText 64 s).2).2).2)
def rCellT (n : Int) (s : RS) : (List ByteArray × List ByteArray) × RS :=
  if 8 < n then (([], (rTimes (rTake 32) 16 s).1), (rTimes (rTake 32) 16 s).2) else (((rTimes (rTake 32) n.toNat s).1, []), (rTimes (rTake 32) n.toNat s).2)
def rCell (s : RS) : Cp × RS :=
  (⟨(rCellH s).1.1, (rCellH s).1.2.1, (rCellH s).1.2.2, (rCellT (rCellH s).1.2.1 (rCellH s).2).1.1, (rCellT (rCellH s).1.2.1 (rCellH s).2).1.2⟩, (rCellT (rCellH s).1.2.1 (rCellH s).2).2)
/-- A text, as long as it may be. -/
def rTextAll (s : RS) : ByteArray × RS := rText s.1.size s
def rMarks (s : RS) : Mks × RS := match Mk.dec (rTextAll s).1 with | some x => (x, (rTextAll s).2) | none => (Mks.empty, spoilt)
def rField (k : Int) (s : RS) : Fld × RS :=
  if k = 1 then ({ noFld with pre := (rMany (rText 64) 64 s).1 }, (rMany (rText 64) 64 s).2)
  else if k = 2 then ({ noFld with cel := (rMany rCell 64 s).1 }, (rMany rCell 64 s).2)
  else if k = 3 then ({ noFld with ids := (rMany (rTake 32) 1024 s).1 }, (rMany (rTake 32) 1024 s).2)
  else if k = 4 then ({ noFld with obj := (rMany (rText 131072) 16 s).1 }, (rMany (rText 131072) 16 s).2)
  else if k = 6 then ({ noFld with mar := (rMarks s).1 }, (rMarks s).2)
  else (noFld, s)
abbrev Hd := Int × Int × Int × Int × Int
def rHead (s : RS) : Hd × RS :=
  (((rKind s).1, (rNum (rKind s).2).1, (rNum (rNum (rKind s).2).2).1, (rNum (rNum (rNum (rKind s).2).2).2).1, (rNum (rNum (rNum (rNum (rKind s).2).2).2).2).1), (rNum (rNum (rNum (rNum (rKind s).2).2).2).2).2)
def msgOf (h : Hd) (f : Fld) : Msg := ⟨h.1, h.2.1, h.2.2.1, h.2.2.2.1, h.2.2.2.2, f.pre, f.cel, f.ids, f.obj, f.mar⟩
def rMsg (s : RS) : Msg × RS := (msgOf (rHead s).1 (rField (rHead s).1.1 (rHead s).2).1, (rField (rHead s).1.1 (rHead s).2).2)
-- what can be read back
def okCell (c : Cp) : Prop := c.pre.size ≤ 64 ∧ okN c.cnt ∧ c.sum.size = 32 ∧
  ((8 < c.cnt ∧ c.ids = [] ∧ c.kids.length = 16 ∧ ∀ x ∈ c.kids, x.size = 32) ∨ (c.cnt ≤ 8 ∧ c.kids = [] ∧ (c.ids.length : Int) = c.cnt ∧ ∀ x ∈ c.ids, x.size = 32))
def okFld (k : Int) (f : Fld) : Prop :=
  if k = 1 then (f.pre.length ≤ 64 ∧ ∀ x ∈ f.pre, x.size ≤ 64) ∧ f = { noFld with pre := f.pre }
  else if k = 2 then (f.cel.length ≤ 64 ∧ ∀ x ∈ f.cel, okCell x) ∧ f = { noFld with cel := f.cel }
  else if k = 3 then (f.ids.length ≤ 1024 ∧ ∀ x ∈ f.ids, x.size = 32) ∧ f = { noFld with ids := f.ids }
  else if k = 4 then (f.obj.length ≤ 16 ∧ ∀ x ∈ f.obj, x.size ≤ 131072) ∧ f = { noFld with obj := f.obj }
  else if k = 6 then goodB f.mar = true ∧ f = { noFld with mar := f.mar }
  else f = noFld
theorem codec_kind : Codec rKind enKind (fun n => 0 ≤ n ∧ n < 256) where
  back s h := by
    obtain ⟨h1, h2, h3⟩ := (codec_take 1).back s h
    unfold rKind
    have hl : (rTake 1 s).1.data.toList.length = 1 := h2
    obtain ⟨b, hb⟩ := List.length_eq_one_iff.1 hl
    have hlt := b.toNat_lt
    rw [hb]
    refine ⟨h1, ⟨by show (0 : Int) ≤ (b.toNat : Int); omega, by show (b.toNat : Int) < 256; omega⟩, ?_⟩
    have e : (enKind (b.toNat : Int)) = (rTake 1 s).1 := by
      apply ByteArray.ext
      apply Array.ext'
      rw [hb]
      unfold enKind
      simp
    rw [e]
    exact h3
  app n r h := by
    have h1 : rTake 1 (enKind n ++ r, false) = (enKind n, r, false) := (codec_take 1).app (enKind n) r rfl
    unfold rKind
    rw [h1]
    have : ((UInt8.ofNat n.toNat).toNat : Int) = n := by
      rw [UInt8.toNat_ofNat']
      omega
    show (((UInt8.ofNat n.toNat).toNat : Int), r, false) = _
    rw [this]
theorem rTimes_back {α : Type} {one : RS → α × RS} {en : α → ByteArray} {ok : α → Prop} (h : Codec one en ok) : ∀ (n : Nat) (s : RS), (rTimes one n s).2.2 = false → s.2 = false ∧ (rTimes one n s).1.length = n ∧ (∀ x ∈ (rTimes one n s).1, ok x) ∧ s.1 = enAll en (rTimes one n s).1 ++ (rTimes one n s).2.1
  | 0, s, hs => ⟨hs, rfl, fun x hx => (by cases hx), (nil_app _).symm⟩
  | n + 1, s, hs => by
    obtain ⟨h1, h2, h3, h4⟩ := rTimes_back h n (one s).2 hs
    obtain ⟨h5, h6, h7⟩ := h.back s h1
    refine ⟨h5, by simp [rTimes, h2], fun x hx => ?_, ?_⟩
    · rcases List.mem_cons.1 hx with rfl | hx
      · exact h6
      · exact h3 x hx
    · show s.1 = (en (one s).1 ++ enAll en _) ++ _
      rw [ByteArray.append_assoc]
      exact h7.trans (congrArg (en (one s).1 ++ ·) h4)
theorem rTimes_app {α : Type} {one : RS → α × RS} {en : α → ByteArray} {ok : α → Prop} (h : Codec one en ok) : ∀ (l : List α) (r : ByteArray), (∀ x ∈ l, ok x) → rTimes one l.length (enAll en l ++ r, false) = (l, r, false)
  | [], r, _ => by
    show ([], ((⟨#[]⟩ : ByteArray) ++ r, false)) = _
    rw [nil_app]
  | x :: l, r, hl => by
    have e : one (enAll en (x :: l) ++ r, false) = (x, enAll en l ++ r, false) := by
      show one ((en x ++ enAll en l) ++ r, false) = _
      rw [ByteArray.append_assoc]
      exact h.app x _ (hl x (by simp))
    rw [List.length_cons, rTimes, e]
    have := rTimes_app h l r fun y hy => hl y (by simp [hy])
    simp only [this]
theorem codec_id : Codec (rTake 32) idB (fun s => s.size = 32) := codec_take 32
/-- One reader behind another one, which hangs on what that read. -/
theorem codec_dep {α β : Type} {one : RS → α × RS} {en : α → ByteArray} {ok : α → Prop} {two : α → RS → β × RS} {en2 : α → β → ByteArray} {ok2 : α → β → Prop} (h : Codec one en ok) (k : ∀ x, Codec (two x) (en2 x) (ok2 x)) :
    Codec (fun s => (((one s).1, (two (one s).1 (one s).2).1), (two (one s).1 (one s).2).2)) (fun p : α × β => en p.1 ++ en2 p.1 p.2) (fun p => ok p.1 ∧ ok2 p.1 p.2) where
  back s hs := by
    obtain ⟨h1, h2, h3⟩ := (k _).back _ hs
    obtain ⟨h4, h5, h6⟩ := h.back s h1
    refine ⟨h4, ⟨h5, h2⟩, ?_⟩
    show s.1 = (en (one s).1 ++ en2 _ _) ++ _
    rw [ByteArray.append_assoc, ← h3]
    exact h6
  app p r hp := by
    obtain ⟨x, y⟩ := p
    show (((one ((en x ++ en2 x y) ++ r, false)).1, _), _) = _
    have e : one ((en x ++ en2 x y) ++ r, false) = (x, en2 x y ++ r, false) := by rw [ByteArray.append_assoc]; exact h.app x _ hp.1
    have e2 := (k x).app y r hp.2
    simp only [e, e2]
def okTail (n : Int) (p : List ByteArray × List ByteArray) : Prop :=
  (8 < n ∧ p.1 = [] ∧ p.2.length = 16 ∧ ∀ x ∈ p.2, x.size = 32) ∨ (n ≤ 8 ∧ p.2 = [] ∧ p.1.length = n.toNat ∧ ∀ x ∈ p.1, x.size = 32)
theorem codec_tail (n : Int) : Codec (rCellT n) (fun p => enAll idB p.1 ++ enAll idB p.2) (okTail n) where
  back s hs := by
    unfold rCellT at hs ⊢
    split at hs
    · next hn =>
      rw [if_pos hn]
      obtain ⟨h1, h2, h3, h4⟩ := rTimes_back codec_id _ _ hs
      refine ⟨h1, .inl ⟨hn, rfl, h2, h3⟩, ?_⟩
      show s.1 = ((⟨#[]⟩ : ByteArray) ++ _) ++ _
      rw [nil_app]
      exact h4
    · next hn =>
      rw [if_neg hn]
      obtain ⟨h1, h2, h3, h4⟩ := rTimes_back codec_id _ _ hs
      refine ⟨h1, .inr ⟨by omega, rfl, h2, h3⟩, ?_⟩
      show s.1 = (_ ++ (⟨#[]⟩ : ByteArray)) ++ _
      rw [app_nil]
      exact h4
  app p r hp := by
    obtain ⟨i, k⟩ := p
    unfold rCellT
    rcases hp with ⟨h1, h2, h3, h4⟩ | ⟨h1, h2, h3, h4⟩
    · simp only at h1 h2 h3 h4
      subst h2
      rw [if_pos h1]
      have := rTimes_app codec_id k r h4
      rw [h3] at this
      have e : rTimes (rTake 32) 16 ((enAll idB [] ++ enAll idB k) ++ r, false) = (k, r, false) := by
        rw [show enAll idB [] = (⟨#[]⟩ : ByteArray) from rfl, nil_app]
        exact this
      simp only [e]
    · simp only at h1 h2 h3 h4
      subst h2
      rw [if_neg (by omega)]
      have := rTimes_app codec_id i r h4
      rw [h3] at this
      have e : rTimes (rTake 32) n.toNat ((enAll idB i ++ enAll idB []) ++ r, false) = (i, r, false) := by
        rw [show enAll idB [] = (⟨#[]⟩ : ByteArray) from rfl, app_nil]
        exact this
      simp only [e]
theorem codec_cell : Codec rCell enCell okCell :=
  (codec_dep (one := rCellH) (two := fun h => rCellT h.2.1) ((codec_text 64 (by decide)).seq (Mk.codec_n.seq (codec_take 32))) (fun h => codec_tail h.2.1)).map
    (fun p : (ByteArray × Int × ByteArray) × (List ByteArray × List ByteArray) => (⟨p.1.1, p.1.2.1, p.1.2.2, p.2.1, p.2.2⟩ : Cp)) (fun c : Cp => ((c.pre, c.cnt, c.sum), (c.ids, c.kids))) (fun s => rfl)
    (fun x hx => ⟨⟨hx.1.1, hx.1.2.1, hx.1.2.2, by
      rcases hx.2 with ⟨a, b, c, d⟩ | ⟨a, b, c, d⟩
      · exact .inl ⟨a, b, c, d⟩
      · refine .inr ⟨a, b, ?_, d⟩
        have := hx.1.2.1.1
        simp only at c this ⊢
        rw [c]; omega⟩, rfl⟩)
    (fun c hc => ⟨⟨⟨hc.1, hc.2.1, hc.2.2.1⟩, by
      rcases hc.2.2.2 with ⟨a, b, c', d⟩ | ⟨a, b, c', d⟩
      · exact .inl ⟨a, b, c', d⟩
      · exact .inr ⟨a, b, by simp only; omega, d⟩⟩, rfl⟩)
theorem takeR_rest (r : ByteArray) (b : Bool) (n : Int) : (takeR r b n).2.1.size ≤ r.size := by
  unfold takeR
  split
  · simp
  · exact Nat.zero_le _
theorem textR_big (r : ByteArray) (b : Bool) (m m' : Int) (h : (r.size : Int) ≤ m) (h' : (r.size : Int) ≤ m') : textR r b m = textR r b m' := by
  have key : ∀ m : Int, (r.size : Int) ≤ m → textR r b m = takeR (takeR r b 4).2.1 (takeR r b 4).2.2 (val (takeR r b 4).1.data.toList) := fun m hm => by
    unfold textR
    split
    · next hc =>
      have := takeR_rest r b 4
      rw [takeR_short _ _ _ (by omega)]
    · rfl
  rw [key m h, key m' h']
theorem rText_big (s : RS) (m : Int) (h : (s.1.size : Int) ≤ m) : rText m s = rTextAll s := textR_big _ _ _ _ h (by omega)
theorem codec_textAll : Codec rTextAll enText (fun s => s.size < 4294967296) where
  back s h := by
    unfold rTextAll rText at h ⊢
    have e := textR_big s.1 s.2 s.1.size (s.1.size + 4294967296 : Nat) (by omega) (by omega)
    have hq := takeR_rest s.1 s.2 4
    have hv := val_takeR s.1 s.2
    unfold textR at h ⊢
    split at h
    · cases h
    · next hc =>
      rw [if_neg hc]
      have hg := takeR_good' h
      have hg2 := takeR_good' hg
      obtain ⟨h1, h2⟩ := takeR_back' hg
      obtain ⟨h3, h4⟩ := takeR_back' h
      refine ⟨hg2, by omega, ?_⟩
      rw [enText_eq _ (by omega)]
      have e : ((takeR (takeR s.1 s.2 4).2.1 (takeR s.1 s.2 4).2.2 (val (takeR s.1 s.2 4).1.data.toList)).1.size : Int).toNat = val (takeR s.1 s.2 4).1.data.toList := by omega
      unfold enNum
      rw [e, le32_val (by omega), ByteArray.append_assoc, ← h3]
      exact h1
  app s r h := by
    unfold rTextAll rText
    refine textR_app s r _ ?_ h
    rw [ByteArray.size_append, enText_eq s h, ByteArray.size_append]
    omega
theorem codec_marks : Codec rMarks (fun m => enText (enMk m)) (fun m => goodB m = true) where
  back s h := by
    cases hx : Mk.dec (rTextAll s).1 with
    | none =>
      unfold rMarks at h
      rw [hx] at h
      cases h
    | some x =>
      have e : rMarks s = (x, (rTextAll s).2) := by unfold rMarks; rw [hx]
      rw [e] at h ⊢
      obtain ⟨h1, h2, h3⟩ := codec_textAll.back s h
      obtain ⟨h4, h5⟩ := Mk.dec_some hx
      exact ⟨h1, h4, by rw [h5]; exact h3⟩
  app x r h := by
    have hs : (enMk x).size < 4294967296 := by
      have := Mk.pre3_size (Mk.ok_mk h) x.tombs.length
      rw [Mk.pre3_end] at this
      omega
    have e : rTextAll (enText (enMk x) ++ r, false) = (enMk x, r, false) := codec_textAll.app (enMk x) r hs
    unfold rMarks
    simp only [e, Mk.dec_enc h]
theorem codec_f1 : Codec (rMany (rText 64) 64) (enMany enText) (fun l => l.length ≤ 64 ∧ ∀ x ∈ l, x.size ≤ 64) := codec_many (codec_text 64 (by decide)) 64 (by decide)
theorem codec_f2 : Codec (rMany rCell 64) (enMany enCell) (fun l => l.length ≤ 64 ∧ ∀ x ∈ l, okCell x) := codec_many codec_cell 64 (by decide)
theorem codec_f3 : Codec (rMany (rTake 32) 1024) (enMany idB) (fun l => l.length ≤ 1024 ∧ ∀ x ∈ l, x.size = 32) := codec_many codec_id 1024 (by decide)
theorem codec_f4 : Codec (rMany (rText 131072) 16) (enMany enText) (fun l => l.length ≤ 16 ∧ ∀ x ∈ l, x.size ≤ 131072) := codec_many (codec_text 131072 (by decide)) 16 (by decide)
theorem rField_1 (s : RS) : rField 1 s = ({ noFld with pre := (rMany (rText 64) 64 s).1 }, (rMany (rText 64) 64 s).2) := if_pos rfl
theorem rField_2 (s : RS) : rField 2 s = ({ noFld with cel := (rMany rCell 64 s).1 }, (rMany rCell 64 s).2) := by unfold rField; rw [if_neg (by decide), if_pos rfl]
theorem rField_3 (s : RS) : rField 3 s = ({ noFld with ids := (rMany (rTake 32) 1024 s).1 }, (rMany (rTake 32) 1024 s).2) := by unfold rField; rw [if_neg (by decide), if_neg (by decide), if_pos rfl]
theorem rField_4 (s : RS) : rField 4 s = ({ noFld with obj := (rMany (rText 131072) 16 s).1 }, (rMany (rText 131072) 16 s).2) := by unfold rField; rw [if_neg (by decide), if_neg (by decide), if_neg (by decide), if_pos rfl]
theorem rField_6 (s : RS) : rField 6 s = ({ noFld with mar := (rMarks s).1 }, (rMarks s).2) := by unfold rField; rw [if_neg (by decide), if_neg (by decide), if_neg (by decide), if_neg (by decide), if_pos rfl]
theorem rField_no (k : Int) (h : ¬ (k = 1 ∨ k = 2 ∨ k = 3 ∨ k = 4 ∨ k = 6)) (s : RS) : rField k s = (noFld, s) := by
  unfold rField
  rw [if_neg fun e => h (.inl e), if_neg fun e => h (.inr (.inl e)), if_neg fun e => h (.inr (.inr (.inl e))), if_neg fun e => h (.inr (.inr (.inr (.inl e)))), if_neg fun e => h (.inr (.inr (.inr (.inr e))))]
theorem enFld_no (k : Int) (h : ¬ (k = 1 ∨ k = 2 ∨ k = 3 ∨ k = 4 ∨ k = 6)) (f : Fld) : enFld k f = ⟨#[]⟩ := by
  unfold enFld
  rw [if_neg fun e => h (.inl e), if_neg fun e => h (.inr (.inl e)), if_neg fun e => h (.inr (.inr (.inl e))), if_neg fun e => h (.inr (.inr (.inr (.inl e)))), if_neg fun e => h (.inr (.inr (.inr (.inr e))))]
theorem okFld_no (k : Int) (h : ¬ (k = 1 ∨ k = 2 ∨ k = 3 ∨ k = 4 ∨ k = 6)) (f : Fld) : okFld k f ↔ f = noFld := by
  unfold okFld
  rw [if_neg fun e => h (.inl e), if_neg fun e => h (.inr (.inl e)), if_neg fun e => h (.inr (.inr (.inl e))), if_neg fun e => h (.inr (.inr (.inr (.inl e)))), if_neg fun e => h (.inr (.inr (.inr (.inr e))))]
theorem codec_of {α : Type} {one : RS → α × RS} {en : α → ByteArray} {ok : α → Prop} (h : Codec one en ok) {rd : RS → Fld × RS} {enF : Fld → ByteArray} {okF : Fld → Prop} (put : α → Fld) (get : Fld → α)
    (h1 : ∀ s, rd s = (put (one s).1, (one s).2)) (h2 : ∀ x, get (put x) = x) (h3 : ∀ f, enF f = en (get f)) (h4 : ∀ f, okF f ↔ ok (get f) ∧ f = put (get f)) : Codec rd enF okF :=
  h.map put get h1 (fun x hx => ⟨(h4 _).2 ⟨by rw [h2]; exact hx, by rw [h2]⟩, by rw [h3, h2]⟩) (fun f hf => ⟨((h4 f).1 hf).1, ((h4 f).1 hf).2.symm⟩)
theorem codec_field (k : Int) : Codec (rField k) (enFld k) (okFld k) := by
  by_cases h : k = 1 ∨ k = 2 ∨ k = 3 ∨ k = 4 ∨ k = 6
  · rcases h with rfl | rfl | rfl | rfl | rfl
    · exact codec_of codec_f1 (fun x => { noFld with pre := x }) (·.pre) rField_1 (fun _ => rfl) (fun f => if_pos rfl) (fun f => by unfold okFld; rw [if_pos rfl])
    · exact codec_of codec_f2 (fun x => { noFld with cel := x }) (·.cel) rField_2 (fun _ => rfl) (fun f => by unfold enFld; rw [if_neg (by decide), if_pos rfl]) (fun f => by unfold okFld; rw [if_neg (by decide), if_pos rfl])
    · exact codec_of codec_f3 (fun x => { noFld with ids := x }) (·.ids) rField_3 (fun _ => rfl) (fun f => by unfold enFld; rw [if_neg (by decide), if_neg (by decide), if_pos rfl]) (fun f => by unfold okFld; rw [if_neg (by decide), if_neg (by decide), if_pos rfl])
    · exact codec_of codec_f4 (fun x => { noFld with obj := x }) (·.obj) rField_4 (fun _ => rfl) (fun f => by unfold enFld; rw [if_neg (by decide), if_neg (by decide), if_neg (by decide), if_pos rfl]) (fun f => by unfold okFld; rw [if_neg (by decide), if_neg (by decide), if_neg (by decide), if_pos rfl])
    · exact codec_of codec_marks (fun x => { noFld with mar := x }) (·.mar) rField_6 (fun _ => rfl) (fun f => by unfold enFld; rw [if_neg (by decide), if_neg (by decide), if_neg (by decide), if_neg (by decide), if_pos rfl]) (fun f => by unfold okFld; rw [if_neg (by decide), if_neg (by decide), if_neg (by decide), if_neg (by decide), if_pos rfl])
  · constructor
    · intro s hs
      rw [rField_no k h] at hs ⊢
      rw [enFld_no k h, okFld_no k h]
      exact ⟨hs, rfl, (nil_app _).symm⟩
    · intro f r hf
      rw [rField_no k h, enFld_no k h, nil_app, (okFld_no k h f).1 hf]
def okHd (h : Hd) : Prop := (0 ≤ h.1 ∧ h.1 < 256) ∧ okN h.2.1 ∧ okN h.2.2.1 ∧ okN h.2.2.2.1 ∧ okN h.2.2.2.2
def enHd (h : Hd) : ByteArray := enKind h.1 ++ (enNum h.2.1 ++ (enNum h.2.2.1 ++ (enNum h.2.2.2.1 ++ enNum h.2.2.2.2)))
theorem codec_head : Codec rHead enHd okHd := codec_kind.seq (Mk.codec_n.seq (Mk.codec_n.seq (Mk.codec_n.seq Mk.codec_n)))
def hdOf (m : Msg) : Hd := (m.kind, m.src, m.dst, m.ses, m.step)
def okMsg (m : Msg) : Prop := okHd (hdOf m) ∧ okFld m.kind (fldOf m)
theorem codec_msg : Codec rMsg enBody okMsg :=
  (codec_dep (one := rHead) (two := fun h => rField h.1) codec_head (fun h => codec_field h.1)).map (fun p : Hd × Fld => msgOf p.1 p.2) (fun m => (hdOf m, fldOf m)) (fun s => rfl)
    (fun x hx => ⟨hx, rfl⟩) (fun m hm => ⟨hm, rfl⟩)
-- right messages can be read back
theorem goodM_at {m : Msg} (h : goodM m = true) : (1 ≤ m.src ∧ m.src ≤ 7) ∧ (1 ≤ m.dst ∧ m.dst ≤ 7) ∧ ((0 ≤ m.ses ∧ m.ses ≤ 1073741824) ∧ (0 ≤ m.step ∧ m.step ≤ 1073741824)) ∧ Alone m ∧ (∀ x ∈ m.pre, pfxB x = true) ∧ (∀ c ∈ m.cel, chk c = 0) ∧ (∀ x ∈ m.obj, x.size ≤ 131072) ∧ IsSet m.ids ∧ goodB m.mar = true := by
  unfold goodM nodesB numsB aloneB at h
  simp only [Bool.and_eq_true, decide_eq_true_eq, List.all_eq_true, Tr.holds_iff] at h
  obtain ⟨⟨⟨⟨⟨⟨⟨h1, h2⟩, h3⟩, h4⟩, h5⟩, h6⟩, h7⟩, h8⟩ := h
  exact ⟨h1.1, h1.2.1, h2, h3, h4, fun c hc => of_decide_eq_true (h5 c hc), fun x hx => of_decide_eq_true (h6 x hx), h7, h8⟩
theorem pfx_size {p : ByteArray} (h : pfxB p = true) : p.size ≤ 64 := by
  unfold pfxB at h
  simp only [Bool.and_eq_true, decide_eq_true_eq] at h
  exact h.1
theorem ok_cell {c : Cp} (h : chk c = 0) : okCell c := by
  unfold chk at h
  split at h
  · omega
  next h1 =>
  have hp : pfxB c.pre = true := by
    cases hq : pfxB c.pre
    · exact absurd (.inl hq) h1
    · rfl
  have hn : okN c.cnt := ⟨by
    rcases Int.lt_or_le c.cnt 0 with h | h
    · exact absurd (.inr (.inl h)) h1
    · exact h, by
    rcases Int.lt_or_le 1073741824 c.cnt with h | h
    · exact absurd (.inr (.inr h)) h1
    · omega⟩
  split at h
  · next h2 =>
    unfold leafChk at h
    split at h
    · omega
    next h3 =>
    split at h
    · omega
    next h4 =>
    have hsum : c.sum = leafS c.ids := Classical.not_not.1 h4
    have hk : c.kids = [] := by
      rcases Nat.eq_zero_or_pos c.kids.length with h | h
      · exact List.length_eq_zero_iff.1 h
      · exact absurd (.inr (.inl h)) h3
    have hi : (c.ids.length : Int) = c.cnt := Classical.not_not.1 fun hq => h3 (.inl hq)
    have hs : IsSet c.ids := Classical.not_not.1 fun hq => h3 (.inr (.inr (.inl hq)))
    exact ⟨pfx_size hp, hn, by rw [hsum]; exact Tr.leafS_size _, .inr ⟨h2, hk, hi, fun x hx => hs.size hx⟩⟩
  · next h2 =>
    split at h
    · omega
    next h3 =>
    split at h
    · omega
    next h4 =>
    have hsum : c.sum = innerS c.kids := Classical.not_not.1 h4
    have hi : c.ids = [] := by
      rcases Nat.eq_zero_or_pos c.ids.length with h | h
      · exact List.length_eq_zero_iff.1 h
      · exact absurd (.inl h) h3
    have hk : c.kids.length = 16 := Classical.not_not.1 fun hq => h3 (.inr (.inl hq))
    have ha : all32 c.kids = true := by
      cases hq : all32 c.kids
      · exact absurd (.inr (.inr (.inl hq))) h3
      · rfl
    exact ⟨pfx_size hp, hn, by rw [hsum]; exact Tr.innerS_size _, .inl ⟨by omega, hi, hk, Tr.all32_iff.1 ha⟩⟩
theorem nil_of {α : Type} {l : List α} (h : l.length = 0) : l = [] := List.length_eq_zero_iff.1 h
theorem mkN_zero {m : Mks} (h : mkN m = 0) : m = Mks.empty := by
  unfold mkN at h
  obtain ⟨a, b, c⟩ := m
  simp only at h
  have h1 := nil_of (l := a) (by omega)
  have h2 := nil_of (l := b) (by omega)
  have h3 := nil_of (l := c) (by omega)
  rw [h1, h2, h3]
  rfl
theorem ok_msg {m : Msg} (h : goodM m = true) : okMsg m := by
  obtain ⟨h1, h2, ⟨h3, h4⟩, ⟨⟨a1, a2, a3, a4, a5⟩, hk⟩, h5, h6, h7, h8, h9⟩ := goodM_at h
  obtain ⟨k, src, dst, ses, step, pre, cel, ids, obj, mar⟩ := m
  simp only at *
  refine ⟨⟨?_, ?_, ?_, ?_, ?_⟩, ?_⟩
  · show 0 ≤ k ∧ k < 256
    omega
  · show 0 ≤ src ∧ src < 4294967296
    omega
  · show 0 ≤ dst ∧ dst < 4294967296
    omega
  · show 0 ≤ ses ∧ ses < 4294967296
    omega
  · show 0 ≤ step ∧ step < 4294967296
    omega
  · have e1 : k ≠ 1 → pre = [] := fun hq => nil_of (a1.resolve_left hq)
    have e2 : k ≠ 2 → cel = [] := fun hq => nil_of (a2.resolve_left hq)
    have e3 : k ≠ 3 → ids = [] := fun hq => nil_of (a3.resolve_left hq)
    have e4 : k ≠ 4 → obj = [] := fun hq => nil_of (a4.resolve_left hq)
    have e5 : k ≠ 6 → mar = Mks.empty := fun hq => mkN_zero (a5.resolve_left hq)
    show okFld k ⟨pre, cel, ids, obj, mar⟩
    unfold okFld noFld
    by_cases g1 : k = 1
    · rw [if_pos g1]
      exact ⟨⟨by simp only; omega, fun x hx => pfx_size (h5 x hx)⟩, by rw [e2 (by omega), e3 (by omega), e4 (by omega), e5 (by omega)]⟩
    rw [if_neg g1]
    by_cases g2 : k = 2
    · rw [if_pos g2]
      exact ⟨⟨by simp only; omega, fun x hx => ok_cell (h6 x hx)⟩, by rw [e1 (by omega), e3 (by omega), e4 (by omega), e5 (by omega)]⟩
    rw [if_neg g2]
    by_cases g3 : k = 3
    · rw [if_pos g3]
      exact ⟨⟨by simp only; omega, fun x hx => h8.size hx⟩, by rw [e1 (by omega), e2 (by omega), e4 (by omega), e5 (by omega)]⟩
    rw [if_neg g3]
    by_cases g4 : k = 4
    · rw [if_pos g4]
      exact ⟨⟨by simp only; omega, h7⟩, by rw [e1 (by omega), e2 (by omega), e3 (by omega), e5 (by omega)]⟩
    rw [if_neg g4]
    by_cases g6 : k = 6
    · rw [if_pos g6]
      exact ⟨h9, by rw [e1 (by omega), e2 (by omega), e3 (by omega), e4 (by omega)]⟩
    rw [if_neg g6, e1 (by omega), e2 (by omega), e3 (by omega), e4 (by omega), e5 (by omega)]
theorem enField_size {m : Msg} (h : goodM m = true) : (enField m).size ≤ 2200000 := by
  have ho := ok_msg h
  obtain ⟨-, hf⟩ := ho
  unfold okFld at hf
  unfold enField enFld
  by_cases g1 : m.kind = 1
  · rw [if_pos g1] at hf ⊢
    have := Mk.enAll_size (en := enText) (c := 68) m.pre fun x hx => by rw [Mk.enText_size]; have := hf.1.2 x hx; omega
    have h0 : m.pre.length ≤ 64 := hf.1.1
    show (enNum _ ++ enAll enText m.pre).size ≤ _
    rw [ByteArray.size_append, Mk.enNum_size]
    omega
  rw [if_neg g1] at hf ⊢
  by_cases g2 : m.kind = 2
  · rw [if_pos g2] at hf ⊢
    have := Mk.enAll_size (en := enCell) (c := 1000) m.cel fun x hx => by
      obtain ⟨c1, c2, c3, c4⟩ := hf.1.2 x hx
      have i1 := Mk.enAll_size (en := idB) (c := 32) x.ids fun y hy => by
        rcases c4 with ⟨_, e, _, _⟩ | ⟨_, _, _, e⟩
        · rw [e] at hy; cases hy
        · exact Nat.le_of_eq (e y hy)
      have i2 := Mk.enAll_size (en := idB) (c := 32) x.kids fun y hy => by
        rcases c4 with ⟨_, _, _, e⟩ | ⟨_, e, _, _⟩
        · exact Nat.le_of_eq (e y hy)
        · rw [e] at hy; cases hy
      have i3 : x.ids.length ≤ 8 ∧ x.kids.length ≤ 16 := by
        rcases c4 with ⟨_, e, f, _⟩ | ⟨f, e, g, _⟩
        · rw [e, f]; exact ⟨by decide, by decide⟩
        · rw [e]; exact ⟨by omega, by decide⟩
      unfold enCell
      simp only [ByteArray.size_append, Mk.enNum_size, Mk.enText_size]
      omega
    have h0 : m.cel.length ≤ 64 := hf.1.1
    show (enNum _ ++ enAll enCell m.cel).size ≤ _
    rw [ByteArray.size_append, Mk.enNum_size]
    omega
  rw [if_neg g2] at hf ⊢
  by_cases g3 : m.kind = 3
  · rw [if_pos g3] at hf ⊢
    have := Mk.enAll_size (en := idB) (c := 32) m.ids fun x hx => Nat.le_of_eq (hf.1.2 x hx)
    have h0 : m.ids.length ≤ 1024 := hf.1.1
    show (enNum _ ++ enAll idB m.ids).size ≤ _
    rw [ByteArray.size_append, Mk.enNum_size]
    omega
  rw [if_neg g3] at hf ⊢
  by_cases g4 : m.kind = 4
  · rw [if_pos g4] at hf ⊢
    have := Mk.enAll_size (en := enText) (c := 131076) m.obj fun x hx => by rw [Mk.enText_size]; have := hf.1.2 x hx; omega
    have h0 : m.obj.length ≤ 16 := hf.1.1
    show (enNum _ ++ enAll enText m.obj).size ≤ _
    rw [ByteArray.size_append, Mk.enNum_size]
    omega
  rw [if_neg g4] at hf ⊢
  by_cases g6 : m.kind = 6
  · rw [if_pos g6] at hf ⊢
    have := Mk.pre3_size (Mk.ok_mk hf.1) m.mar.tombs.length
    rw [show (fldOf m).mar = m.mar from rfl] at this
    rw [Mk.pre3_end] at this
    show (enText (enMk m.mar)).size ≤ _
    rw [Mk.enText_size]
    omega
  · rw [if_neg g6]
    show (0 : Nat) ≤ _
    omega
theorem enBody_size {m : Msg} (h : goodM m = true) : 17 ≤ (enBody m).size ∧ (enBody m).size ≤ 2200017 := by
  have := enField_size h
  have e : (enBody m).size = 17 + (enField m).size := by
    unfold enBody
    simp only [ByteArray.size_append, Mk.enNum_size]
    have : (enKind m.kind).size = 1 := rfl
    omega
  omega
-- whole messages
noncomputable def readM (b : ByteArray) : Int × Msg :=
  if (rMsg (b, false)).2.2 = false ∧ (rMsg (b, false)).2.1.size = 0 ∧ goodM (rMsg (b, false)).1 = true then (0, (rMsg (b, false)).1) else (4, noMsg)
noncomputable def decM (s : ByteArray) : Int × Msg :=
  if (rNum (rNum (s, false)).2).2.2 = true ∨ (rNum (s, false)).1 ≠ ((rNum (rNum (s, false)).2).2.1.size : Int) then (3, noMsg)
  else if (crcB (rNum (rNum (s, false)).2).2.1 : Int) ≠ (rNum (rNum (s, false)).2).1 then (20, noMsg)
  else readM (rNum (rNum (s, false)).2).2.1
theorem crcB_lt (s : ByteArray) : crcB s < 4294967296 := Pak.crc_lt _
theorem two_nums {a b : Nat} (ha : a < 4294967296) (hb : b < 4294967296) (q : ByteArray) : rNum (enNum a ++ (enNum b ++ q), false) = ((a : Int), enNum b ++ q, false) ∧ rNum (enNum b ++ q, false) = ((b : Int), q, false) :=
  ⟨codec_num.app _ _ ⟨by omega, by omega⟩, codec_num.app _ _ ⟨by omega, by omega⟩⟩
theorem decM_parts {a b : Nat} (ha : a < 4294967296) (hb : b < 4294967296) (q : ByteArray) : decM (enNum a ++ (enNum b ++ q)) = if a ≠ q.size then (3, noMsg) else if crcB q ≠ b then (20, noMsg) else readM q := by
  obtain ⟨e1, e2⟩ := two_nums ha hb q
  unfold decM
  simp only [e1, e2]
  by_cases h1 : a = q.size
  · subst h1
    by_cases h2 : crcB q = b
    · subst h2
      simp
    · have : ¬ ((crcB q : Int) = (b : Int)) := by omega
      simp [h2, this]
  · have : ¬ ((a : Int) = (q.size : Int)) := by omega
    simp [h1, this]
theorem decM_frame (b : ByteArray) (hb : b.size < 4294967296) : decM (frameB b) = readM b := by
  unfold frameB
  rw [decM_parts hb (crcB_lt b)]
  simp
theorem readM_cases (b : ByteArray) : (readM b = (4, noMsg)) ∨ ((readM b).1 = 0 ∧ goodM (readM b).2 = true ∧ enBody (readM b).2 = b) := by
  unfold readM
  split
  · next h =>
    refine .inr ⟨rfl, h.2.2, ?_⟩
    obtain ⟨_, _, h3⟩ := codec_msg.back (b, false) h.1
    have h4 : (rMsg (b, false)).2.1 = ⟨#[]⟩ := by
      have h5 : (rMsg (b, false)).2.1.data.toList.length = 0 := h.2.1
      apply ByteArray.ext
      apply Array.ext'
      exact List.length_eq_zero_iff.1 h5
    rw [h4, app_nil] at h3
    exact h3.symm
  · exact .inl rfl
theorem readM_body {m : Msg} (h : goodM m = true) : readM (enBody m) = (0, m) := by
  have := codec_msg.app m ⟨#[]⟩ (ok_msg h)
  rw [app_nil] at this
  unfold readM
  rw [this]
  exact if_pos ⟨rfl, rfl, h⟩
theorem decM_enc {m : Msg} (h : goodM m = true) : decM (encM m) = (0, m) := by
  unfold encM
  rw [decM_frame _ (by have := enBody_size h; omega), readM_body h]
theorem decM_cases (s : ByteArray) : ((decM s).2 = noMsg ∧ ((decM s).1 = 3 ∨ (decM s).1 = 20 ∨ (decM s).1 = 4)) ∨ ((decM s).1 = 0 ∧ goodM (decM s).2 = true ∧ encM (decM s).2 = s) := by
  unfold decM
  split
  · exact .inl ⟨rfl, .inl rfl⟩
  next h1 =>
  split
  · exact .inl ⟨rfl, .inr (.inl rfl)⟩
  next h2 =>
  rcases readM_cases (rNum (rNum (s, false)).2).2.1 with h3 | ⟨h3, h4, h5⟩
  · rw [h3]; exact .inl ⟨rfl, .inr (.inr rfl)⟩
  · refine .inr ⟨h3, h4, ?_⟩
    have hb : (rNum (rNum (s, false)).2).2.2 = false := by
      cases hq : (rNum (rNum (s, false)).2).2.2
      · rfl
      · exact absurd (.inl hq) h1
    obtain ⟨a1, a2, a3⟩ := codec_num.back _ hb
    obtain ⟨b1, b2, b3⟩ := codec_num.back _ a1
    have hs : (rNum (s, false)).1 = ((rNum (rNum (s, false)).2).2.1.size : Int) := Classical.not_not.1 fun hq => h1 (.inr hq)
    have hc : (crcB (rNum (rNum (s, false)).2).2.1 : Int) = (rNum (rNum (s, false)).2).1 := Classical.not_not.1 h2
    unfold encM frameB
    rw [h5]
    rw [← hs] at *
    rw [hc]
    show _ = (s, false).1
    rw [b3, a3]
theorem encM_inj {m m' : Msg} (h : goodM m = true) (h' : goodM m' = true) (e : encM m = encM m') : m = m' := by
  have := decM_enc h
  rw [e, decM_enc h'] at this
  injection this with _ this
  exact this.symm
theorem decM_short {n : Nat} (hn : n < 4294967296) {q : ByteArray} (hq : q.size ≠ n + 4) : decM (enNum n ++ q) = (3, noMsg) := by
  have e1 : rNum (enNum n ++ q, false) = ((n : Int), q, false) := codec_num.app _ _ ⟨by omega, by omega⟩
  unfold decM
  simp only [e1]
  cases hb : (rNum (q, false)).2.2
  · obtain ⟨_, _, h3⟩ := codec_num.back (q, false) hb
    have h4 : q.size = 4 + (rNum (q, false)).2.1.size := by
      have := congrArg ByteArray.size h3
      rw [ByteArray.size_append, Mk.enNum_size] at this
      exact this
    rw [if_pos (.inr (by omega))]
  · rw [if_pos (.inl rfl)]
end Go.Proofs.YtljenganlknhbaaGreat.Fr

/- Messages as they lie in memory; slices.ContainsFunc at texts and at cells, walked. At most 1,000,000 things. (Layer 19.) -/
namespace Go.Proofs.YtljenganlknhbaaGreat.Fr
set_option linter.unusedVariables false
set_option linter.unusedSimpArgs false
open Go.RowKit Go.Lib
open Set (StrAt scells)
open Tr (Cp noC aggC strAt_at chk)
open Mk (Tells fnv idxOf idxOf_none idxOf_some idxOf_any take_snoc' MkR aMk)
/-- A cell as it lies. -/
structure CpR where
  c : Cp
  iv : Value
  kv : Value
def vCp (x : CpR) : List Value := [.string x.c.pre, .int .i64 x.c.cnt, .string x.c.sum, x.iv, x.kv]
def aCp (x : CpR) : Value := .agg #[.string x.c.pre, .int .i64 x.c.cnt, .string x.c.sum, x.iv, x.kv]
def CpR.Reads (w : World) (x : CpR) : Prop := StrAt w x.iv x.c.ids ∧ StrAt w x.kv x.c.kids
theorem CpR.Reads.later {w w' : World} {x : CpR} (h : x.Reads w) (hb : Below w.heap.size w w') : x.Reads w' := ⟨h.1.later hb, h.2.later hb⟩
def CellsAt (w : World) (v : Value) (zs : List CpR) : Prop := RowAt 5 vCp w v zs ∧ ∀ z ∈ zs, z.Reads w
theorem CellsAt.later {w w' : World} {v : Value} {zs : List CpR} (h : CellsAt w v zs) (hb : Below w.heap.size w w') : CellsAt w' v zs := ⟨h.1.later hb, fun z hz => (h.2 z hz).later hb⟩
/-- A message as it lies. -/
structure MsgR where
  kind : Int
  src : Int
  dst : Int
  ses : Int
  step : Int
  pre : List ByteArray
  cel : List CpR
  ids : List ByteArray
  obj : List ByteArray
  mar : MkR
  pv : Value
  cv : Value
  iv : Value
  ov : Value
def MsgR.msg (m : MsgR) : Msg := ⟨m.kind, m.src, m.dst, m.ses, m.step, m.pre, m.cel.map (·.c), m.ids, m.obj, m.mar.mk_⟩
def aMsg (m : MsgR) : Value := .agg #[.int .i64 m.kind, .int .i64 m.src, .int .i64 m.dst, .int .i64 m.ses, .int .i64 m.step, m.pv, m.cv, m.iv, m.ov, m.mar.rv, m.mar.kv, m.mar.bv]
def MsgR.Reads (w : World) (m : MsgR) : Prop := StrAt w m.pv m.pre ∧ CellsAt w m.cv m.cel ∧ StrAt w m.iv m.ids ∧ StrAt w m.ov m.obj ∧ m.mar.Reads w
theorem MsgR.Reads.later {w w' : World} {m : MsgR} (h : m.Reads w) (hb : Below w.heap.size w w') : m.Reads w' := ⟨h.1.later hb, h.2.1.later hb, h.2.2.1.later hb, h.2.2.2.1.later hb, h.2.2.2.2.later hb⟩
theorem StrAt.form {w : World} {v : Value} {l : List ByteArray} (h : StrAt w v l) : ∃ ao cap, v = .slice ao l.length cap := by
  obtain ⟨ao, cap, hv, -⟩ := h
  exact ⟨ao, cap, hv⟩
/-- A message as it lies, its rows written out. -/
theorem MsgR.form {m : MsgR} {w : World} (h : m.Reads w) : ∃ o1 f1 o2 f2 o3 f3 o4 f4 o5 f5 o6 f6 o7 f7, m.pv = .slice o1 m.pre.length f1 ∧ m.cv = .slice o2 m.cel.length f2 ∧ m.iv = .slice o3 m.ids.length f3 ∧ m.ov = .slice o4 m.obj.length f4 ∧
    m.mar.rv = .slice o5 m.mar.refs.length f5 ∧ m.mar.kv = .slice o6 m.mar.toks.length f6 ∧ m.mar.bv = .slice o7 m.mar.tombs.length f7 := by
  obtain ⟨h1, h2, h3, h4, h5⟩ := h
  obtain ⟨o1, f1, e1⟩ := StrAt.form h1
  obtain ⟨o2, f2, e2, -⟩ := h2.1.form
  obtain ⟨o3, f3, e3⟩ := StrAt.form h3
  obtain ⟨o4, f4, e4⟩ := StrAt.form h4
  obtain ⟨o5, f5, e5, -⟩ := h5.1.form
  obtain ⟨o6, f6, e6, -⟩ := h5.2.1.form
  obtain ⟨o7, f7, e7, -⟩ := h5.2.2.1.form
  exact ⟨o1, f1, o2, f2, o3, f3, o4, f4, o5, f5, o6, f6, o7, f7, e1, e2, e3, e4, e5, e6, e7⟩
def aStr (s : ByteArray) : Value := .string s
set_option maxRecDepth 100000 in
set_option maxHeartbeats 1000000 in
theorem ix_str (v : Value) (l : List ByteArray) (g : Nat) (lb : Array Value) (p : ByteArray → Bool) (w : World) (h : StrAt w v l) (hp : Tells g lb aStr p l w) (hn : l.length ≤ 1000000) :
    Calls Tryz.prog 83 #[v, .func (.func g) #[] lb] w fun e w' => e = .returned (.int .i64 (idxOf p l)) ∧ Below w.heap.size w w' := by
  obtain ⟨ao, cap, rfl, hlc, hcm, hcell⟩ := h
  have h : StrAt w (.slice ao l.length cap) l := ⟨ao, cap, rfl, hlc, hcm, hcell⟩
  have HS := Lib.hid h
  obtain ⟨n, hnn⟩ : ∃ n, n = l.length := ⟨_, rfl⟩
  rw [← hnn] at hn hlc HS ⊢
  have HL := Lib.hid hnn
  have HP := Lib.hid hp.2
  have eg := hp.1
  clear hcell hnn hp h
  go_enter Tryz.func83, Tryz.ntmps83
  go_wp2_with fail
  go_loopw [8] (fun i wr => ∃ k : Nat, i = .int .i64 (k : Int) ∧ k ≤ n ∧ Hid (∀ x ∈ l.take k, p x = false) ∧ Hid (Below w.heap.size w wr)) (fun i _ => n - (RowKit.intOf i).toNat)
  case atStart => exact ⟨0, rfl, Nat.zero_le _, Lib.hid (fun x hx => by simp at hx), Lib.hid (Below.refl _ _)⟩
  case round =>
    obtain ⟨k, rfl, hkl, HM, HB⟩ := hrel
    rcases Nat.lt_or_ge k n with hlt | hge
    · have ki : (k : Int) < n := by omega
      have hkL : k < l.length := by rw [← HL.out]; exact hlt
      obtain ⟨b, off, hao, hblt, hc⟩ := strAt_at HS.out (by omega)
      subst hao
      have hq := HP.out l[k] (List.getElem_mem hkL) wr HB.out
      have htk := take_snoc' hkL
      have hpl : p l[k] = true → idxOf p l = (k : Int) := idxOf_some hkL HM.out
      have c0 : wr.cell? ⟨b, off + k, none⟩ = some (.string l[k]) := by
        have := hc k hlt
        rw [getElem!_pos l k hkL] at this
        rw [HB.out.cell hblt]; exact this
      obtain ⟨x, hx⟩ : ∃ x, x = l[k] := ⟨_, rfl⟩
      rw [← hx] at hq hpl htk c0
      obtain ⟨pv, hpv⟩ : ∃ pv, pv = p x := ⟨_, rfl⟩
      rw [← hpv] at hq hpl
      have hq2 : Calls Tryz.prog g (#[.string x] ++ lb) wr fun e w' => e = .returned (.bool pv) ∧ Below wr.heap.size wr w' := hq
      have HQ := Lib.hid hq2
      have HI := Lib.hid (And.intro hpl (And.intro htk hpv))
      clear hc hq hq2 hx hpl htk hpv
      cases pv
      · go_wp2_with (go_at_fn g; refine HQ.out.mono ?_; rintro e w2 ⟨rfl, hb2⟩; have H2 := Lib.hid (HB.out.trans (hb2.mono HB.out.size)); clear hb2)
        refine ⟨⟨k + 1, by simp, by omega, Lib.hid ?_, H2⟩, by simp [RowKit.intOf]; omega⟩
        rw [HI.out.2.1]
        intro y hy
        rcases List.mem_append.1 hy with hy | hy
        · exact HM.out y hy
        · rcases List.mem_singleton.1 hy with rfl
          exact HI.out.2.2.symm
      · go_wp2_with (go_at_fn g; refine HQ.out.mono ?_; rintro e w2 ⟨rfl, hb2⟩; have H2 := Lib.hid (HB.out.trans (hb2.mono HB.out.size)); clear hb2)
        go_ret
        exact ⟨by rw [HI.out.1 (by simp)]; rfl, H2.out⟩
    · have ki : decide (k < n) = false := decide_eq_false (by omega)
      obtain rfl : k = n := by omega
      go_wp2_with fail
      go_ret
      have := HM.out
      rw [HL.out, List.take_length] at this
      exact ⟨by rw [idxOf_none this]; rfl, HB.out⟩
theorem cf_str (v : Value) (l : List ByteArray) (g : Nat) (lb : Array Value) (p : ByteArray → Bool) (w : World) (h : StrAt w v l) (hp : Tells g lb aStr p l w) (hn : l.length ≤ 1000000) :
    Calls Tryz.prog 31 #[v, .func (.func g) #[] lb] w fun e w' => e = .returned (.bool (l.any p)) ∧ Below w.heap.size w w' := by
  have I := Lib.hid (ix_str v l g lb p w h hp hn)
  obtain ⟨ao, cap, rfl⟩ := StrAt.form h
  have hia := idxOf_any p l
  obtain ⟨i, hi⟩ : ∃ i, i = idxOf p l := ⟨_, rfl⟩
  obtain ⟨n, hnn⟩ : ∃ n, n = l.length := ⟨_, rfl⟩
  rw [← hi] at I hia
  rw [← hnn] at I ⊢
  rw [← hia]
  clear h hp hi hia hnn hn
  go_enter Tryz.func31, Tryz.ntmps31
  go_wp2_with fail
  refine I.out.mono ?_
  rintro e w2 ⟨rfl, hb⟩
  have H := Lib.hid hb
  clear I hb
  go_wp2_with fail
  go_ret
  exact ⟨rfl, H.out⟩
set_option maxRecDepth 100000 in
set_option maxHeartbeats 1000000 in
theorem ix_cp (v : Value) (l : List CpR) (g : Nat) (lb : Array Value) (p : CpR → Bool) (w : World) (h : RowAt 5 vCp w v l) (hp : Tells g lb aCp p l w) (hn : l.length ≤ 1000000) :
    Calls Tryz.prog 84 #[v, .func (.func g) #[] lb] w fun e w' => e = .returned (.int .i64 (idxOf p l)) ∧ Below w.heap.size w w' := by
  obtain ⟨ao, cap, rfl, hlc, hcm, hcell⟩ := h
  obtain ⟨n, hnn⟩ : ∃ n, n = l.length := ⟨_, rfl⟩
  rw [← hnn] at hn hlc ⊢
  have HL := Lib.hid hnn
  have HC := Lib.hid hcell
  have HP := Lib.hid hp.2
  have eg := hp.1
  clear hcell hnn hp
  go_enter Tryz.func84, Tryz.ntmps84
  go_wp2_with fail
  go_loopw [8] (fun i wr => ∃ k : Nat, i = .int .i64 (k : Int) ∧ k ≤ n ∧ Hid (∀ x ∈ l.take k, p x = false) ∧ Hid (Below w.heap.size w wr)) (fun i _ => n - (RowKit.intOf i).toNat)
  case atStart => exact ⟨0, rfl, Nat.zero_le _, Lib.hid (fun x hx => by simp at hx), Lib.hid (Below.refl _ _)⟩
  case round =>
    obtain ⟨k, rfl, hkl, HM, HB⟩ := hrel
    rcases Nat.lt_or_ge k n with hlt | hge
    · have ki : (k : Int) < n := by omega
      have hkL : k < l.length := by rw [← HL.out]; exact hlt
      obtain ⟨b, off, rfl, hblt, hc⟩ := HC.out (by rw [← HL.out]; omega)
      have hq := HP.out l[k] (List.getElem_mem hkL) wr HB.out
      have htk := take_snoc' hkL
      have hpl : p l[k] = true → idxOf p l = (k : Int) := idxOf_some hkL HM.out
      obtain ⟨x, hx⟩ : ∃ x, x = l[k] := ⟨_, rfl⟩
      rw [← hx] at hq hpl htk
      obtain ⟨⟨a0, a1, a2, a5, a6⟩, a3, a4⟩ := x
      have c0 : wr.cell? ⟨b, off + k * 5, none⟩ = some (.string a0) := by
        have := hc (k) hkL 0 (.string a0) (by rw [← hx]; rfl)
        rw [HB.out.cell hblt]; simpa using this
      have c1 : wr.cell? ⟨b, off + k * 5 + 1, none⟩ = some (.int .i64 a1) := by
        have := hc (k) hkL 1 (.int .i64 a1) (by rw [← hx]; rfl)
        rw [HB.out.cell hblt]; simpa using this
      have c2 : wr.cell? ⟨b, off + k * 5 + 2, none⟩ = some (.string a2) := by
        have := hc (k) hkL 2 (.string a2) (by rw [← hx]; rfl)
        rw [HB.out.cell hblt]; simpa using this
      have c3 : wr.cell? ⟨b, off + k * 5 + 3, none⟩ = some a3 := by
        have := hc (k) hkL 3 a3 (by rw [← hx]; rfl)
        rw [HB.out.cell hblt]; simpa using this
      have c4 : wr.cell? ⟨b, off + k * 5 + 4, none⟩ = some a4 := by
        have := hc (k) hkL 4 a4 (by rw [← hx]; rfl)
        rw [HB.out.cell hblt]; simpa using this
      obtain ⟨pv, hpv⟩ : ∃ pv, pv = p ⟨⟨a0, a1, a2, a5, a6⟩, a3, a4⟩ := ⟨_, rfl⟩
      rw [← hpv] at hq hpl
      have hq2 : Calls Tryz.prog g (#[.agg #[.string a0, .int .i64 a1, .string a2, a3, a4]] ++ lb) wr fun e w' => e = .returned (.bool pv) ∧ Below wr.heap.size wr w' := hq
      have HQ := Lib.hid hq2
      have HI := Lib.hid (And.intro hpl (And.intro htk hpv))
      clear hc hq hq2 hx hpl htk hpv
      cases pv
      · go_wp2_with (go_at_fn g; refine HQ.out.mono ?_; rintro e w2 ⟨rfl, hb2⟩; have H2 := Lib.hid (HB.out.trans (hb2.mono HB.out.size)); clear hb2)
        refine ⟨⟨k + 1, by simp, by omega, Lib.hid ?_, H2⟩, by simp [RowKit.intOf]; omega⟩
        rw [HI.out.2.1]
        intro y hy
        rcases List.mem_append.1 hy with hy | hy
        · exact HM.out y hy
        · rcases List.mem_singleton.1 hy with rfl
          exact HI.out.2.2.symm
      · go_wp2_with (go_at_fn g; refine HQ.out.mono ?_; rintro e w2 ⟨rfl, hb2⟩; have H2 := Lib.hid (HB.out.trans (hb2.mono HB.out.size)); clear hb2)
        go_ret
        exact ⟨by rw [HI.out.1 (by simp)]; rfl, H2.out⟩
    · have ki : decide (k < n) = false := decide_eq_false (by omega)
      obtain rfl : k = n := by omega
      go_wp2_with fail
      go_ret
      have := HM.out
      rw [HL.out, List.take_length] at this
      exact ⟨by rw [idxOf_none this]; rfl, HB.out⟩
theorem cf_cp (v : Value) (l : List CpR) (g : Nat) (lb : Array Value) (p : CpR → Bool) (w : World) (h : RowAt 5 vCp w v l) (hp : Tells g lb aCp p l w) (hn : l.length ≤ 1000000) :
    Calls Tryz.prog 32 #[v, .func (.func g) #[] lb] w fun e w' => e = .returned (.bool (l.any p)) ∧ Below w.heap.size w w' := by
  have I := Lib.hid (ix_cp v l g lb p w h hp hn)
  obtain ⟨ao, cap, rfl, -, -⟩ := h.form
  have hia := idxOf_any p l
  obtain ⟨i, hi⟩ : ∃ i, i = idxOf p l := ⟨_, rfl⟩
  obtain ⟨n, hnn⟩ : ∃ n, n = l.length := ⟨_, rfl⟩
  rw [← hi] at I hia
  rw [← hnn] at I ⊢
  rw [← hia]
  clear h hp hi hia hnn hn
  go_enter Tryz.func32, Tryz.ntmps32
  go_wp2_with fail
  refine I.out.mono ?_
  rintro e w2 ⟨rfl, hb⟩
  have H := Lib.hid hb
  clear I hb
  go_wp2_with fail
  go_ret
  exact ⟨rfl, H.out⟩
end Go.Proofs.YtljenganlknhbaaGreat.Fr

