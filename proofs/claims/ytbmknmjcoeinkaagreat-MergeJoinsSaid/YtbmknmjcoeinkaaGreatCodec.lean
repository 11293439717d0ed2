/- Readers and their writers: plain laws of bytes that are read back. A reader takes a state (what is left, whether it is bad) to a thing and a state. No program is walked. -/
import Derived.Test.YtbmknmjcoeinkaaGreatBytes
namespace Go.Proofs.YtbmknmjcoeinkaaGreat.Oct
set_option linter.unusedVariables false
abbrev RS := ByteArray × Bool
def spoilt : RS := (⟨#[]⟩, true)
def rNum (s : RS) : Int × RS := ((val (takeR s.1 s.2 4).1.data.toList : Nat), (takeR s.1 s.2 4).2)
def rTake (n : Int) (s : RS) : ByteArray × RS := takeR s.1 s.2 n
def rText (most : Int) (s : RS) : ByteArray × RS := textR s.1 s.2 most
/-- So many things, as long as all goes well. -/
def rList {α : Type} (one : RS → α × RS) : Nat → RS → List α × RS
  | 0, s => ([], s)
  | n + 1, s => if s.2 = true then ([], s) else ((one s).1 :: (rList one n (one s).2).1, (rList one n (one s).2).2)
/-- So many things as a number tells, at most most. -/
def rMany {α : Type} (one : RS → α × RS) (most : Int) (s : RS) : List α × RS :=
  rList one (rNum s).1.toNat (if most < (rNum s).1 then spoilt else (rNum s).2)
/-- A reader that reads back what en has written of what is ok, and reads nothing else. -/
structure Codec {α : Type} (one : RS → α × RS) (en : α → ByteArray) (ok : α → Prop) : Prop where
  back : ∀ s, (one s).2.2 = false → s.2 = false ∧ ok (one s).1 ∧ s.1 = en (one s).1 ++ (one s).2.1
  app : ∀ x r, ok x → one (en x ++ r, false) = (x, r, false)
theorem Codec.ext {α : Type} {one : RS → α × RS} {en : α → ByteArray} {ok : α → Prop} (h : Codec one en ok) {s : RS} (q : ByteArray) (hs : (one s).2.2 = false) : one (s.1 ++ q, false) = ((one s).1, (one s).2.1 ++ q, false) := by
  obtain ⟨_, h2, h3⟩ := h.back s hs
  have := h.app (one s).1 ((one s).2.1 ++ q) h2
  rw [← ByteArray.append_assoc, ← h3] at this
  exact this
theorem takeR_bad' (r : ByteArray) (n : Int) : takeR r true n = (⟨#[]⟩, ⟨#[]⟩, true) := if_neg (by simp)
theorem takeR_good' {r : ByteArray} {b : Bool} {n : Int} (h : (takeR r b n).2.2 = false) : b = false := by
  cases b
  · rfl
  · rw [takeR_bad'] at h; cases h
theorem takeR_back' {r : ByteArray} {b : Bool} {n : Int} (h : (takeR r b n).2.2 = false) : r = (takeR r b n).1 ++ (takeR r b n).2.1 ∧ ((takeR r b n).1.size : Int) = n := by
  unfold takeR at h ⊢
  split at h
  · next hc =>
    obtain ⟨hb, h0, hn⟩ := hc
    rw [if_pos ⟨hb, h0, hn⟩]
    simp only
    refine ⟨?_, ?_⟩
    · apply ByteArray.ext
      apply Array.ext'
      simp
    · rw [ByteArray.size_extract]
      omega
  · cases h
theorem four_bytes {t : ByteArray} (h : t.size = 4) : ∃ a b c d, t = ⟨#[a, b, c, d]⟩ := by
  have hl : t.data.toList.length = 4 := h
  match hm : t.data.toList, hl with
  | [a, b, c, d], _ =>
    refine ⟨a, b, c, d, ?_⟩
    apply ByteArray.ext
    apply Array.ext'
    exact hm
theorem le32_val {t : ByteArray} (h : t.size = 4) : (⟨(le32 (val t.data.toList)).toArray⟩ : ByteArray) = t := by
  obtain ⟨a, b, c, d, rfl⟩ := four_bytes h
  have h0 := a.toNat_lt
  have h1 := b.toNat_lt
  have h2 := c.toNat_lt
  have h3 := d.toNat_lt
  have e : le32 (val [a, b, c, d]) = [a, b, c, d] := by
    unfold le32
    simp only [val]
    refine List.cons_eq_cons.2 ⟨?_, List.cons_eq_cons.2 ⟨?_, List.cons_eq_cons.2 ⟨?_, List.cons_eq_cons.2 ⟨?_, rfl⟩⟩⟩⟩ <;>
      (apply UInt8.toNat_inj.1; rw [UInt8.toNat_ofNat']; omega)
  show (⟨(le32 (val [a, b, c, d])).toArray⟩ : ByteArray) = _
  rw [e]
/-- A number's bytes. -/
def enNum (n : Int) : ByteArray := ⟨(le32 n.toNat).toArray⟩
theorem codec_num : Codec rNum enNum (fun n => 0 ≤ n ∧ n < 4294967296) where
  back s h := by
    have hg := takeR_good' h
    obtain ⟨h1, h2⟩ := takeR_back' h
    have hv := val_takeR s.1 s.2
    refine ⟨hg, ⟨by unfold rNum; simp only; omega, by unfold rNum; simp only; omega⟩, ?_⟩
    unfold rNum enNum
    simp only [Int.toNat_natCast]
    rw [le32_val (by omega)]
    exact h1
  app n r h := by
    unfold rNum enNum
    simp only [num_app]
    rw [val_le32 _ (by omega)]
    exact Prod.ext (by simp only; omega) rfl
theorem codec_take (n : Nat) : Codec (rTake n) (fun s => s) (fun s => s.size = n) where
  back s h := by
    have hg := takeR_good' h
    obtain ⟨h1, h2⟩ := takeR_back' h
    exact ⟨hg, by unfold rTake; omega, h1⟩
  app s r h := takeR_app s r n (by omega)
def enText (s : ByteArray) : ByteArray := ⟨(txt s.data.toList).toArray⟩
theorem enText_eq (s : ByteArray) (h : s.size < 4294967296) : enText s = enNum s.size ++ s := by
  have hl : s.data.toList.length = s.size := rfl
  unfold enText txt enNum
  rw [hl, Nat.mod_eq_of_lt h, bytes_app, bytes_of]
  rfl
theorem codec_text (most : Nat) (hm : most < 4294967296) : Codec (rText most) enText (fun s => s.size ≤ most) where
  back s h := by
    unfold rText textR at h ⊢
    split at h
    · cases h
    · next hc =>
      rw [if_neg hc]
      have hg := takeR_good' h
      have hg2 := takeR_good' hg
      obtain ⟨h1, h2⟩ := takeR_back' hg
      obtain ⟨h3, h4⟩ := takeR_back' h
      refine ⟨hg2, by omega, ?_⟩
      rw [enText_eq _ (by omega)]
      have e : ((takeR (takeR s.1 s.2 4).2.1 (takeR s.1 s.2 4).2.2 (val (takeR s.1 s.2 4).1.data.toList)).1.size : Int).toNat = val (takeR s.1 s.2 4).1.data.toList := by omega
      unfold enNum
      rw [e, le32_val (by omega), ByteArray.append_assoc, ← h3]
      exact h1
  app s r h := by
    unfold rText
    exact textR_app s r most (by omega) (by omega)
theorem rList_bad {α : Type} (one : RS → α × RS) (n : Nat) (s : RS) (h : s.2 = true) : rList one n s = ([], s) := by
  cases n
  · rfl
  · rw [rList, if_pos h]
theorem rList_go {α : Type} (one : RS → α × RS) (n : Nat) (s : RS) (h : s.2 = false) : rList one (n + 1) s = ((one s).1 :: (rList one n (one s).2).1, (rList one n (one s).2).2) := by
  rw [rList, if_neg (by rw [h]; decide)]
/-- The bytes of things, one behind the other. -/
def enAll {α : Type} (en : α → ByteArray) : List α → ByteArray
  | [] => ⟨#[]⟩
  | x :: l => en x ++ enAll en l
theorem nil_app (a : ByteArray) : (⟨#[]⟩ : ByteArray) ++ a = a := by
  apply ByteArray.ext
  apply Array.ext'
  simp
theorem app_nil (a : ByteArray) : a ++ (⟨#[]⟩ : ByteArray) = a := by
  apply ByteArray.ext
  apply Array.ext'
  simp
theorem enAll_app {α : Type} (en : α → ByteArray) : ∀ (l m : List α), enAll en (l ++ m) = enAll en l ++ enAll en m
  | [], m => (nil_app _).symm
  | x :: l, m => by
    show en x ++ enAll en (l ++ m) = (en x ++ enAll en l) ++ enAll en m
    rw [enAll_app en l m, ByteArray.append_assoc]
theorem enAll_snoc {α : Type} (en : α → ByteArray) (l : List α) (x : α) : enAll en (l ++ [x]) = enAll en l ++ en x := by
  rw [enAll_app]
  show _ ++ (en x ++ ⟨#[]⟩) = _
  rw [app_nil]
theorem rList_back {α : Type} {one : RS → α × RS} {en : α → ByteArray} {ok : α → Prop} (h : Codec one en ok) : ∀ (n : Nat) (s : RS), (rList one n s).2.2 = false → s.2 = false ∧ (rList one n s).1.length = n ∧ (∀ x ∈ (rList one n s).1, ok x) ∧ s.1 = enAll en (rList one n s).1 ++ (rList one n s).2.1
  | 0, s, hs => ⟨hs, rfl, fun x hx => (by cases hx), (nil_app _).symm⟩
  | n + 1, s, hs => by
    by_cases hb : s.2 = true
    · rw [rList_bad one _ s hb] at hs
      rw [hb] at hs; cases hs
    · have hb' : s.2 = false := by simpa using hb
      rw [rList_go one n s hb'] at hs ⊢
      obtain ⟨h1, h2, h3, h4⟩ := rList_back h n (one s).2 hs
      obtain ⟨h5, h6, h7⟩ := h.back s h1
      refine ⟨hb', by simp [h2], fun x hx => ?_, ?_⟩
      · rcases List.mem_cons.1 hx with rfl | hx
        · exact h6
        · exact h3 x hx
      · show s.1 = (en (one s).1 ++ enAll en _) ++ _
        rw [ByteArray.append_assoc, ← h4]
        exact h7
theorem rList_app {α : Type} {one : RS → α × RS} {en : α → ByteArray} {ok : α → Prop} (h : Codec one en ok) : ∀ (l : List α) (r : ByteArray), (∀ x ∈ l, ok x) → rList one l.length (enAll en l ++ r, false) = (l, r, false)
  | [], r, _ => by
    show ([], ((⟨#[]⟩ : ByteArray) ++ r, false)) = _
    rw [nil_app]
  | x :: l, r, hl => by
    rw [List.length_cons, rList_go one _ _ rfl]
    have e : one (enAll en (x :: l) ++ r, false) = (x, enAll en l ++ r, false) := by
      show one ((en x ++ enAll en l) ++ r, false) = _
      rw [ByteArray.append_assoc]
      exact h.app x _ (hl x (by simp))
    rw [e]
    have := rList_app h l r fun y hy => hl y (by simp [hy])
    simp only [this]
def enMany {α : Type} (en : α → ByteArray) (l : List α) : ByteArray := enNum l.length ++ enAll en l
theorem codec_many {α : Type} {one : RS → α × RS} {en : α → ByteArray} {ok : α → Prop} (h : Codec one en ok) (most : Nat) (hm : most < 4294967296) : Codec (rMany one most) (enMany en) (fun l => l.length ≤ most ∧ ∀ x ∈ l, ok x) where
  back s hs := by
    unfold rMany at hs ⊢
    obtain ⟨h1, h2, h3, h4⟩ := rList_back h _ _ hs
    have hc : ¬ (most : Int) < (rNum s).1 := fun hc => by rw [if_pos hc] at h1; cases h1
    rw [if_neg hc] at h1 h2 h3 h4 ⊢
    obtain ⟨h5, h6, h7⟩ := codec_num.back s h1
    refine ⟨h5, ⟨by omega, h3⟩, ?_⟩
    unfold enMany
    rw [h2, ByteArray.append_assoc, ← h4]
    have e : (((rNum s).1.toNat : Nat) : Int) = (rNum s).1 := by omega
    rw [e]
    exact h7
  app l r hl := by
    unfold rMany enMany
    rw [ByteArray.append_assoc, codec_num.app _ _ ⟨by omega, by omega⟩]
    simp only
    rw [if_neg (by omega), Int.toNat_natCast]
    exact rList_app h l r hl.2
/-- One reader behind another one. -/
theorem Codec.seq {α β : Type} {one : RS → α × RS} {en : α → ByteArray} {ok : α → Prop} {two : RS → β × RS} {en2 : β → ByteArray} {ok2 : β → Prop} (h : Codec one en ok) (k : Codec two en2 ok2) :
    Codec (fun s => (((one s).1, (two (one s).2).1), (two (one s).2).2)) (fun p : α × β => en p.1 ++ en2 p.2) (fun p => ok p.1 ∧ ok2 p.2) where
  back s hs := by
    obtain ⟨h1, h2, h3⟩ := k.back _ hs
    obtain ⟨h4, h5, h6⟩ := h.back s h1
    refine ⟨h4, ⟨h5, h2⟩, ?_⟩
    show s.1 = (en (one s).1 ++ en2 _) ++ _
    rw [ByteArray.append_assoc, ← h3]
    exact h6
  app p r hp := by
    obtain ⟨x, y⟩ := p
    show (((one ((en x ++ en2 y) ++ r, false)).1, _), _) = _
    have e : one ((en x ++ en2 y) ++ r, false) = (x, en2 y ++ r, false) := by rw [ByteArray.append_assoc]; exact h.app x _ hp.1
    have e2 := k.app y r hp.2
    simp only [e, e2]
/-- The same in other words. -/
theorem Codec.map {α β : Type} {one : RS → α × RS} {en : α → ByteArray} {ok : α → Prop} (h : Codec one en ok) (f : α → β) (g : β → α) {one' : RS → β × RS} {en' : β → ByteArray} {ok' : β → Prop}
    (h1 : ∀ s, one' s = (f (one s).1, (one s).2)) (h2 : ∀ x, ok x → ok' (f x) ∧ en' (f x) = en x) (h3 : ∀ y, ok' y → ok (g y) ∧ f (g y) = y) : Codec one' en' ok' where
  back s hs := by
    rw [h1] at hs ⊢
    obtain ⟨a, b, c⟩ := h.back s hs
    obtain ⟨d, e⟩ := h2 _ b
    exact ⟨a, d, by rw [e]; exact c⟩
  app y r hy := by
    obtain ⟨a, b⟩ := h3 y hy
    have := h.app (g y) r a
    rw [h1]
    obtain ⟨_, e⟩ := h2 _ a
    rw [b] at e
    rw [e, this]
    simp only [b]
end Go.Proofs.YtbmknmjcoeinkaaGreat.Oct
