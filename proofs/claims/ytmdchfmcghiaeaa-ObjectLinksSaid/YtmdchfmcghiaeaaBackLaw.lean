/- Plain law: an object's bytes are read as the object; bytes that are read are the object's; unlike objects have unlike bytes. Conditions: as told. -/
import Derived.Test.YtmdchfmcghiaeaaEncSize
namespace Go.Proofs.Ytmdchfmcghiaeaa.Obj
open Oct
/-- The same fields. -/
def alike (a b : Plain) : Prop := a.k = b.k ∧ a.d = b.d ∧ a.ne = b.ne ∧ (∀ i, i < a.ne → a.nm i = b.nm i ∧ a.kd i = b.kd i ∧ a.id i = b.id i) ∧ a.t = b.t ∧ a.np = b.np ∧ (∀ i, i < a.np → a.f i = b.f i) ∧ a.h = b.h ∧ a.n = b.n
theorem alike.symm {a b : Plain} (h : alike a b) : alike b a := by
  obtain ⟨h1, h2, h3, h4, h5, h6, h7, h8, h9⟩ := h
  refine ⟨h1.symm, h2.symm, h3.symm, fun i hi => ?_, h5.symm, h6.symm, fun i hi => (h7 i (by omega)).symm, h8.symm, h9.symm⟩
  obtain ⟨q1, q2, q3⟩ := h4 i (by omega)
  exact ⟨q1.symm, q2.symm, q3.symm⟩
theorem alike.trans {a b c : Plain} (h : alike a b) (g : alike b c) : alike a c := by
  obtain ⟨h1, h2, h3, h4, h5, h6, h7, h8, h9⟩ := h
  obtain ⟨g1, g2, g3, g4, g5, g6, g7, g8, g9⟩ := g
  refine ⟨h1.trans g1, h2.trans g2, h3.trans g3, fun i hi => ?_, h5.trans g5, h6.trans g6, fun i hi => (h7 i hi).trans (g7 i (by omega)), h8.trans g8, h9.trans g9⟩
  obtain ⟨q1, q2, q3⟩ := h4 i hi
  obtain ⟨r1, r2, r3⟩ := g4 i (by omega)
  exact ⟨q1.trans r1, q2.trans r2, q3.trans r3⟩
def bare (o : Plain) : Plain :=
  if o.k = 1 then { none_ with k := 1, d := o.d } else if o.k = 2 then { none_ with k := 2, ne := o.ne, nm := o.nm, kd := o.kd, id := o.id }
  else { none_ with k := o.k, t := o.t, np := o.np, f := o.f, h := o.h, n := o.n }
theorem entsOk_congr {nm nm' : Nat → ByteArray} {kd kd' : Nat → Int} {id id' : Nat → ByteArray} : ∀ n, (∀ i, i < n → nm i = nm' i ∧ kd i = kd' i ∧ id i = id' i) → entsOk nm kd id n = entsOk nm' kd' id' n ∧ entsB nm kd id n = entsB nm' kd' id' n
  | 0, _ => ⟨rfl, rfl⟩
  | n + 1, h => by
    obtain ⟨i1, i2⟩ := entsOk_congr n fun i hi => h i (by omega)
    obtain ⟨q1, q2, q3⟩ := h n (by omega)
    rw [entsOk, entsOk, entsB, entsB, i1, i2, q1, q2, q3]
    exact ⟨rfl, rfl⟩
theorem rises_congr {f g : Nat → ByteArray} : ∀ n, (∀ i, i < n → f i = g i) → rises f n = rises g n
  | 0, _ => rfl
  | 1, _ => rfl
  | n + 2, h => by
    rw [rises, rises, rises_congr (n + 1) fun i hi => h i (by omega), h n (by omega), h (n + 1) (by omega)]
theorem ids_congr {f g : Nat → ByteArray} : ∀ n, (∀ i, i < n → f i = g i) → ids f n = ids g n ∧ catB f n = catB g n
  | 0, _ => ⟨rfl, rfl⟩
  | n + 1, h => by
    obtain ⟨i1, i2⟩ := ids_congr n fun i hi => h i (by omega)
    rw [ids, ids, catB, catB, i1, i2, h n (by omega)]
    exact ⟨rfl, rfl⟩
theorem good_congr {a b : Plain} (h : alike a b) : a.good = b.good := by
  obtain ⟨h1, h2, h3, h4, h5, h6, h7, h8, h9⟩ := h
  unfold Plain.good treeOk commitOk
  rw [h1, h2, h5, h8, h9, (entsOk_congr a.ne h4).1, rises_congr a.ne (fun i hi => (h4 i hi).1), rises_congr a.np h7, (ids_congr a.np h7).1, h3, h6]
theorem enc_congr {a b : Plain} (h : alike a b) : enc a = enc b := by
  have hg := good_congr h
  obtain ⟨h1, h2, h3, h4, h5, h6, h7, h8, h9⟩ := h
  unfold enc encB treeB comB
  rw [hg, h1, h2, h5, h8, h9, (entsOk_congr a.ne h4).2, (ids_congr a.np h7).2, h3, h6]
theorem bare_k (o : Plain) : (bare o).k = o.k := by
  unfold bare
  split
  · next h => exact h.symm
  split
  · next h => exact h.symm
  rfl
theorem bare_good (o : Plain) : (bare o).good = o.good ∧ enc (bare o) = enc o := by
  have key : (bare o).good = o.good ∧ encB (bare o) = encB o := by
    unfold bare
    by_cases h1 : o.k = 1
    · rw [if_pos h1]
      unfold Plain.good encB
      simp only [h1, if_true]
      exact ⟨trivial, trivial⟩
    rw [if_neg h1]
    by_cases h2 : o.k = 2
    · rw [if_pos h2]
      unfold Plain.good encB
      simp [h2]
    rw [if_neg h2]
    unfold Plain.good encB
    simp [h1, h2]
  refine ⟨key.1, ?_⟩
  unfold enc
  rw [key.1, key.2]
theorem nil_app (a : ByteArray) : a ++ (⟨#[]⟩ : ByteArray) = a := by
  apply ByteArray.ext
  simp
theorem dec_good {s : ByteArray} {t : Plain} (h : dec s = some t) : t.good = true := by
  unfold dec at h
  split at h
  · cases h
  split at h
  · split at h
    · next hg => cases h; exact hg
    · cases h
  split at h
  · split at h
    · next hg => simp only [Bool.and_eq_true] at hg; cases h; exact hg.2
    · cases h
  split at h
  · split at h
    · next hg => simp only [Bool.and_eq_true] at hg; cases h; exact hg.2
    · cases h
  cases h
theorem whole_nil : whole (⟨#[]⟩, false) = true := rfl
theorem alike_tree (q : ByteArray × Bool) (n m : Nat) (nm : Nat → ByteArray) (kd : Nat → Int) (id : Nat → ByteArray) (h : n = m) (he : ∀ i, i < n → entN q i = nm i ∧ entK q i = kd i ∧ entI q i = id i) :
    alike { none_ with k := 2, ne := n, nm := entN q, kd := entK q, id := entI q } { none_ with k := 2, ne := m, nm := nm, kd := kd, id := id } :=
  ⟨rfl, rfl, h, he, rfl, rfl, fun _ _ => rfl, rfl, rfl⟩
theorem alike_com (k : Int) (t t' : ByteArray) (n m : Nat) (f g : Nat → ByteArray) (h h' : Int) (x x' : ByteArray) (hk : k = 3) (ht : t = t') (hn : n = m) (hf : ∀ i, i < n → f i = g i) (hh : h = h') (hx : x = x') :
    alike { none_ with k := 3, t := t, np := n, f := f, h := h, n := x } { none_ with k := k, t := t', np := m, f := g, h := h', n := x' } :=
  ⟨hk.symm, rfl, rfl, fun _ hi => absurd hi (Nat.not_lt_zero _), ht, hn, hf, hh, hx⟩
theorem dec_enc (o : Plain) (hg : o.good = true) : ∃ t, dec (enc o) = some t ∧ alike t (bare o) := by
  obtain ⟨hz, hf, _⟩ := enc_first o hg ⟨#[]⟩
  rw [nil_app] at hz hf
  have hbg := bare_good o
  unfold dec
  rw [if_neg (by omega), hf]
  rcases good_kinds hg with hk | hk | hk
  · rw [if_pos hk]
    have e : enc o = ⟨(1 :: o.d.data.toList).toArray⟩ := by unfold enc encB; rw [if_pos hg, if_pos hk]
    have ha : alike (asBlob (enc o)) (bare o) := by
      unfold asBlob bare
      rw [if_pos hk, e, rest_cons, bytes_of]
      exact ⟨rfl, rfl, rfl, fun i hi => ⟨rfl, rfl, rfl⟩, rfl, rfl, fun i hi => rfl, rfl, rfl⟩
    rw [if_pos (by rw [good_congr ha, hbg.1, hg])]
    exact ⟨_, rfl, ha⟩
  · rw [if_neg (by omega), if_pos hk]
    obtain ⟨e, h1, h2, _⟩ := enc_tree hg hk
    obtain ⟨b1, b2, b3⟩ := tree_back o.nm o.kd o.id o.ne h1 h2 ⟨#[]⟩ (enc o) (by rw [e, nil_app])
    have b1' : (treeQ (enc o)).2 = (⟨(entsB o.nm o.kd o.id o.ne).toArray⟩ ++ ⟨#[]⟩, false) := by rw [b1]
    have ha : alike (asTree (enc o)) (bare o) := by
      have h := alike_tree (treeQ (enc o)).2 (treeN (enc o)) o.ne o.nm o.kd o.id b2 (fun i hi => by
        rw [b1']
        exact ents_back o.nm o.kd o.id o.ne h1 ⟨#[]⟩ i (by rw [← b2]; exact hi))
      unfold asTree bare
      rw [if_neg (by omega), if_pos hk]
      exact h
    rw [b3, whole_nil, if_pos (by rw [good_congr ha, hbg.1, hg]; rfl)]
    exact ⟨_, rfl, ha⟩
  · rw [if_neg (by omega), if_neg (by omega), if_pos hk]
    obtain ⟨e, h1⟩ := enc_commit hg hk
    obtain ⟨g1, g2, g3, g4, g5, g6⟩ := commit_fields h1
    obtain ⟨b1, b2, b3, b4, b5⟩ := com_back o.t o.np o.f o.h.toNat o.n g5 g1 g2 (by omega) g6 ⟨#[]⟩ (enc o) (by rw [e, nil_app])
    have hE := enc_com_end o hg hk ⟨#[]⟩
    rw [nil_app] at hE
    have bQ : comQ (enc o) = (⟨(le32 o.np).toArray⟩, ⟨(catB o.f o.np).toArray⟩ ++ (⟨(le32 o.h.toNat).toArray⟩ ++ (⟨(txt o.n.data.toList).toArray⟩ ++ ⟨#[]⟩)), false) := by
      unfold comQ
      rw [b1]
      exact num_app _ _
    have bQ' : (comQ (enc o)).2 = (⟨(catB o.f o.np).toArray⟩ ++ (⟨(le32 o.h.toNat).toArray⟩ ++ (⟨(txt o.n.data.toList).toArray⟩ ++ ⟨#[]⟩)), false) := by rw [bQ]
    have ha : alike (asCommit (enc o)) (bare o) := by
      have h := alike_com o.k (comT (enc o)).1 o.t (comN (enc o)) o.np (parT (comQ (enc o)).2) o.f ((val (comH (enc o)).1.data.toList : Nat) : Int) o.h (comNote (enc o)).1 o.n hk (by rw [b1]) b2 (fun i hi => by
        rw [bQ']
        exact pars_back o.f o.np g2 _ i (by rw [← b2]; exact hi)) (by rw [b4]; omega) (by rw [b5])
      unfold asCommit bare
      rw [if_neg (by omega), if_neg (by omega)]
      exact h
    rw [hE, whole_nil, if_pos (by rw [good_congr ha, hbg.1, hg]; rfl)]
    exact ⟨_, rfl, ha⟩
/-- Bytes alike just where the bare objects are. -/
theorem enc_inj (x y t : Plain) (hx : x.good = true) (hy : y.good = true) (ht : dec (enc x) = some t) : enc x = enc y ↔ alike t (bare y) := by
  obtain ⟨t', h1, h2⟩ := dec_enc x hx
  obtain rfl : t' = t := by rw [h1] at ht; exact Option.some.inj ht
  constructor
  · intro he
    obtain ⟨u, g1, g2⟩ := dec_enc y hy
    rw [← he, h1] at g1
    obtain rfl := Option.some.inj g1
    exact g2
  · intro ha
    rw [← (bare_good x).2, ← (bare_good y).2]
    exact enc_congr (h2.symm.trans ha)
theorem le32_val (l : List UInt8) (h : l.length = 4) : le32 (val l) = l ∧ val l < 4294967296 := by
  match l, h with
  | [a, b, c, d], _ =>
    have ha := a.toNat_lt; have hb := b.toNat_lt; have hc := c.toNat_lt; have hd := d.toNat_lt
    unfold le32 val val val val val
    refine ⟨?_, by omega⟩
    simp only [List.cons.injEq, and_true]
    refine ⟨?_, ?_, ?_, ?_⟩ <;> (apply UInt8.toNat_inj.1; rw [UInt8.toNat_ofNat']; omega)
theorem num_back {r : ByteArray} {b : Bool} (h : (takeR r b 4).2.2 = false) : r = ⟨(le32 (val (takeR r b 4).1.data.toList)).toArray⟩ ++ (takeR r b 4).2.1 := by
  obtain ⟨h1, h2⟩ := takeR_back h
  rw [(le32_val _ (by show (takeR r b 4).1.size = 4; omega)).1, bytes_of]
  exact h1
theorem textR_back {r : ByteArray} {b : Bool} {n : Int} (h : (textR r b n).2.2 = false) : r = ⟨(txt (textR r b n).1.data.toList).toArray⟩ ++ (textR r b n).2.1 := by
  have h4 := textR_good h
  have e4 := num_back h4
  have hs := (takeR_back h4).2
  unfold textR at h ⊢
  split at h
  · cases h
  · next hc =>
    rw [if_neg hc]
    obtain ⟨h1, h2⟩ := takeR_back h
    have hv := (le32_val (takeR r b 4).1.data.toList (by show (takeR r b 4).1.size = 4; omega)).2
    generalize takeR (takeR r b 4).2.1 (takeR r b 4).2.2 (val (takeR r b 4).1.data.toList : Int) = X at *
    have hl : X.1.data.toList.length = val (takeR r b 4).1.data.toList := by
      show X.1.size = _
      omega
    unfold txt
    rw [hl, Nat.mod_eq_of_lt hv, bytes_app, bytes_of, ByteArray.append_assoc, ← h1]
    exact e4
theorem kind_back {k : ByteArray} (h : k.size = 1) : (⟨#[UInt8.ofNat (kindOf k).toNat]⟩ : ByteArray) = k := by
  unfold kindOf
  rw [dif_pos (by omega)]
  apply ByteArray.ext
  apply Array.ext
  · simp [show k.data.size = 1 from h]
  · intro i h1 h2
    have : i = 0 := by simp at h1; exact h1
    subst this
    simp
    rfl
theorem ent_back {s : ByteArray × Bool} (h : (takeI s).2.2 = false) : s.1 = ⟨(entB (takeN s).1 (kindOf (takeK s).1) (takeI s).1).toArray⟩ ++ (takeI s).2.1 := by
  have hn := takeI_good h
  have hk := takeN_good hn
  have i1 : (takeN s).2.1 = (takeI s).1 ++ (takeI s).2.1 := by unfold takeI at h ⊢; exact (takeR_back h).1
  have n1 : (takeK s).2.1 = ⟨(txt (takeN s).1.data.toList).toArray⟩ ++ (takeN s).2.1 := by unfold takeN at hn ⊢; exact textR_back hn
  have k1 : s.1 = (takeK s).1 ++ (takeK s).2.1 ∧ ((takeK s).1.size : Int) = 1 := by unfold takeK at hk ⊢; exact takeR_back hk
  obtain ⟨k1, k2⟩ := k1
  have e0 := kind_back (k := (takeK s).1) (by omega)
  unfold entB
  rw [show ∀ (c : UInt8) (l : List UInt8), (⟨(c :: l).toArray⟩ : ByteArray) = ⟨#[c]⟩ ++ ⟨l.toArray⟩ from fun c l => by rw [show c :: l = [c] ++ l from rfl, bytes_app], e0, bytes_app, bytes_of, ByteArray.append_assoc, ByteArray.append_assoc]
  calc s.1 = (takeK s).1 ++ (takeK s).2.1 := k1
    _ = (takeK s).1 ++ (⟨(txt (takeN s).1.data.toList).toArray⟩ ++ (takeN s).2.1) := congrArg _ n1
    _ = (takeK s).1 ++ (⟨(txt (takeN s).1.data.toList).toArray⟩ ++ ((takeI s).1 ++ (takeI s).2.1)) := congrArg (fun z => (takeK s).1 ++ (⟨(txt (takeN s).1.data.toList).toArray⟩ ++ z)) i1
theorem ents_of (s : ByteArray × Bool) : ∀ n, (entS s n).2 = false → s.1 = ⟨(entsB (entN s) (entK s) (entI s) n).toArray⟩ ++ (entS s n).1
  | 0, _ => by
    apply ByteArray.ext
    simp [entsB, entS]
  | n + 1, h => by
    have hk : (entS s n).2 = false := entS_good s (Nat.le_succ n) h
    have ih := ents_of s n hk
    rw [entS_succ] at h
    have e := ent_back (s := entS s n) h
    rw [entsB, bytes_app, ByteArray.append_assoc, entS_succ]
    have e' : (⟨(entB (entN s n) (entK s n) (entI s n)).toArray⟩ : ByteArray) ++ (takeI (entS s n)).2.1 = (entS s n).1 := by unfold entN entK entI; exact e.symm
    rw [e']
    exact ih
theorem pars_of (s : ByteArray × Bool) : ∀ n, (parS s n).2 = false → s.1 = ⟨(catB (parT s) n).toArray⟩ ++ (parS s n).1
  | 0, _ => by
    apply ByteArray.ext
    simp [catB, parS]
  | n + 1, h => by
    have hk : (parS s n).2 = false := parS_good s (Nat.le_succ n) h
    have ih := pars_of s n hk
    rw [parS_succ] at h
    obtain ⟨e, _⟩ := takeR_back h
    rw [catB, bytes_app, bytes_of, ByteArray.append_assoc, parS_succ]
    have e' : parT s n ++ (takeR (parS s n).1 (parS s n).2 32).2.1 = (parS s n).1 := by unfold parT; exact e.symm
    rw [e']
    exact ih
theorem size_nil {a : ByteArray} (h : a.size = 0) : a = ⟨#[]⟩ := by
  apply ByteArray.ext
  apply Array.ext'
  have : a.data.toList.length = 0 := h
  simpa using List.length_eq_zero_iff.1 this
theorem head_rest (s : ByteArray) (c : UInt8) (h0 : 0 < s.size) (hc : first s = (c.toNat : Int)) : s = ⟨#[c]⟩ ++ rest s := by
  obtain ⟨⟨l⟩⟩ := s
  match l, h0, hc with
  | x :: l, h0, hc =>
    have hx : x = c := by
      unfold first kindOf at hc
      rw [dif_pos h0] at hc
      apply UInt8.toNat_inj.1
      have e : (⟨⟨x :: l⟩⟩ : ByteArray)[0]'h0 = x := rfl
      rw [e] at hc
      omega
    have hr := rest_cons x l
    rw [show (⟨(x :: l).toArray⟩ : ByteArray) = ⟨⟨x :: l⟩⟩ from rfl] at hr
    rw [hr, hx]
    apply ByteArray.ext
    apply Array.ext'
    simp
theorem encB_tree (n : Nat) (nm : Nat → ByteArray) (kd : Nat → Int) (id : Nat → ByteArray) : encB { none_ with k := 2, ne := n, nm := nm, kd := kd, id := id } = treeB n nm kd id := by
  unfold encB
  simp
theorem encB_com (t : ByteArray) (n : Nat) (f : Nat → ByteArray) (h : Int) (x : ByteArray) : encB { none_ with k := 3, t := t, np := n, f := f, h := h, n := x } = comB t n f h.toNat x := by
  unfold encB
  simp
theorem enc_dec {s : ByteArray} {t : Plain} (h : dec s = some t) : enc t = s := by
  have hg := dec_good h
  unfold enc
  rw [if_pos hg]
  unfold dec at h
  split at h
  · cases h
  next h0 =>
  split at h
  · next h1 =>
    split at h
    · cases h
      have := head_rest s 1 (by omega) h1
      unfold encB asBlob
      simp only [if_true]
      conv => rhs; rw [this]
      rw [show ∀ (c : UInt8) (l : List UInt8), (⟨(c :: l).toArray⟩ : ByteArray) = ⟨#[c]⟩ ++ ⟨l.toArray⟩ from fun c l => by rw [show c :: l = [c] ++ l from rfl, bytes_app], bytes_of]
    · cases h
  split at h
  · next h1 h2 =>
    split at h
    · next hw =>
      cases h
      simp only [Bool.and_eq_true] at hw
      obtain ⟨w1, w2⟩ := whole_size _ hw.1
      have hs := head_rest s 2 (by omega) h2
      unfold treeEnd entsEnd at w1 w2
      have hn : ¬ 256 < treeN s := by
        intro hc
        rw [if_pos hc] at w1
        cases w1
      rw [if_neg hn] at w1 w2
      have h3 : (treeQ s).2.2 = false := entS_good _ (Nat.zero_le _) w1
      have e1 : rest s = ⟨(le32 (treeN s)).toArray⟩ ++ (treeQ s).2.1 := by unfold treeN; unfold treeQ at h3 ⊢; exact num_back h3
      have e2 := ents_of (treeQ s).2 (treeN s) w1
      rw [size_nil w2, nil_app] at e2
      unfold asTree
      rw [encB_tree]
      unfold treeB
      conv => rhs; rw [hs, e1]
      rw [show ∀ (c : UInt8) (l : List UInt8), (⟨(c :: l).toArray⟩ : ByteArray) = ⟨#[c]⟩ ++ ⟨l.toArray⟩ from fun c l => by rw [show c :: l = [c] ++ l from rfl, bytes_app], bytes_app, ← e2]
    · cases h
  split at h
  · next h1 h2 h3 =>
    split at h
    · next hw =>
      cases h
      simp only [Bool.and_eq_true] at hw
      obtain ⟨w1, w2⟩ := whole_size _ hw.1
      have hs := head_rest s 3 (by omega) h3
      have k1 : (textR (comH s).2.1 (comH s).2.2 1000).2.2 = false := by unfold comEnd comNote at w1; exact w1
      have k2' : (comH s).2.2 = false := takeR_good (textR_good k1)
      have k2 : (takeR (comP s).1 (comP s).2 4).2.2 = false := by unfold comH at k2'; exact k2'
      have k3 : (comP s).2 = false := takeR_good k2
      have hn : ¬ 8 < comN s := by
        intro hc
        unfold comP parsEnd at k3
        rw [if_pos hc] at k3
        cases k3
      have eP : comP s = parS (comQ s).2 (comN s) := by unfold comP parsEnd; rw [if_neg hn]
      have k4 : (parS (comQ s).2 (comN s)).2 = false := by rw [← eP]; exact k3
      have k5' : (comQ s).2.2 = false := parS_good _ (Nat.zero_le _) k4
      have k5 : (takeR (comT s).2.1 (comT s).2.2 4).2.2 = false := by unfold comQ at k5'; exact k5'
      have k6' : (comT s).2.2 = false := takeR_good k5
      have e1 : rest s = (comT s).1 ++ (comT s).2.1 := by unfold comT at k6' ⊢; exact (takeR_back k6').1
      have e2 : (comT s).2.1 = ⟨(le32 (comN s)).toArray⟩ ++ (comQ s).2.1 := by unfold comN comQ; exact num_back k5
      have e3 : (comQ s).2.1 = ⟨(catB (parT (comQ s).2) (comN s)).toArray⟩ ++ (comP s).1 := by rw [eP]; exact pars_of _ _ k4
      have e4 : (comP s).1 = ⟨(le32 (val (comH s).1.data.toList)).toArray⟩ ++ (comH s).2.1 := by unfold comH; exact num_back k2
      have e5 : (comH s).2.1 = ⟨(txt (comNote s).1.data.toList).toArray⟩ ++ (comNote s).2.1 := by unfold comNote; exact textR_back k1
      have e6 : (comNote s).2.1 = ⟨#[]⟩ := by unfold comEnd at w2; exact size_nil w2
      unfold asCommit
      rw [encB_com, Int.toNat_natCast]
      unfold comB
      conv => rhs; rw [hs, e1, e2, e3, e4, e5, e6, nil_app]
      rw [show ∀ (c : UInt8) (l : List UInt8), (⟨(c :: l).toArray⟩ : ByteArray) = ⟨#[c]⟩ ++ ⟨l.toArray⟩ from fun c l => by rw [show c :: l = [c] ++ l from rfl, bytes_app]]
      simp only [bytes_app, bytes_of, ByteArray.append_assoc]
    · cases h
  cases h
end Go.Proofs.Ytmdchfmcghiaeaa.Obj
