/- mark.Ref and the reference's Ref, Texts, walked. (Layer 12.) -/
import Derived.Test.YtngflbakmlddeaaGreatMk11
import Derived.Test.YtngflbakmlddeaaGreatMk19
namespace Go.Proofs.YtngflbakmlddeaaGreat.Mk
set_option linter.unusedVariables false
open Go.RowKit
def named (name : ByteArray) (r : Rf) : Bool := r.name.toList == name.toList
/-- The ref of that name, and whether there is one. -/
def refOut (l : List Rf) (name : ByteArray) : Rf × Bool := match l.findIdx? (named name) with
  | some i => (l.getD i ⟨⟨#[]⟩, ⟨#[]⟩, 0⟩, true)
  | none => (⟨⟨#[]⟩, ⟨#[]⟩, 0⟩, false)
theorem refOut_none {l : List Rf} {name : ByteArray} (h : ∀ x ∈ l, named name x = false) : refOut l name = (⟨⟨#[]⟩, ⟨#[]⟩, 0⟩, false) := by
  unfold refOut
  rw [List.findIdx?_eq_none_iff.2 (fun x hx => by simpa using h x hx)]
theorem refOut_some {l : List Rf} {name : ByteArray} {k : Nat} (hk : k < l.length) (h : ∀ x ∈ l.take k, named name x = false) (hp : named name l[k] = true) : refOut l name = (l[k], true) := by
  unfold refOut
  rw [show l.findIdx? (named name) = some k from List.findIdx?_eq_some_iff_getElem.2 ⟨hk, hp, fun j hj => by
    have := h l[j] (List.mem_take_iff_getElem.2 ⟨j, by omega, rfl⟩)
    simp [this]⟩]
  simp only [List.getD_eq_getElem?_getD, List.getElem?_eq_getElem hk, Option.getD_some]
theorem ref1_any (name : ByteArray) (x : Rf) (B : Nat) (W : World) (hB : B < W.heap.size) (hc : W.cell? ⟨B, 0, none⟩ = some (.string name)) :
    Calls Tryz.prog 82 #[.agg #[.string x.name, .string x.id, .int .i64 x.h], .pointer (some ⟨B, 0, none⟩)] W fun e w' => e = .returned (.bool (named name x)) ∧ Below W.heap.size W w' := by
  obtain ⟨a0, a1, a2⟩ := x
  dsimp only
  have HB := Lib.hid ((Below.refl W.heap.size W).alloc (Nat.le_refl _) (.cells #[.string a0, .string a1, .int .i64 a2] 47))
  have HT := Lib.hid (show named name ⟨a0, a1, a2⟩ = (a0.toList == name.toList) from rfl)
  go_enter Tryz.func82, Tryz.ntmps82
  go_wp2_with fail
  go_ret
  exact ⟨ret_b HT.out.symm, HB.out⟩
set_option maxRecDepth 100000 in
theorem ref1_tells (name : ByteArray) (B : Nat) (l : List Rf) (w : World) (hB : B < w.heap.size) (hc : w.cell? ⟨B, 0, none⟩ = some (.string name)) : Tells 82 #[.pointer (some ⟨B, 0, none⟩)] aRf (named name) l w :=
  ⟨fun _ _ => rfl, fun x _ W hW => ref1_any name x B W (Nat.lt_of_lt_of_le hB hW.size) (by rw [hW.cell hB]; exact hc)⟩
def ZR : Array Value := #[.string ⟨#[]⟩, .string ⟨#[]⟩, .int .i64 0]
set_option maxRecDepth 100000 in
set_option maxHeartbeats 2000000 in
theorem ref_any (m : MkR) (name : ByteArray) (w : World) (h : m.Reads w) (hs : m.refs.length ≤ 1000000) : Calls Tryz.prog 27 #[aMk m, .string name] w fun e w' =>
    e = .returned (.tuple #[aRf (refOut m.refs name).1, .bool (refOut m.refs name).2]) ∧ Below w.heap.size w w' := by
  obtain ⟨refs, toks, zs, rv, kv, bv⟩ := m
  obtain ⟨h1, h2, h3, h4⟩ := h
  dsimp only at h1 h2 h3 h4 hs ⊢
  obtain ⟨o1, f1, hr1, -, -⟩ := h1.form
  obtain ⟨o2, f2, hr2, -, -⟩ := h2.form
  obtain ⟨o3, f3, hr3, -, -⟩ := h3.form
  obtain ⟨n1, hn1⟩ : ∃ k, k = refs.length := ⟨_, rfl⟩
  rw [← hn1] at hr1
  obtain ⟨n2, hn2⟩ : ∃ k, k = toks.length := ⟨_, rfl⟩
  obtain ⟨n3, hn3⟩ : ∃ k, k = zs.length := ⟨_, rfl⟩
  rw [← hn2] at hr2
  rw [← hn3] at hr3
  subst hr1 hr2 hr3
  clear h2 h3 h4 hn2 hn3
  obtain ⟨R, hR⟩ : ∃ R, R = refOut refs name := ⟨_, rfl⟩
  rw [← hR]
  have HR := Lib.hid hR
  clear hR
  show Calls Tryz.prog 27 #[.agg #[.slice o1 n1 f1, .slice o2 n2 f2, .slice o3 n3 f3], .string name] w fun e w' => e = .returned (.tuple #[aRf R.1, .bool R.2]) ∧ Below w.heap.size w w'
  obtain ⟨W1, hW1⟩ : ∃ W1, W1 = ((w.alloc (.cells #[.slice o1 n1 f1, .slice o2 n2 f2, .slice o3 n3 f3] 26)).alloc (.cells #[.string name] 9)).alloc (.cells #[.string ⟨#[]⟩, .string ⟨#[]⟩, .int .i64 0] 47) := ⟨_, rfl⟩
  have hb1 : Below w.heap.size w W1 := by rw [hW1]; exact (((Below.refl _ _).alloc (Nat.le_refl _) _).alloc (by simp) _).alloc (by simp; omega) _
  have k0 : BlkIs W1 w.heap.size 26 #[.slice o1 n1 f1, .slice o2 n2 f2, .slice o3 n3 f3] := by rw [hW1]; exact ((BlkIs.new _ _ _).alloc _).alloc _
  have k1 : BlkIs W1 (w.heap.size + 1) 9 #[.string name] := by rw [hW1]; exact (BlkIs.new2 _ _ _ _).alloc _
  have k2 : BlkIs W1 (w.heap.size + 1 + 1) 47 #[.string ⟨#[]⟩, .string ⟨#[]⟩, .int .i64 0] := by rw [hW1]; exact BlkIs.new3 _ _ _ _ _
  have H1 := Lib.hid (And.intro hb1 (And.intro k0 (And.intro k1 k2)))
  have HN := Lib.hid hn1
  have HC := Lib.hid h1
  have IX := Lib.hid (ix_rf (.slice o1 n1 f1) refs 82 #[.pointer (some ⟨w.heap.size + 1, 0, none⟩)] (named name) W1 (h1.later hb1) (ref1_tells name _ refs W1 k1.lt (k1.cell 0)) hs)
  have d0 : W1.cell? ⟨w.heap.size, 0, none⟩ = some (.slice o1 n1 f1) := k0.cell 0
  have HW := Lib.hid hW1
  clear hW1 hb1 k0 k1 k2 hn1 h1
  go_enter Tryz.func27, Tryz.ntmps27
  go_wp2_with fail
  rw [← HW.out]
  refine IX.out.mono ?_
  rintro e w2 ⟨rfl, hb2⟩
  have k0 := BlkIs.below H1.out.2.1 hb2 H1.out.2.1.lt
  have k2 := BlkIs.below H1.out.2.2.2 hb2 H1.out.2.2.2.lt
  have HB := Lib.hid (H1.out.1.trans (hb2.mono H1.out.1.size))
  have e0 : w2.cell? ⟨w.heap.size, 0, none⟩ = some (.slice o1 n1 f1) := k0.cell 0
  have r0 : w2.cell? ⟨w.heap.size + 1 + 1, 0, none⟩ = some (.string ⟨#[]⟩) := k2.cell 0
  have r1 : w2.cell? ⟨w.heap.size + 1 + 1, 1, none⟩ = some (.string ⟨#[]⟩) := k2.cell 1
  have r2 : w2.cell? ⟨w.heap.size + 1 + 1, 2, none⟩ = some (.int .i64 0) := k2.cell 2
  have z0 : w2.frozen? ⟨w.heap.size + 1 + 1, 0, none⟩ = false := k2.free 0
  have z1 : w2.frozen? ⟨w.heap.size + 1 + 1, 1, none⟩ = false := k2.free 1
  have z2 : w2.frozen? ⟨w.heap.size + 1 + 1, 2, none⟩ = false := k2.free 2
  clear d0 hb2 k0 k2 IX
  have hcase : (idxOf (named name) refs = -1 ∧ R = (⟨⟨#[]⟩, ⟨#[]⟩, 0⟩, false)) ∨ ∃ k, ∃ h : k < refs.length, idxOf (named name) refs = (k : Int) ∧ R = (refs[k], true) := by
    rw [HR.out]
    unfold idxOf refOut
    cases hq : refs.findIdx? (named name) with
    | none => exact .inl ⟨rfl, rfl⟩
    | some i =>
      obtain ⟨hi, -, -⟩ := List.findIdx?_eq_some_iff_getElem.1 hq
      exact .inr ⟨i, hi, rfl, by simp only [List.getD_eq_getElem?_getD, List.getElem?_eq_getElem hi, Option.getD_some]⟩
  rcases hcase with ⟨hi, rfl⟩ | ⟨k, hk, hi, hRk⟩
  · rw [hi]
    clear hi
    go_wp2_with fail
    refine bodyPost_ret (v := .tuple #[.agg #[.string ⟨#[]⟩, .string ⟨#[]⟩, .int .i64 0], .bool false]) (by simp [results, Tryz.results27, go_sem, r0, r1, r2]) rfl
      ⟨rfl, ((HB.out.setCell (p := ⟨w.heap.size + 1 + 1, 0, none⟩) (by show w.heap.size ≤ w.heap.size + 1 + 1; omega) _).setCell (p := ⟨w.heap.size + 1 + 1, 1, none⟩) (by show w.heap.size ≤ w.heap.size + 1 + 1; omega) _).setCell (p := ⟨w.heap.size + 1 + 1, 2, none⟩) (by show w.heap.size ≤ w.heap.size + 1 + 1; omega) _⟩
  · rw [hi]
    have ki : (k : Int) < n1 := by have := HN.out; omega
    have k0' : decide ((k : Int) < 0) = false := decide_eq_false (by omega)
    obtain ⟨b, off, ha, hblt, hc⟩ := (HC.out.later HB.out).at_ (by omega)
    obtain ⟨x, hx⟩ : ∃ x, x = refs[k] := ⟨_, rfl⟩
    have e1 := hc k hk 0 _ (by rw [← hx]; rfl)
    have e2 := hc k hk 1 _ (by rw [← hx]; rfl)
    have e3 := hc k hk 2 _ (by rw [← hx]; rfl)
    rw [← hx] at hRk
    have HRK := Lib.hid hRk
    obtain ⟨a0, a1, a2⟩ := x
    dsimp only at e1 e2 e3
    rw [show off + k * 3 + 0 = off + k * 3 from rfl] at e1
    have hmax : k < 1000000 := by omega
    subst ha
    clear hi hblt hc hx hRk hk
    go_wp2_with fail
    refine bodyPost_ret (v := .tuple #[.agg #[.string a0, .string a1, .int .i64 a2], .bool true]) (by simp [results, Tryz.results27, go_sem, r0, r1, r2]) rfl
      ⟨by rw [HRK.out]; rfl, ((HB.out.setCell (p := ⟨w.heap.size + 1 + 1, 0, none⟩) (by show w.heap.size ≤ w.heap.size + 1 + 1; omega) _).setCell (p := ⟨w.heap.size + 1 + 1, 1, none⟩) (by show w.heap.size ≤ w.heap.size + 1 + 1; omega) _).setCell (p := ⟨w.heap.size + 1 + 1, 2, none⟩) (by show w.heap.size ≤ w.heap.size + 1 + 1; omega) _⟩
set_option maxRecDepth 100000 in
set_option maxHeartbeats 2000000 in
theorem rref_any (m : MkR) (name : ByteArray) (w : World) (h : m.Reads w) (hs : m.refs.length ≤ 1000000) : Calls Tryz.prog 28 #[aMk m, .string name] w fun e w' =>
    e = .returned (.tuple #[aRf (refOut m.refs name).1, .bool (refOut m.refs name).2]) ∧ Below w.heap.size w w' := by
  obtain ⟨refs, toks, zs, rv, kv, bv⟩ := m
  obtain ⟨h1, h2, h3, h4⟩ := h
  dsimp only at h1 h2 h3 h4 hs ⊢
  obtain ⟨o1, f1, hr1, -, -⟩ := h1.form
  obtain ⟨o2, f2, hr2, -, -⟩ := h2.form
  obtain ⟨o3, f3, hr3, -, -⟩ := h3.form
  obtain ⟨n1, hn1⟩ : ∃ k, k = refs.length := ⟨_, rfl⟩
  rw [← hn1] at hr1
  obtain ⟨n2, hn2⟩ : ∃ k, k = toks.length := ⟨_, rfl⟩
  obtain ⟨n3, hn3⟩ : ∃ k, k = zs.length := ⟨_, rfl⟩
  rw [← hn2] at hr2
  rw [← hn3] at hr3
  subst hr1 hr2 hr3
  clear h2 h3 h4 hn2 hn3
  obtain ⟨R, hR⟩ : ∃ R, R = refOut refs name := ⟨_, rfl⟩
  rw [← hR]
  have HR := Lib.hid hR
  clear hR
  show Calls Tryz.prog 28 #[.agg #[.slice o1 n1 f1, .slice o2 n2 f2, .slice o3 n3 f3], .string name] w fun e w' => e = .returned (.tuple #[aRf R.1, .bool R.2]) ∧ Below w.heap.size w w'
  obtain ⟨W1, hW1⟩ : ∃ W1, W1 = (w.alloc (.cells #[.slice o1 n1 f1, .slice o2 n2 f2, .slice o3 n3 f3] 26)).alloc (.cells #[.string ⟨#[]⟩, .string ⟨#[]⟩, .int .i64 0] 47) := ⟨_, rfl⟩
  have hb1 : Below w.heap.size w W1 := by rw [hW1]; exact ((Below.refl _ _).alloc (Nat.le_refl _) _).alloc (by simp) _
  have k0 : BlkIs W1 w.heap.size 26 #[.slice o1 n1 f1, .slice o2 n2 f2, .slice o3 n3 f3] := by rw [hW1]; exact (BlkIs.new _ _ _).alloc _
  have k2 : BlkIs W1 (w.heap.size + 1) 47 #[.string ⟨#[]⟩, .string ⟨#[]⟩, .int .i64 0] := by rw [hW1]; exact BlkIs.new2 _ _ _ _
  have HB := Lib.hid hb1
  have HN := Lib.hid hn1
  have HC := Lib.hid h1
  have d0 : W1.cell? ⟨w.heap.size, 0, none⟩ = some (.slice o1 n1 f1) := k0.cell 0
  have r0 : W1.cell? ⟨w.heap.size + 1, 0, none⟩ = some (.string ⟨#[]⟩) := k2.cell 0
  have r1 : W1.cell? ⟨w.heap.size + 1, 1, none⟩ = some (.string ⟨#[]⟩) := k2.cell 1
  have r2 : W1.cell? ⟨w.heap.size + 1, 2, none⟩ = some (.int .i64 0) := k2.cell 2
  have z0 : W1.frozen? ⟨w.heap.size + 1, 0, none⟩ = false := k2.free 0
  have z1 : W1.frozen? ⟨w.heap.size + 1, 1, none⟩ = false := k2.free 1
  have z2 : W1.frozen? ⟨w.heap.size + 1, 2, none⟩ = false := k2.free 2
  have HW := Lib.hid hW1
  clear hW1 hb1 k0 k2 hn1 h1
  go_enter Tryz.func28, Tryz.ntmps28
  go_wp2_with fail
  rw [← HW.out]
  clear HW
  have hlen : n1 ≤ 1000000 := by have := HN.out; omega
  go_loopw [6] (fun i wr => ∃ k : Nat, i = .int .i64 (k : Int) ∧ k ≤ n1 ∧ Hid (∀ x ∈ refs.take k, named name x = false) ∧ wr = W1) (fun i _ => n1 - (intOf i).toNat)
  case atStart => exact ⟨0, rfl, Nat.zero_le _, Lib.hid (fun x hx => by simp at hx), rfl⟩
  case round =>
    obtain ⟨k, rfl, hkn, HA, rfl⟩ := hrel
    rcases Nat.lt_or_ge k n1 with hlt | hge
    · have ki : (k : Int) < n1 := by omega
      have hk : k < refs.length := by have := HN.out; omega
      obtain ⟨b, off, ha, hblt, hc⟩ := (HC.out.later HB.out).at_ (by omega)
      obtain ⟨x, hx⟩ : ∃ x, x = refs[k] := ⟨_, rfl⟩
      have e1 := hc k hk 0 _ (by rw [← hx]; rfl)
      have e2 := hc k hk 1 _ (by rw [← hx]; rfl)
      have e3 := hc k hk 2 _ (by rw [← hx]; rfl)
      have HX := Lib.hid (show refs[k] = x from hx.symm)
      have HXL := Lib.hid hk
      obtain ⟨a0, a1, a2⟩ := x
      dsimp only at e1 e2 e3
      rw [show off + k * 3 + 0 = off + k * 3 from rfl] at e1
      have kw : IntKind.i64.wrap ((k : Int) + 1) = ((k + 1 : Nat) : Int) := IntWalk.i64_in _ (by omega)
      have hR : (a0.toList == name.toList) = true → R = (⟨a0, a1, a2⟩, true) := fun hq => by
        rw [HR.out, refOut_some hk HA.out (by rw [HX.out]; exact hq), HX.out]
      have HRR := Lib.hid hR
      subst ha
      clear hblt hc hx hR
      cases hq : (a0.toList == name.toList)
      · go_wp2_with fail
        refine ⟨⟨k + 1, by simp, by omega, Lib.hid (fun x hx => ?_), trivial⟩, by simp [intOf]; omega⟩
        rw [take_snoc' HXL.out] at hx
        rcases List.mem_append.1 hx with hx | hx
        · exact HA.out x hx
        · rw [List.mem_singleton.1 hx, HX.out]; exact hq
      · go_wp2_with fail
        refine bodyPost_ret (v := .tuple #[.agg #[.string a0, .string a1, .int .i64 a2], .bool true]) (by simp [results, Tryz.results28, go_sem, r0, r1, r2]) rfl
          ⟨by rw [HRR.out hq]; rfl, ((HB.out.setCell (p := ⟨w.heap.size + 1, 0, none⟩) (by show w.heap.size ≤ w.heap.size + 1; omega) _).setCell (p := ⟨w.heap.size + 1, 1, none⟩) (by show w.heap.size ≤ w.heap.size + 1; omega) _).setCell (p := ⟨w.heap.size + 1, 2, none⟩) (by show w.heap.size ≤ w.heap.size + 1; omega) _⟩
    · have ki : decide (k < n1) = false := decide_eq_false (by omega)
      obtain rfl : n1 = k := by omega
      have hR : R = (⟨⟨#[]⟩, ⟨#[]⟩, 0⟩, false) := by
        rw [HR.out]
        exact refOut_none (fun x hx => HA.out x (by rw [HN.out, List.take_length]; exact hx))
      have HRR := Lib.hid hR
      clear hge hR
      go_wp2_with fail
      refine bodyPost_ret (v := .tuple #[.agg #[.string ⟨#[]⟩, .string ⟨#[]⟩, .int .i64 0], .bool false]) (by simp [results, Tryz.results28, go_sem, r0, r1, r2]) rfl
        ⟨by rw [HRR.out]; rfl, ((HB.out.setCell (p := ⟨w.heap.size + 1, 0, none⟩) (by show w.heap.size ≤ w.heap.size + 1; omega) _).setCell (p := ⟨w.heap.size + 1, 1, none⟩) (by show w.heap.size ≤ w.heap.size + 1; omega) _).setCell (p := ⟨w.heap.size + 1, 2, none⟩) (by show w.heap.size ≤ w.heap.size + 1; omega) _⟩
end Go.Proofs.YtngflbakmlddeaaGreat.Mk
