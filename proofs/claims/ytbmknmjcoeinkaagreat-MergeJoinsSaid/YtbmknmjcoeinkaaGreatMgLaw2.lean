/- Least, below, again: what the laws MergeLeast and MergeAgain ask; plain. (Layer 13.) -/
import Derived.Test.YtbmknmjcoeinkaaGreatMgLaw
namespace Go.Proofs.YtbmknmjcoeinkaaGreat.Mg
set_option linter.unusedVariables false
open Mk (Rf Tok Tb TbR Mks MkR aMk goodB)
open Set (El)
open Classical
/-- Where Join refuses it hands back no marks. -/
theorem jout_err {a b m : Mks} {c : Int} (h : JOut a b m c) (hc : c ≠ 0) : m = Mks.empty := by
  rcases h with ⟨-, h, -⟩ | ⟨-, -, h, -⟩ | ⟨-, -, h, -⟩ | ⟨-, -, -, h⟩
  · exact h
  · exact h
  · exact h
  · exact absurd h hc
section
variable {α κ : Type} [El κ] {key : α → κ} {mt : α → α → Option α} {le : α → α → Prop}
theorem bl_left (hr : ∀ x, le x x) (hm : ∀ x y z, mt x y = some z → key x = key y → le x z) {a b o : List α} (ra : Rk key a) (h : JoinIs key mt a b o) : Bl le a o := by
  intro x hx
  have h1 := h.2 (key x)
  rw [gk_mem (rk_uk ra) hx] at h1
  cases eb : gk key b (key x) with
  | none =>
    rw [eb] at h1
    have h2 : some x = gk key o (key x) := Option.some.inj h1
    exact ⟨x, (gk_some h2.symm).1, hr x⟩
  | some y =>
    rw [eb] at h1
    have h2 : (mt x y).map some = some (gk key o (key x)) := h1
    cases em : mt x y with
    | none => rw [em] at h2; cases h2
    | some z =>
      rw [em] at h2
      have h3 : some z = gk key o (key x) := Option.some.inj h2
      exact ⟨z, (gk_some h3.symm).1, hm x y z em (gk_some eb).2.symm⟩
theorem bl_least (hk : ∀ x u, le x u → key x = key u) (hm : ∀ x y z u, mt x y = some z → key x = key y → le x u → le y u → le z u) {a b o c : List α} (rc : Rk key c) (h : JoinIs key mt a b o) (h1 : Bl le a c) (h2 : Bl le b c) : Bl le o c := by
  intro z hz
  rcases join_mem h hz with hz | hz | ⟨x, hx, y, hy, he, hm'⟩
  · exact h1 z hz
  · exact h2 z hz
  · obtain ⟨u, hu, hxu⟩ := h1 x hx
    obtain ⟨v, hv, hyv⟩ := h2 y hy
    have : u = v := rk_key rc hu hv ((hk x u hxu).symm.trans (he.trans (hk y v hyv)))
    subst this
    exact ⟨u, hu, hm x y z u hm' he hxu hyv⟩
/-- Joined with what it is below, it is that. -/
theorem join_le (hk : ∀ x u, le x u → key x = key u) {a b : List α} (hm : ∀ x ∈ a, ∀ y ∈ b, le x y → mt x y = some y) (ra : Rk key a) (rb : Rk key b) (h : Bl le a b) : JoinIs key mt a b b := by
  refine ⟨rb, fun k => ?_⟩
  cases ea : gk key a k with
  | none => rfl
  | some x =>
    obtain ⟨hx, hkx⟩ := gk_some ea
    obtain ⟨y, hy, hxy⟩ := h x hx
    have e : gk key b k = some y := (gk_iff (rk_uk rb)).2 ⟨hy, (hk x y hxy).symm.trans hkx⟩
    rw [e]
    show (mt x y).map some = _
    rw [hm x hx y hy hxy]; rfl
end
theorem lRf_refl (x : Rf) : lRf x x := ⟨rfl, fun h => ab_asym h h⟩
theorem lTb_refl (x : Tb) : lTb x x := ⟨rfl, rfl, rfl, fun n hn => hn⟩
theorem leM_refl (a : Mks) : LeM a a := ⟨fun x hx => ⟨x, hx, lRf_refl x⟩, fun x hx => hx, fun x hx => ⟨x, hx, lTb_refl x⟩⟩
theorem tok_bl {a b : List Tok} : Bl Eq a b ↔ ∀ x ∈ a, x ∈ b := ⟨fun h x hx => by obtain ⟨y, hy, rfl⟩ := h x hx; exact hy, fun h x hx => ⟨x, h x hx, rfl⟩⟩
theorem jm_left {a b m : Mks} (ga : goodB a = true) (h : JM a b m) : LeM a m :=
  ⟨bl_left (key := kRf) (mt := mRf) lRf_refl (fun x y z hm he => (le_mRf hm he).1) (good_rk ga).1 h.1,
   tok_bl.1 (bl_left (fun _ => rfl) (fun x y z hm he => by unfold mTok at hm; split at hm; exact Option.some.inj hm; cases hm) (good_rk ga).2.1 h.2.1),
   bl_left (key := kTb) (mt := mTb) lTb_refl (fun x y z hm he => (le_mTb hm he).1) (good_rk ga).2.2 h.2.2⟩
theorem jm_right {a b m : Mks} (gb : goodB b = true) (h : JM a b m) : LeM b m := jm_left gb (jm_comm h)
theorem jm_least {a b m c : Mks} (gc : goodB c = true) (h : JM a b m) (h1 : LeM a c) (h2 : LeM b c) : LeM m c :=
  ⟨bl_least (le := lRf) (key := kRf) (mt := mRf) (fun x u h => h.1) (fun x y z u hm he k1 k2 => mRf_least hm k1 k2) (good_rk gc).1 h.1 h1.1 h2.1,
   tok_bl.1 (bl_least (fun x u h => by rw [h]) (fun x y z u hm he k1 k2 => by unfold mTok at hm; split at hm; exact (Option.some.inj hm).symm.trans k1; cases hm) (good_rk gc).2.1 h.2.1 (tok_bl.2 h1.2.1) (tok_bl.2 h2.2.1)),
   bl_least (le := lTb) (key := kTb) (mt := mTb) (fun x u h => h.1) (fun x y z u hm he k1 k2 => mTb_least hm k1 k2) (good_rk gc).2.2 h.2.2 h1.2.2 h2.2.2⟩
theorem jm_le {a b : Mks} (ga : goodB a = true) (gb : goodB b = true) (h : LeM a b) : JM a b b :=
  ⟨join_le (le := lRf) (key := kRf) (mt := mRf) (fun x u h => h.1) (fun x _ y _ h => mRf_le h) (good_rk ga).1 (good_rk gb).1 h.1,
   join_le (le := Eq) (fun x u h => by rw [h]) (fun x _ y _ h => by subst h; exact if_pos rfl) (good_rk ga).2.1 (good_rk gb).2.1 (tok_bl.2 h.2.1),
   join_le (le := lTb) (key := kTb) (mt := mTb) (fun x u h => h.1) (fun x _ y hy h => mTb_le (good_acks gb hy) h) (good_rk ga).2.2 (good_rk gb).2.2 h.2.2⟩
theorem good_big {m : Mks} (h : goodB m = true) : ¬ Big m := by
  obtain ⟨⟨h1, -, -⟩, ⟨h2, -, -⟩, h4⟩ := Mk.goodB_at h
  have h5 := (Mk.tokensB_at h4).1
  unfold Big
  omega
theorem jout_le {a b : Mks} (ga : goodB a = true) (gb : goodB b = true) (h : LeM a b) : JOut a b b 0 := .inr (.inr (.inr ⟨⟨ga, gb⟩, jm_le ga gb h, good_big gb, rfl⟩))
theorem leM_antisymm {a b : Mks} (ga : goodB a = true) (gb : goodB b = true) (h1 : LeM a b) (h2 : LeM b a) : a = b := jm_unique (jm_comm (jm_le gb ga h2)) (jm_le ga gb h1)
/-- An ack, plain. -/
noncomputable def ackM (m : Mks) (n : Int) : Mks := ⟨m.refs, m.toks, m.tombs.map fun t => plus t [n]⟩
theorem ack_le (m : Mks) (n : Int) : LeM m (ackM m n) := ⟨fun x hx => ⟨x, hx, lRf_refl x⟩, fun x hx => hx, fun x hx => ⟨plus x [n], List.mem_map_of_mem hx, rfl, rfl, rfl, fun k hk => mem_sortU.2 (List.mem_append.2 (.inl hk))⟩⟩
theorem ack_again (m : Mks) (n : Int) : ackM (ackM m n) n = ackM m n := by
  unfold ackM
  congr 1
  rw [List.map_map]
  apply List.map_congr_left
  intro t _
  show plus (plus t [n]) [n] = plus t [n]
  unfold plus
  dsimp only
  congr 1
  exact sortU_congr fun x => by
    rw [List.mem_append, mem_sortU]
    constructor
    · rintro (h | h)
      · exact h
      · exact List.mem_append.2 (.inr h)
    · exact fun h => .inl h
theorem rk_ack {l : List Tb} {n : Int} (h : Rk kTb l) : Rk kTb (l.map fun t => plus t [n]) := List.pairwise_map.2 h
theorem ack_good {m : Mks} {n : Int} (h : goodB m = true) (hn : 1 ≤ n ∧ n ≤ 7) : goodB (ackM m n) = true := by
  obtain ⟨-, ⟨a1, a2, a3⟩, -⟩ := Mk.goodB_at h
  have g : Mk.tombsB (m.tombs.map fun t => plus t [n]) = true := by
    unfold Mk.tombsB
    simp only [Bool.and_eq_true, decide_eq_true_eq, List.all_eq_true]
    refine ⟨⟨by rw [List.length_map]; exact a1, fun z hz => ?_⟩, (rise_rk Mk.tombLt_trans (fun a b => tomb_lt)).2 (rk_ack (good_rk h).2.2)⟩
    obtain ⟨t, ht, rfl⟩ := List.mem_map.1 hz
    exact tombB_plus (a2 t ht) fun k hk => by
      rcases List.mem_singleton.1 hk with rfl
      unfold Mk.isNodeB
      exact decide_eq_true hn
  unfold goodB at h ⊢
  simp only [Bool.and_eq_true] at h ⊢
  exact ⟨⟨h.1.1, g⟩, h.2⟩
theorem aout_ok {m m' : Mks} {n c : Int} (h : AOut m n m' c) (hg : goodB m = true) (hn : 1 ≤ n ∧ n ≤ 7) : m' = ackM m n ∧ c = 0 := by
  rcases h with ⟨h, -, -⟩ | ⟨-, h, hc⟩
  · exact absurd ⟨hg, hn⟩ h
  · exact ⟨h, hc⟩
theorem empty_le (a : Mks) : LeM Mks.empty a := ⟨fun x hx => absurd hx (by simp [Mks.empty]), fun x hx => absurd hx (by simp [Mks.empty]), fun x hx => absurd hx (by simp [Mks.empty])⟩
end Go.Proofs.YtbmknmjcoeinkaaGreat.Mg
