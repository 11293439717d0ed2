/- What the laws of layer 13 share; plain, but for mk_form. (Layer 13.) -/
import Derived.Test.YtbmknmjcoeinkaaGreatMgG
import Derived.Test.YtbmknmjcoeinkaaGreatMg23
namespace Go.Proofs.YtbmknmjcoeinkaaGreat.Mg
set_option linter.unusedVariables false
open Go.RowKit
open Mk (Rf Tok Tb TbR Mks MkR aMk vRf vTok vTb goodB)
open Set (El)
open Classical
theorem mk_form {m : MkR} {w : World} (h : m.Reads w) : ∃ o1 n1 f1 o2 n2 f2 o3 n3 f3, aMk m = .agg #[.slice o1 n1 f1, .slice o2 n2 f2, .slice o3 n3 f3] := by
  obtain ⟨o1, f1, e1, -, -⟩ := h.1.form
  obtain ⟨o2, f2, e2, -, -⟩ := h.2.1.form
  obtain ⟨o3, f3, e3, -, -⟩ := h.2.2.1.form
  exact ⟨o1, _, f1, o2, _, f2, o3, _, f3, by unfold aMk; rw [e1, e2, e3]⟩
theorem tombB_small {t : Mk.Tb} (h : Mk.tombB t = true) : t.acks.length ≤ 7 ∧ t.cov.length ≤ 256 := by
  have h1 := Mk.tombB_at h
  have h2 := few_rise t.acks 1 7 (acks_rise.1 h1.2.2.2.2) h1.2.2.2.1
  exact ⟨by omega, (Mk.tokensB_at h1.2.1).1⟩
/-- Right marks are small. -/
theorem good_small' {m : MkR} (h : goodB m.mk_ = true) : m.Small := by
  obtain ⟨⟨h1, -, -⟩, ⟨h2, h3, -⟩, h4⟩ := Mk.goodB_at h
  have h5 := (Mk.tokensB_at h4).1
  unfold MkR.mk_ at h1 h2 h3 h5
  dsimp only at h1 h2 h3 h5
  rw [List.length_map] at h2
  refine ⟨by omega, by omega, by omega, fun z hz => ?_⟩
  have := tombB_small (h3 z.t (List.mem_map_of_mem hz))
  omega
theorem empty_small {m : MkR} (h : m.mk_ = Mks.empty) : m.Small := by
  obtain ⟨refs, toks, zs, rv, kv, bv⟩ := m
  unfold MkR.mk_ Mks.empty at h
  injection h with e1 e2 e3
  dsimp only at e1 e2 e3
  have e4 := List.map_eq_nil_iff.1 e3
  subst e1 e2 e4
  exact ⟨by simp, by simp, by simp, fun z hz => absurd hz (by simp)⟩
/-- What Join hands back is small. -/
theorem jout_small {a b : Mks} {m : MkR} {c : Int} (h : JOut a b m.mk_ c) : m.Small := by
  rcases h with ⟨-, h, -⟩ | ⟨-, -, h, -⟩ | ⟨-, -, h, -⟩ | ⟨hg, hj, hb, -⟩
  · exact empty_small h
  · exact empty_small h
  · exact empty_small h
  · exact good_small' (jm_good hg.1 hg.2 hj hb)
/-- Where Join says that all is well. -/
theorem jout_ok {a b m : Mks} (h : JOut a b m 0) : (goodB a = true ∧ goodB b = true) ∧ JM a b m ∧ ¬ Big m := by
  rcases h with ⟨-, -, h⟩ | ⟨-, -, -, h⟩ | ⟨-, -, -, h⟩ | ⟨hg, hj, hb, -⟩
  · cases h
  · cases h
  · cases h
  · exact ⟨hg, hj, hb⟩
section
variable {α κ : Type} [El κ] {key : α → κ} {mt : α → α → Option α}
omit [El κ] in
theorem clash_iff {a b : List α} : Clash key mt a b ↔ ∃ k, mo mt (gk key a k) (gk key b k) = none := by
  constructor
  · rintro ⟨k, x, y, h1, h2, h3⟩
    refine ⟨k, ?_⟩
    rw [h1, h2]
    show (mt x y).map some = none
    rw [h3]; rfl
  · rintro ⟨k, h⟩
    cases ea : gk key a k with
    | none => rw [ea] at h; cases h
    | some x =>
      cases eb : gk key b k with
      | none => rw [ea, eb] at h; cases h
      | some y =>
        rw [ea, eb] at h
        have h1 : (mt x y).map some = none := h
        exact ⟨k, x, y, ea, eb, Option.map_eq_none_iff.1 h1⟩
theorem assoc_join (ha : ∀ x y z p q, key x = key y → key y = key z → mt x y = some p → mt y z = some q → mt p z = mt x q) {a b c x z o : List α} (hx : JoinIs key mt a b x) (hz : JoinIs key mt b c z) (h : JoinIs key mt x c o) : JoinIs key mt a z o :=
  ⟨h.1, fun k => by rw [← join_assoc ha hx hz k]; exact h.2 k⟩
theorem assoc_clash (ha : ∀ x y z p q, key x = key y → key y = key z → mt x y = some p → mt y z = some q → mt p z = mt x q) {a b c x z : List α} (hx : JoinIs key mt a b x) (hz : JoinIs key mt b c z) (h : Clash key mt x c) : Clash key mt a z := by
  obtain ⟨k, hk⟩ := clash_iff.1 h
  exact clash_iff.2 ⟨k, by rw [← join_assoc ha hx hz k]; exact hk⟩
end
theorem jm_assoc {a b c x z o : Mks} (hx : JM a b x) (hz : JM b c z) (h : JM x c o) : JM a z o :=
  ⟨assoc_join mRf_assoc hx.1 hz.1 h.1, assoc_join mTok_assoc hx.2.1 hz.2.1 h.2.1, assoc_join mTb_assoc hx.2.2 hz.2.2 h.2.2⟩
theorem jout_assoc {a b c x z p : Mks} {e : Int} (hx : JOut a b x 0) (hz : JOut b c z 0) (h : JOut x c p e) : JOut a z p e := by
  obtain ⟨gx, jx, bx⟩ := jout_ok hx
  obtain ⟨gz, jz, bz⟩ := jout_ok hz
  have g1 := jm_good gx.1 gx.2 jx bx
  have g2 := jm_good gz.1 gz.2 jz bz
  rcases h with ⟨h, h1⟩ | ⟨h, hc, h1⟩ | ⟨h, ⟨m, hm, hb⟩, h1⟩ | ⟨h, hj, hb, h1⟩
  · exact absurd ⟨g1, gz.2⟩ h
  · exact .inr (.inl ⟨⟨gx.1, g2⟩, hc.imp (assoc_clash mTok_assoc jx.2.1 jz.2.1) (assoc_clash mTb_assoc jx.2.2 jz.2.2), h1⟩)
  · exact .inr (.inr (.inl ⟨⟨gx.1, g2⟩, ⟨m, jm_assoc jx jz hm, hb⟩, h1⟩))
  · exact .inr (.inr (.inr ⟨⟨gx.1, g2⟩, jm_assoc jx jz hj, hb, h1⟩))
end Go.Proofs.YtbmknmjcoeinkaaGreat.Mg
