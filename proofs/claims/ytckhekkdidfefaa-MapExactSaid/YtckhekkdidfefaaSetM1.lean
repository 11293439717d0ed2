/- shelf.Map[string, int]: Get, Put, walked. (Layer 08.) -/
import Derived.Test.YtckhekkdidfefaaSetM0
namespace Go.Proofs.Ytckhekkdidfefaa.Set
set_option linter.unusedVariables false
open Go.RowKit Go.Sort Go.Lib
theorem SlIs.put1 {w : World} {base : Nat} {e : TypeId} {g off n cap : Nat} {xs : List Value} (h : SlIs w base e 1 (.slice (some ⟨g, off, none⟩) n cap) n xs) (i : Nat) (hi : i < n) (u : Value) :
    SlIs (w.setCell ⟨g, off + i, none⟩ u) base e 1 (.slice (some ⟨g, off, none⟩) n cap) n (xs.set i u) := by
  have hl : xs.length = n := by simpa using h.1
  have hc := h.capLe
  have := SlIs.puts h i n [u] (xs.set i u) hc (by simp; omega) (by simp [hl]) (fun j hj hj2 => ?_) (fun j hj h1 h2 => ?_)
  · exact this
  · refine ⟨hj, ?_⟩
    rw [List.getElem?_set_ne (by simp at hj2; omega)]
  · obtain rfl : j = i := by simp at h2; omega
    rw [List.getElem?_set_self (by omega), Nat.sub_self]; rfl
theorem at_pos {L : Row} {x : ByteArray} (hr : Rise (ks L)) (h : x ∈ ks L) : ∃ hp : pos (ks L) x < L.length, (L[pos (ks L) x]).1 = x := by
  obtain ⟨h1, h2⟩ := pos_at hr h
  have h1' : pos (ks L) x < L.length := by rw [← ks_len L]; exact h1
  refine ⟨h1', ?_⟩
  rw [List.getElem_map] at h2
  exact h2
open Classical in
noncomputable def mget (L : Row) (x : ByteArray) : Int := if x ∈ ks L then ((vs L)[pos (ks L) x]?).getD 0 else 0
open Classical in
noncomputable def mput (x : ByteArray) (y : Int) (L : Row) : Row := if x ∈ ks L then L.set (pos (ks L) x) (x, y) else L.take (pos (ks L) x) ++ (x, y) :: L.drop (pos (ks L) x)
theorem mget_in {L : Row} {x : ByteArray} (hr : Rise (ks L)) (h : x ∈ ks L) : ∃ hp : pos (ks L) x < L.length, mget L x = (L[pos (ks L) x]).2 ∧ (L[pos (ks L) x]).1 = x := by
  obtain ⟨h1, h2⟩ := at_pos hr h
  refine ⟨h1, ?_, h2⟩
  unfold mget
  rw [if_pos h, List.getElem?_map, List.getElem?_eq_getElem h1]
  rfl
theorem mget_out {L : Row} {x : ByteArray} (h : ¬ x ∈ ks L) : mget L x = 0 := if_neg h
theorem mput_in {L : Row} {x : ByteArray} {y : Int} (h : x ∈ ks L) : mput x y L = L.set (pos (ks L) x) (x, y) := if_pos h
theorem mput_out {L : Row} {x : ByteArray} {y : Int} (h : ¬ x ∈ ks L) : mput x y L = L.take (pos (ks L) x) ++ (x, y) :: L.drop (pos (ks L) x) := if_neg h
theorem ks_put {L : Row} {x : ByteArray} {y : Int} (hr : Rise (ks L)) : ks (mput x y L) = ins x (ks L) := by
  by_cases h : x ∈ ks L
  · obtain ⟨h1, h2⟩ := at_pos hr h
    rw [mput_in h, ins_of h, ks, List.map_set]
    apply List.ext_getElem?
    intro i
    rw [List.getElem?_set]
    split
    · rename_i e
      subst e
      rw [if_pos (by simpa using h1), List.getElem?_map, List.getElem?_eq_getElem h1]
      simp [h2]
    · rfl
  · rw [mput_out h, ins_new h]
    simp [ks, List.map_take, List.map_drop]
theorem map_get (base g : Nat) (kv vv : Value) (L : Row) (x : ByteArray) (w : World) (h : SMap w base g kv vv L) (hn : L.length ≤ 1000000) :
    Calls Try.prog 24 #[.pointer (some ⟨g, 0, none⟩), .string x] w fun e w' => e = .returned (.tuple #[.int .i64 (mget L x), .bool (has (ks L) x)]) ∧ DrawsOf w w' := by
  have F := Lib.hid (map_find base g kv vv L x w h hn)
  have c1 : w.cell? ⟨g, 1, none⟩ = some vv := h.blk.cell 1
  have HV := Lib.hid h.vals
  by_cases hx : x ∈ ks L
  · obtain ⟨hp, hg, -⟩ := mget_in h.rise hx
    rw [has_true hx, hg] at *
    obtain ⟨p, hpp⟩ : ∃ p, p = pos (ks L) x := ⟨_, rfl⟩
    have HY := Lib.hid (List.getElem?_eq_getElem hp)
    obtain ⟨y, hy⟩ : ∃ y, y = (L[pos (ks L) x]).2 := ⟨_, rfl⟩
    rw [← hy]
    have hc : (icells (vs L))[p]? = some (.int .i64 y) := by rw [hpp, hy, icells, List.getElem?_map, List.getElem?_map, HY.out]; rfl
    rw [← hpp] at F hp
    have HC := Lib.hid hc
    obtain ⟨n, hn'⟩ : ∃ n, n = L.length := ⟨_, rfl⟩
    rw [← hn'] at HV hp hn
    clear h hx hg hpp hy HY hc hn'
    rcases HV.out.parts with ⟨rfl, h0⟩ | ⟨b, off, cap, rfl, -, hblt, hcc, hmx, hcell, -⟩
    · omega
    have c2 := (hcell p hp).trans HC.out
    have k0 : (p : Int) < n := by omega
    clear hcell
    go_enter Try.func24, Try.ntmps24
    go_wp2_with fail
    refine F.out.mono ?_
    rintro e w1 ⟨rfl, q, rfl⟩
    clear F
    go_wp2_with fail
    go_ret2
    exact ⟨rfl, ⟨q, rfl⟩⟩
  · rw [has_false hx] at *
    rw [mget_out hx]
    obtain ⟨p, hpp⟩ : ∃ p, p = pos (ks L) x := ⟨_, rfl⟩
    rw [← hpp] at F
    clear h hx hpp hn
    go_enter Try.func24, Try.ntmps24
    go_wp2_with fail
    refine F.out.mono ?_
    rintro e w1 ⟨rfl, q, rfl⟩
    clear F
    go_wp2_with fail
    go_ret2
    exact ⟨rfl, ⟨q, rfl⟩⟩
end Go.Proofs.Ytckhekkdidfefaa.Set
