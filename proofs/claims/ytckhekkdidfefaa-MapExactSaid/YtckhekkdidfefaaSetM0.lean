/- shelf.Map[string, int]: what it is; New, find, Len, Keys, Get, walked. At most 1,000,000 keys. (Layer 08.) -/
import Derived.Test.YtckhekkdidfefaaSetS1
import Derived.Test.YtckhekkdidfefaaSetI2
namespace Go.Proofs.Ytckhekkdidfefaa.Set
set_option linter.unusedVariables false
open Go.RowKit Go.Sort Go.Lib
abbrev Row := List (ByteArray × Int)
abbrev ks (L : Row) : List ByteArray := L.map (·.1)
abbrev vs (L : Row) : List Int := L.map (·.2)
/-- A map of texts to numbers, in block g: the keys kv, the values vv; all its blocks from base on. -/
structure SMap (w : World) (base g : Nat) (kv vv : Value) (L : Row) : Prop where
  ge : base ≤ g
  blk : BlkIs w g 75 #[kv, vv]
  keys : SlIs w base 9 1 kv L.length (scells (ks L))
  vals : SlIs w base 3 1 vv L.length (icells (vs L))
  rise : Rise (ks L)
theorem SMap.chg {S : Nat → Prop} {w w' : World} {base g : Nat} {kv vv : Value} {L : Row} (h : SMap w base g kv vv L) (hc : Chg S w w') (hn : ∀ k, Own_ g kv vv k → ¬ S k) : SMap w' base g kv vv L :=
  ⟨h.ge, hc.blk h.blk (hn g (Or.inl rfl)), hc.sl h.keys fun k hk => hn k (Or.inr (Or.inl hk)), hc.sl h.vals fun k hk => hn k (Or.inr (Or.inr hk)), h.rise⟩
theorem SMap.later {w w' : World} {base g : Nat} {kv vv : Value} {L : Row} (h : SMap w base g kv vv L) (hb : Below w.heap.size w w') : SMap w' base g kv vv L :=
  h.chg (S := fun _ => False) (.of_below hb) fun _ _ h => h
theorem SMap.mono {w : World} {base base' g : Nat} {kv vv : Value} {L : Row} (h : SMap w base g kv vv L) (hb : base' ≤ base) : SMap w base' g kv vv L :=
  ⟨Nat.le_trans hb h.ge, h.blk, h.keys.mono hb, h.vals.mono hb, h.rise⟩
theorem SMap.own {w : World} {base g : Nat} {kv vv : Value} {L : Row} (h : SMap w base g kv vv L) {k : Nat} (hk : Own_ g kv vv k) : base ≤ k ∧ k < w.heap.size := by
  rcases hk with rfl | hk | hk
  · exact ⟨h.ge, h.blk.lt⟩
  · exact h.keys.lt k hk
  · exact h.vals.lt k hk
theorem ks_len (L : Row) : (ks L).length = L.length := by simp
theorem SMap.keysAt {w : World} {base g : Nat} {kv vv : Value} {L : Row} (h : SMap w base g kv vv L) : StrAt w kv (ks L) := StrAt.of_sl (by rw [ks_len]; exact h.keys)
theorem map_new (w : World) : Calls Try.prog 20 #[] w fun e w' => ∃ g kv vv, e = .returned (.pointer (some ⟨g, 0, none⟩)) ∧ SMap w' w.heap.size g kv vv [] ∧ Below w.heap.size w w' := by
  have k := BlkIs.new w 75 #[.slice none 0 0, .slice none 0 0]
  have H := Lib.hid (And.intro k ((Below.refl w.heap.size w).alloc (Nat.le_refl _) (.cells #[.slice none 0 0, .slice none 0 0] 75)))
  clear k
  go_enter Try.func20, Try.ntmps20
  go_wp2_with fail
  go_ret
  exact ⟨w.heap.size, _, _, rfl, ⟨Nat.le_refl _, H.out.1, SlIs.nil_ _ _ _ _, SlIs.nil_ _ _ _ _, List.Pairwise.nil⟩, H.out.2⟩
theorem map_find (base g : Nat) (kv vv : Value) (L : Row) (x : ByteArray) (w : World) (h : SMap w base g kv vv L) (hn : L.length ≤ 1000000) :
    Calls Try.prog 47 #[.pointer (some ⟨g, 0, none⟩), .string x] w fun e w' => e = .returned (.tuple #[.int .i64 ((pos (ks L) x : Nat) : Int), .bool (has (ks L) x)]) ∧ DrawsOf w w' := by
  have S := Lib.hid (search_string kv (ks L) x w h.keysAt h.rise (by rw [ks_len]; exact hn))
  have c0 : w.cell? ⟨g, 0, none⟩ = some kv := h.blk.cell 0
  obtain ⟨ao, cap, rfl, -, -, -⟩ := h.keys.form
  obtain ⟨p, hp⟩ : ∃ p, p = pos (ks L) x := ⟨_, rfl⟩
  obtain ⟨b, hb⟩ : ∃ b, b = has (ks L) x := ⟨_, rfl⟩
  rw [← hp, ← hb] at S ⊢
  clear h hn hp hb
  go_enter Try.func47, Try.ntmps47
  go_wp2_with fail
  refine S.out.mono ?_
  rintro e w1 ⟨rfl, hd⟩
  have HD := Lib.hid hd
  clear S hd
  go_wp2_with fail
  go_ret2
  exact ⟨rfl, HD.out⟩
theorem map_len (base g : Nat) (kv vv : Value) (L : Row) (w : World) (h : SMap w base g kv vv L) :
    Calls Try.prog 28 #[.pointer (some ⟨g, 0, none⟩)] w fun e w' => e = .returned (.int .i64 (L.length : Int)) ∧ w = w' := by
  have c0 : w.cell? ⟨g, 0, none⟩ = some kv := h.blk.cell 0
  obtain ⟨ao, cap, rfl, -, -, -⟩ := h.keys.form
  obtain ⟨n, hn⟩ : ∃ n, n = L.length := ⟨_, rfl⟩
  rw [← hn] at c0 ⊢
  clear h hn
  go_enter Try.func28, Try.ntmps28
  go_wp2_with fail
  go_ret
  exact ⟨rfl, rfl⟩
theorem map_keys (base g : Nat) (kv vv : Value) (L : Row) (w : World) (h : SMap w base g kv vv L) (hn : L.length ≤ 1000000) :
    Calls Try.prog 29 #[.pointer (some ⟨g, 0, none⟩)] w fun e w' => ∃ v', e = .returned v' ∧ SlIs w' w.heap.size 9 1 v' L.length (scells (ks L)) ∧ Below w.heap.size w w' := by
  have c0 : w.cell? ⟨g, 0, none⟩ = some kv := h.blk.cell 0
  have C := clone_string kv (ks L) w h.keysAt (by rw [ks_len]; exact hn)
  rw [ks_len] at C
  have C := Lib.hid C
  obtain ⟨ao, cap, rfl, -, -, -⟩ := h.keys.form
  clear h hn
  go_enter Try.func29, Try.ntmps29
  go_wp2_with fail
  refine C.out.mono ?_
  rintro e w1 ⟨v', rfl, hs, hb⟩
  have H := Lib.hid (And.intro hs hb)
  clear C hs hb
  go_wp2_with fail
  go_ret
  exact ⟨_, rfl, H.out⟩
end Go.Proofs.Ytckhekkdidfefaa.Set
