/- shelf.Set[int]: all, find, Has, Len, At, Keys, List, Of, walked. Conditions: at most 1,000,000 things. (Layer 08.) -/
import Derived.Test.YtckhekkdidfefaaSetI1
import Derived.Test.YtckhekkdidfefaaSetU
import Derived.Test.YtckhekkdidfefaaChecked
namespace Go.Proofs.Ytckhekkdidfefaa.Set
set_option linter.unusedVariables false
open Go.RowKit Go.Sort Go.Lib
/-- A set of int: its map, in block g: the keys kv, the values vv; all its blocks from base on. -/
structure IntSet (w : World) (base g : Nat) (kv vv : Value) (l : List Int) : Prop where
  ge : base ≤ g
  blk : BlkIs w g 69 #[kv, vv]
  keys : SlIs w base 3 1 kv l.length (icells l)
  vals : SlIs w base 72 0 vv l.length []
  rise : Rise l
/-- The blocks of a set. -/
def Own_ (g : Nat) (kv vv : Value) (k : Nat) : Prop := k = g ∨ kv.ownBlock = some k ∨ vv.ownBlock = some k
theorem IntSet.chg {S : Nat → Prop} {w w' : World} {base g : Nat} {kv vv : Value} {l : List Int} (h : IntSet w base g kv vv l) (hc : Chg S w w') (hn : ∀ k, Own_ g kv vv k → ¬ S k) : IntSet w' base g kv vv l :=
  ⟨h.ge, hc.blk h.blk (hn g (Or.inl rfl)), hc.sl h.keys fun k hk => hn k (Or.inr (Or.inl hk)), hc.sl h.vals fun k hk => hn k (Or.inr (Or.inr hk)), h.rise⟩
theorem IntSet.later {w w' : World} {base g : Nat} {kv vv : Value} {l : List Int} (h : IntSet w base g kv vv l) (hb : Below w.heap.size w w') : IntSet w' base g kv vv l :=
  h.chg (S := fun _ => False) (.of_below hb) fun _ _ h => h
theorem IntSet.mono {w : World} {base base' g : Nat} {kv vv : Value} {l : List Int} (h : IntSet w base g kv vv l) (hb : base' ≤ base) : IntSet w base' g kv vv l :=
  ⟨Nat.le_trans hb h.ge, h.blk, h.keys.mono hb, h.vals.mono hb, h.rise⟩
theorem IntSet.own {w : World} {base g : Nat} {kv vv : Value} {l : List Int} (h : IntSet w base g kv vv l) {k : Nat} (hk : Own_ g kv vv k) : base ≤ k ∧ k < w.heap.size := by
  rcases hk with rfl | hk | hk
  · exact ⟨h.ge, h.blk.lt⟩
  · exact h.keys.lt k hk
  · exact h.vals.lt k hk
theorem all_int (g : Nat) (w : World) (h : g < w.heap.size) (kv vv : Value) (hb : BlkIs w g 69 #[kv, vv]) : Calls Try.prog 44 #[.pointer (some ⟨g, 0, none⟩)] w fun e w' => e = .returned (.pointer (some ⟨g, 0, none⟩)) ∧ w = w' := by
  have c0 : w.cell? ⟨g, 0, none⟩ = some kv := hb.cell 0
  clear hb
  go_enter Try.func44, Try.ntmps44
  go_wp2_with fail
  go_ret
  exact ⟨rfl, rfl⟩
theorem DrawsOf.trans {a b c : World} (h : DrawsOf a b) (k : DrawsOf b c) : DrawsOf a c := by
  obtain ⟨n, rfl⟩ := h
  obtain ⟨m, rfl⟩ := k
  exact ⟨n + m, by rw [World.drewN_drewN]⟩
theorem find_int (base g : Nat) (kv vv : Value) (l : List Int) (x : Int) (w : World) (h : IntSet w base g kv vv l) (hn : l.length ≤ 1000000) :
    Calls Try.prog 58 #[.pointer (some ⟨g, 0, none⟩), Value.int .i64 x] w fun e w' => e = .returned (.tuple #[.int .i64 ((pos l x : Nat) : Int), .bool (has l x)]) ∧ DrawsOf w w' := by
  have S := Lib.hid (search_int kv l x w (IntAt.of_sl h.keys) h.rise hn)
  have c0 : w.cell? ⟨g, 0, none⟩ = some kv := h.blk.cell 0
  obtain ⟨ao, cap, rfl, -, -, -⟩ := h.keys.form
  obtain ⟨p, hp⟩ : ∃ p, p = pos l x := ⟨_, rfl⟩
  obtain ⟨b, hb⟩ : ∃ b, b = has l x := ⟨_, rfl⟩
  rw [← hp, ← hb] at S ⊢
  clear h hn hp hb
  go_enter Try.func58, Try.ntmps58
  go_wp2_with fail
  refine S.out.mono ?_
  rintro e w1 ⟨rfl, hd⟩
  have HD := Lib.hid hd
  clear S hd
  go_wp2_with fail
  go_ret2
  exact ⟨rfl, HD.out⟩
theorem has_int (base g : Nat) (kv vv : Value) (l : List Int) (x : Int) (w : World) (h : IntSet w base g kv vv l) (hn : l.length ≤ 1000000) :
    Calls Try.prog 34 #[.pointer (some ⟨g, 0, none⟩), Value.int .i64 x] w fun e w' => e = .returned (.bool (has l x)) ∧ DrawsOf w w' := by
  have A := Lib.hid (all_int g w h.blk.lt kv vv h.blk)
  have S := Lib.hid (find_int base g kv vv l x w h hn)
  obtain ⟨b, hb⟩ : ∃ b, b = has l x := ⟨_, rfl⟩
  rw [← hb] at S ⊢
  clear h hn hb
  go_enter Try.func34, Try.ntmps34
  go_wp2_with fail
  refine A.out.mono ?_
  rintro e w1 ⟨rfl, rfl⟩
  clear A
  go_wp2_with fail
  refine S.out.mono ?_
  rintro e w1 ⟨rfl, hd⟩
  have HD := Lib.hid hd
  clear S hd
  go_wp2_with fail
  go_ret
  exact ⟨rfl, HD.out⟩
theorem mlen_int (base g : Nat) (kv vv : Value) (l : List Int) (w : World) (h : IntSet w base g kv vv l) :
    Calls Try.prog 59 #[.pointer (some ⟨g, 0, none⟩)] w fun e w' => e = .returned (.int .i64 (l.length : Int)) ∧ w = w' := by
  have c0 : w.cell? ⟨g, 0, none⟩ = some kv := h.blk.cell 0
  obtain ⟨ao, cap, rfl, -, -, -⟩ := h.keys.form
  clear h
  go_enter Try.func59, Try.ntmps59
  go_wp2_with fail
  go_ret
  exact ⟨rfl, rfl⟩
theorem len_int (base g : Nat) (kv vv : Value) (l : List Int) (w : World) (h : IntSet w base g kv vv l) :
    Calls Try.prog 35 #[.pointer (some ⟨g, 0, none⟩)] w fun e w' => e = .returned (.int .i64 (l.length : Int)) ∧ w = w' := by
  have A := Lib.hid (all_int g w h.blk.lt kv vv h.blk)
  have S := Lib.hid (mlen_int base g kv vv l w h)
  clear h
  go_enter Try.func35, Try.ntmps35
  go_wp2_with fail
  refine A.out.mono ?_
  rintro e w1 ⟨rfl, rfl⟩
  clear A
  go_wp2_with fail
  refine S.out.mono ?_
  rintro e w1 ⟨rfl, rfl⟩
  clear S
  go_wp2_with fail
  go_ret
  exact ⟨rfl, rfl⟩
theorem keys_int (base g : Nat) (kv vv : Value) (l : List Int) (w : World) (h : IntSet w base g kv vv l) (hn : l.length ≤ 1000000) :
    Calls Try.prog 45 #[.pointer (some ⟨g, 0, none⟩)] w fun e w' => ∃ v', e = .returned v' ∧ SlIs w' w.heap.size 3 1 v' l.length (icells l) ∧ Below w.heap.size w w' := by
  have c0 : w.cell? ⟨g, 0, none⟩ = some kv := h.blk.cell 0
  have C := Lib.hid (clone_int kv l w (IntAt.of_sl h.keys) hn)
  obtain ⟨ao, cap, rfl, -, -, -⟩ := h.keys.form
  clear h hn
  go_enter Try.func45, Try.ntmps45
  go_wp2_with fail
  refine C.out.mono ?_
  rintro e w1 ⟨v', rfl, hs, hb⟩
  have H := Lib.hid (And.intro hs hb)
  clear C hs hb
  go_wp2_with fail
  go_ret
  exact ⟨_, rfl, H.out⟩
theorem list_int (base g : Nat) (kv vv : Value) (l : List Int) (w : World) (h : IntSet w base g kv vv l) (hn : l.length ≤ 1000000) :
    Calls Try.prog 13 #[.pointer (some ⟨g, 0, none⟩)] w fun e w' => ∃ v', e = .returned v' ∧ SlIs w' w.heap.size 3 1 v' l.length (icells l) ∧ Below w.heap.size w w' := by
  have A := Lib.hid (all_int g w h.blk.lt kv vv h.blk)
  have S := Lib.hid (keys_int base g kv vv l w h hn)
  clear h hn
  go_enter Try.func13, Try.ntmps13
  go_wp2_with fail
  refine A.out.mono ?_
  rintro e w1 ⟨rfl, rfl⟩
  clear A
  go_wp2_with fail
  refine S.out.mono ?_
  rintro e w1 ⟨v', rfl, hs, hb⟩
  have H := Lib.hid (And.intro hs hb)
  clear S hs hb
  go_wp2_with fail
  go_ret
  exact ⟨_, rfl, H.out⟩
theorem at_int (base g : Nat) (kv vv : Value) (l : List Int) (i : Nat) (hi : i < l.length) (w : World) (h : IntSet w base g kv vv l) :
    Calls Try.prog 33 #[.pointer (some ⟨g, 0, none⟩), .int .i64 (i : Int)] w fun e w' => e = .returned (.tuple #[Value.int .i64 l[i], .bool true]) ∧ w = w' := by
  have c0 : w.cell? ⟨g, 0, none⟩ = some kv := h.blk.cell 0
  have L := Lib.hid (len_int base g kv vv l w h)
  rcases h.keys.parts with ⟨_, h0⟩ | ⟨b, off, cap, rfl, _, _, hc, hm, hx, _⟩
  · exact absurd hi (by omega)
  have c1 := hx i hi
  rw [icells_get l i hi] at c1
  obtain ⟨y, hy⟩ : ∃ y, y = l[i] := ⟨_, rfl⟩
  rw [← hy] at c1 ⊢
  obtain ⟨n, hn⟩ : ∃ n, n = l.length := ⟨_, rfl⟩
  rw [← hn] at L c0 hi
  have k0 : decide ((i : Int) < 0) = false := decide_eq_false (by omega)
  have k1 : decide ((n : Int) ≤ i) = false := decide_eq_false (by omega)
  have k2 : (i : Int) < n := by omega
  clear h hx hy hn hc hm hi
  go_enter Try.func33, Try.ntmps33
  go_wp2_with fail
  refine L.out.mono ?_
  rintro e w1 ⟨rfl, rfl⟩
  clear L
  go_wp2_with fail
  go_ret2
  exact ⟨rfl, rfl⟩
end Go.Proofs.Ytckhekkdidfefaa.Set
