/- reliquarylaw08.MapExact: the map beside the reference's list; the calls' contracts, in one form. (Layer 08.) -/
import Derived.Test.YtckhekkdidfefaaSetP5
import Derived.Test.YtckhekkdidfefaaSetP6
namespace Go.Proofs.Ytckhekkdidfefaa.Set
set_option linter.unusedVariables false
open Go.RowKit Go.Sort Go.Lib
/-- A map and the reference's list of the same pairs. -/
def Both (base g : Nat) (v : Value) (L : Row) (W : World) : Prop := ∃ kv vv, SMap W base g kv vv L ∧ PairOff (Own_ g kv vv) W v L
theorem Both.below {base g B : Nat} {v : Value} {L : Row} {W W' : World} (h : Both base g v L W) (hb : Below B W W') (hB : W.heap.size ≤ B) : Both base g v L W' := by
  obtain ⟨kv, vv, hs, hp⟩ := h
  have hb := hb.mono hB
  exact ⟨kv, vv, hs.later hb, hp.chg (.of_below hb) fun k hk => Or.inl hk⟩
theorem Both.form {base g : Nat} {v : Value} {L : Row} {W : World} (h : Both base g v L W) : ∃ ao cap, v = .slice ao L.length cap := by
  obtain ⟨kv, vv, hs, ao, cap, hv, _⟩ := h
  exact ⟨ao, cap, hv⟩
theorem Both.rise {base g : Nat} {v : Value} {L : Row} {W : World} (h : Both base g v L W) : Rise (ks L) := h.elim fun _ h => h.elim fun _ h => h.1.rise
theorem Both.pairs {base g : Nat} {v : Value} {L : Row} {W : World} (h : Both base g v L W) : PairAt W v L := h.elim fun _ h => h.elim fun _ h => h.2.at_
/-- Behind a call that changes the map: the map has another row, the list reads as before. -/
def Part (base g : Nat) (v : Value) (L L' : Row) (W : World) : Prop := ∃ kv vv, SMap W base g kv vv L' ∧ PairOff (Own_ g kv vv) W v L
theorem both_get {base g : Nat} {v : Value} {L : Row} {x : ByteArray} {W : World} (h : Both base g v L W) (hn : L.length ≤ 1000000) :
    Calls Try.prog 24 #[.pointer (some ⟨g, 0, none⟩), .string x] W fun e w' => e = .returned (.tuple #[.int .i64 (mget L x), .bool (has (ks L) x)]) ∧ DrawsOf W w' := by
  obtain ⟨kv, vv, hs, hp⟩ := h
  exact map_get base g kv vv L x W hs hn
theorem both_put {base g : Nat} {v : Value} {L : Row} {x : ByteArray} {y : Int} {w W : World} (h : Both base g v L w) (hb : Below w.heap.size w W) (hn : L.length < 1000000) {c : Nat} {t : TypeId} {cs : Array Value} (hc : BlkIs W c t cs) (hcb : w.heap.size ≤ c) :
    Calls Try.prog 22 #[.pointer (some ⟨g, 0, none⟩), .string x, .int .i64 y] W fun e w' => e = .returned (.bool (!has (ks L) x)) ∧ Part base g v L (mput x y L) w' ∧ Below base W w' ∧ BlkIs w' c t cs := by
  obtain ⟨kv, vv, hs, hp⟩ := h
  have hs1 := hs.later hb
  have hp1 : PairOff (Own_ g kv vv) W v L := hp.chg (.of_below hb) fun k hk => Or.inl hk
  refine (map_put base g kv vv L x y W hs1 hn).mono ?_
  rintro e w' ⟨kv', vv', rfl, hs', hch, hown⟩
  exact ⟨rfl, ⟨kv', vv', hs', hp1.chg hch hown⟩, hch.below (Nat.le_trans hs1.ge (Nat.le_of_lt hs1.blk.lt)) fun k hk => (hs.own hk).1, hch.blk hc fun ho => by have := (hs.own ho).2; omega⟩
theorem both_del {base g : Nat} {v : Value} {L : Row} {x : ByteArray} {w W : World} (h : Both base g v L w) (hb : Below w.heap.size w W) (hn : L.length ≤ 1000000) {c : Nat} {t : TypeId} {cs : Array Value} (hc : BlkIs W c t cs) (hcb : w.heap.size ≤ c) :
    Calls Try.prog 25 #[.pointer (some ⟨g, 0, none⟩), .string x] W fun e w' => e = .returned (.bool (has (ks L) x)) ∧ Part base g v L (mdel x L) w' ∧ Below base W w' ∧ BlkIs w' c t cs := by
  obtain ⟨kv, vv, hs, hp⟩ := h
  have hs1 := hs.later hb
  have hp1 : PairOff (Own_ g kv vv) W v L := hp.chg (.of_below hb) fun k hk => Or.inl hk
  refine (map_del base g kv vv L x W hs1 hn).mono ?_
  rintro e w' ⟨kv', vv', rfl, hs', hch, hown⟩
  exact ⟨rfl, ⟨kv', vv', hs', hp1.chg hch hown⟩, hch.below (Nat.le_trans hs1.ge (Nat.le_of_lt hs1.blk.lt)) fun k hk => (hs.own hk).1, hch.blk hc fun ho => by have := (hs.own ho).2; omega⟩
theorem Part.join {base g : Nat} {v v' : Value} {L L' : Row} {W W' : World} (h : Part base g v L L' W) (hb : Below W.heap.size W W') (hp : PairOff (fun k => k < W.heap.size) W' v' L') : Both base g v' L' W' := by
  obtain ⟨kv, vv, hs, -⟩ := h
  refine ⟨kv, vv, hs.later hb, hp.chg (w' := W') (.of_below (Below.refl _ _)) fun k hk => Or.inl (hs.own hk).2⟩
theorem Part.pairs {base g : Nat} {v : Value} {L L' : Row} {W : World} (h : Part base g v L L' W) : PairAt W v L := h.elim fun _ h => h.elim fun _ h => h.2.at_
theorem both_goes {base g : Nat} {v : Value} {L : Row} {W : World} (h : Both base g v L W) (hn : L.length ≤ 1000000) :
    Calls Try.prog 27 #[.pointer (some ⟨g, 0, none⟩), v] W fun e w' => e = .returned (.bool true) ∧ Below W.heap.size W w' := by
  obtain ⟨kv, vv, hs, hp⟩ := h
  exact goes_any base g kv vv L v W hs hp.at_ hn
theorem both_len {base g : Nat} {v : Value} {L : Row} {W : World} (h : Both base g v L W) :
    Calls Try.prog 28 #[.pointer (some ⟨g, 0, none⟩)] W fun e w' => e = .returned (.int .i64 (L.length : Int)) ∧ W = w' := by
  obtain ⟨kv, vv, hs, hp⟩ := h
  exact map_len base g kv vv L W hs
end Go.Proofs.Ytckhekkdidfefaa.Set
