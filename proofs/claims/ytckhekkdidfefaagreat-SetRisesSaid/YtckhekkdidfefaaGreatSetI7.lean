/- shelf.Meet, Minus, Within, Union, walked. (Layer 08.) -/
import Derived.Test.YtckhekkdidfefaaGreatSetI6
namespace Go.Proofs.YtckhekkdidfefaaGreat.Set
set_option linter.unusedVariables false
open Go.RowKit Go.Sort Go.Lib Go.Shelf
theorem icells_app (l m : List Int) : icells (l ++ m) = icells l ++ icells m := by simp [icells]
/-- What part leaves. -/
def IntPart (la lb : List Int) (inn : Bool) (w w' : World) (e : Ending) : Prop := ∃ g kv vv, e = .returned (.pointer (some ⟨g, 0, none⟩)) ∧ IntSet w' w.heap.size g kv vv (la.filter (partOf lb inn)) ∧ Below w.heap.size w w'
theorem minus_int (ba ga bb gb : Nat) (kva vva kvb vvb : Value) (la lb : List Int) (w : World) (ha : IntSet w ba ga kva vva la) (hb : IntSet w bb gb kvb vvb lb) (hna : la.length < 1000000) (hnb : lb.length ≤ 1000000) :
    Calls Tryz.prog 19 #[.pointer (some ⟨ga, 0, none⟩), .pointer (some ⟨gb, 0, none⟩)] w fun e w' => IntPart la lb false w w' e := by
  have C := Lib.hid (part_int ba ga bb gb kva vva kvb vvb la lb false w ha hb hna hnb)
  clear ha hb hna hnb
  go_enter Tryz.func19, Tryz.ntmps19
  go_wp2_with fail
  refine C.out.mono ?_
  rintro e w1 ⟨g, kv, vv, rfl, hs, hbl⟩
  have H := Lib.hid (And.intro hs hbl)
  clear C hs hbl
  go_wp2_with fail
  go_ret
  exact ⟨g, kv, vv, rfl, H.out⟩
end Go.Proofs.YtckhekkdidfefaaGreat.Set
