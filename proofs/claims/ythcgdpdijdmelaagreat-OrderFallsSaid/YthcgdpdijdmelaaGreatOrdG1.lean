/- grown, walked: commits, each of earlier ones. Printed by gen_ordg1.py. (Layer 11.) -/
import Derived.Test.YthcgdpdijdmelaaGreatOrdGP
import Derived.Test.YthcgdpdijdmelaaGreatOrd12
import Derived.Test.YthcgdpdijdmelaaGreatOpenIntss
import Derived.Deep.CutBlock
import Derived.Deep.CutRange
import Derived.Deep.RegionHeld
namespace Go.Proofs.YthcgdpdijdmelaaGreat.Ord
set_option linter.unusedVariables false
set_option linter.unusedSimpArgs false
open Go.RowKit Go.Sort Go.Lib
open Go.Proofs.YthcgdpdijdmelaaGreat.Obj (IntsAt height)
/-- What grown leaves. -/
def GrownOut (w w' : World) (e : Ending) : Prop := ∃ (ao : Option Addr) (m cap : Nat) (f : Nat → Fv), e = .returned (.slice ao m cap) ∧ m ≤ cap ∧ FactsAt w' ao m f ∧ Grown m f ∧ Below w.heap.size w w'
/-- The commits so far. -/
structure GrSt (w wr : World) (v : Value) (o : List Fv) : Prop where
  sl : SlIs wr w.heap.size 28 3 v o.length (fcells o)
  pars : ∀ x, x ∈ o → SlIs wr w.heap.size 9 1 (.slice x.pa x.np x.pc) x.np (scells x.p x.np)
  grown : Grown o.length (fun i => o[i]!)
  below : Below w.heap.size w wr
theorem GrSt.start (w : World) : GrSt w (w.alloc (.cells #[] 28)) (.slice (some ⟨w.heap.size, 0, none⟩) 0 0) [] :=
  ⟨SlIs.made (BlkIs.new _ _ _) (Nat.le_refl _) rfl (by decide), fun x h => absurd h (by simp), Grown.zero _, (Below.refl _ _).alloc (Nat.le_refl _) _⟩
theorem GrSt.end_ {w wr : World} {v : Value} {o : List Fv} (h : GrSt w wr v o) : GrownOut w wr (.returned v) := by
  obtain ⟨ao, cap, rfl, h1, h2, h3⟩ := h.sl.form
  refine ⟨ao, o.length, cap, fun i => o[i]!, rfl, h1, ⟨by have := h.grown.few; omega, fun hn => ?_, fun i hi => ?_⟩, h.grown, h.below⟩
  · obtain ⟨b, off, cap', hv, h4, h5, h6, h7, h8, h9⟩ := h.sl.at_ hn
    injection hv with e1 e2 e3
    have hl := fcells_length o
    refine ⟨b, off, e1, h5, fun i hi => ?_⟩
    obtain ⟨e0, e1, e2⟩ := fcells_get o i hi
    dsimp only
    rw [getElem!_pos o i hi]
    refine ⟨?_, ?_, ?_⟩
    · rw [h8 (i * 3) (by omega), e0]
    · rw [Nat.add_assoc, h8 (i * 3 + 1) (by omega), e1]
    · rw [Nat.add_assoc, h8 (i * 3 + 2) (by omega), e2]
  · have hm : o[i]! ∈ o := by rw [getElem!_pos o i hi]; exact List.getElem_mem hi
    obtain ⟨ao', cap', hv, hs⟩ := StrsAt.own (h.pars _ hm)
    injection hv with e1 e2 e3
    rw [← e1] at hs
    exact hs
/-- A commit of the row as it lies. -/
theorem GrSt.row {w wr : World} {v : Value} {o : List Fv} (h : GrSt w wr v o) {m : Nat} (hm : m < o.length) :
    ∃ b off cap, v = .slice (some ⟨b, off, none⟩) o.length cap ∧ b < wr.heap.size ∧ ∀ w', Below wr.heap.size wr w' → w'.cell? ⟨b, off + m * 3, none⟩ = some (.string o[m]!.id) ∧ w'.cell? ⟨b, off + m * 3 + 1, none⟩ = some (.int .i64 o[m]!.h) ∧ w'.cell? ⟨b, off + m * 3 + 2, none⟩ = some (.slice o[m]!.pa o[m]!.np o[m]!.pc) := by
  obtain ⟨b, off, cap, hv, h1, h2, h3, h4, h5, h6⟩ := h.sl.at_ (by omega)
  refine ⟨b, off, cap, hv, h2, fun w' hb => ?_⟩
  have hl := fcells_length o
  obtain ⟨e0, e1, e2⟩ := fcells_get o m hm
  rw [hb.cell h2, hb.cell h2, hb.cell h2, getElem!_pos o m hm]
  refine ⟨?_, ?_, ?_⟩
  · rw [h5 (m * 3) (by omega), e0]
  · rw [Nat.add_assoc, h5 (m * 3 + 1) (by omega), e1]
  · rw [Nat.add_assoc, h5 (m * 3 + 2) (by omega), e2]
/-- The parents of one, under way. -/
structure GrIn (W wr : World) (g : Nat) (kv vv v : Value) (l : List ByteArray) (hs : List Int) : Prop where
  set : Set.StrSet wr W.heap.size g kv vv l
  high : SlIs wr W.heap.size 3 1 v hs.length (Set.icells hs)
  below : Below W.heap.size W wr
theorem GrIn.start {W w1 : World} {g : Nat} {kv vv : Value} {l : List ByteArray} (h : Set.StrSet w1 W.heap.size g kv vv l) (hb : Below W.heap.size W w1) : GrIn W (w1.alloc (.cells #[] 3)) g kv vv (.slice (some ⟨w1.heap.size, 0, none⟩) 0 0) l [] :=
  ⟨h.later ((Below.refl _ _).alloc (Nat.le_refl _) _), SlIs.made (BlkIs.new _ _ _) hb.size rfl (by decide), hb.alloc hb.size _⟩
theorem GrIn.apart {W wr : World} {g : Nat} {kv vv v : Value} {l : List ByteArray} {hs : List Int} (h : GrIn W wr g kv vv v l hs) : ∀ k, v.ownBlock = some k → ¬ Set.Own_ g kv vv k := by
  intro k hk ho
  rcases ho with rfl | ho | ho
  · exact h.high.ne_blk h.set.blk (by decide) hk
  · rcases sl_apart h.high h.set.keys (by decide) with h1 | h1
    · rw [hk] at h1; cases h1
    · exact h1 (hk.trans ho.symm)
  · rcases sl_apart h.high h.set.vals (by decide) with h1 | h1
    · rw [hk] at h1; cases h1
    · exact h1 (hk.trans ho.symm)
theorem GrIn.alloc {W wr : World} {g : Nat} {kv vv v : Value} {l : List ByteArray} {hs : List Int} (h : GrIn W wr g kv vv v l hs) (ob : Obj) : GrIn W (wr.alloc ob) g kv vv v l hs :=
  ⟨h.set.later ((Below.refl _ _).alloc (Nat.le_refl _) _), h.high.alloc _, h.below.alloc h.below.size _⟩
theorem GrIn.put {W wr w' : World} {g : Nat} {kv vv kv' vv' v : Value} {l l' : List ByteArray} {hs : List Int} (h : GrIn W wr g kv vv v l hs) (hs' : Set.StrSet w' W.heap.size g kv' vv' l') (hc : Chg (Set.Own_ g kv vv) wr w') : GrIn W w' g kv' vv' v l' hs :=
  ⟨hs', hc.sl h.high h.apart, h.below.trans (hc.below h.below.size fun k hk => (h.set.own hk).1)⟩
theorem GrIn.app {W wr w5 : World} {g : Nat} {kv vv v v1 : Value} {l : List ByteArray} {hs : List Int} {x : Int} (h : GrIn W wr g kv vv v l hs) (h1 : SlIs w5 W.heap.size 3 1 v1 (hs.length + 1) (Set.icells hs ++ [.int .i64 x])) (hg : wr.grownBy w5 v.ownBlock) : GrIn W w5 g kv vv v1 l (hs ++ [x]) where
  set := h.set.chg (Chg.of_grown hg (S := fun k => v.ownBlock = some k) fun k hk => hk) fun k ho hv => h.apart k hv ho
  high := by
    have e : Set.icells hs ++ [.int .i64 x] = Set.icells (hs ++ [x]) := by simp [Set.icells]
    rw [e] at h1
    simpa using h1
  below := h.below.grown hg h.below.size fun j hj => (h.high.lt j hj).1
theorem isOf_nil {l : List ByteArray} (h : Set.IsOf [] l) : l = [] := by
  cases l with
  | nil => rfl
  | cons x r => exact absurd ((h.2 x).1 (List.mem_cons_self)) (by simp)
theorem strat_nil (w : World) : Set.StrAt w (.slice none 0 0) [] := ⟨none, 0, rfl, by simp, by decide, fun h => absurd h (by simp)⟩
theorem idx_in (x : Int) {i : Nat} (h0 : 0 < i) (h : i ≤ 40) : ∃ j : Nat, j < i ∧ IntKind.i64.wrap ((IntKind.u64.wrap x).tmod (i : Int)) = (j : Int) := by
  have h1 : 0 ≤ IntKind.u64.wrap x := by
    show 0 ≤ x % _
    exact Int.emod_nonneg _ (by decide)
  rw [Int.tmod_eq_emod_of_nonneg h1]
  have h2 := Int.emod_nonneg (IntKind.u64.wrap x) (show (i : Int) ≠ 0 by omega)
  have h3 := Int.emod_lt_of_pos (IntKind.u64.wrap x) (show 0 < (i : Int) by omega)
  refine ⟨((IntKind.u64.wrap x) % (i : Int)).toNat, by omega, ?_⟩
  rw [IntWalk.i64_in _ (by omega)]
  omega
theorem u64_small {i : Nat} (h : i ≤ 1000) : IntKind.u64.wrap (i : Int) = (i : Int) := by
  show (i : Int) % _ = _
  exact Int.emod_eq_of_lt (by omega) (by show (i : Int) < 2 ^ 64; omega)
theorem set_scells (l : List ByteArray) : Set.scells l = scells (fun i => l[i]!) l.length := by
  apply List.ext_getElem (by simp [Set.scells, scells])
  intro i h1 h2
  have h3 : i < l.length := by simpa [Set.scells] using h1
  simp [Set.scells, scells, getElem!_pos, h3]
theorem height_any {W : World} {base : Nat} {e : TypeId} {v : Value} {hs : List Int} (h : SlIs W base e 1 v hs.length (Set.icells hs)) : Calls Tryz.prog 19 #[v] W fun e w' => e = .returned (.int .i64 (hgt hs)) ∧ W = w' := by
  have e0 : Set.icells hs = Obj.icells (fun i => hs[i]!) hs.length := by
    apply List.ext_getElem (by simp [Set.icells, Obj.icells])
    intro i h1 h2
    have h3 : i < hs.length := by simpa [Set.icells] using h1
    simp [Set.icells, Obj.icells, getElem!_pos, h3]
  rw [e0] at h
  obtain ⟨ao, cap, rfl, hi⟩ := IntsAt.own h
  exact height ao hs.length cap (fun i => hs[i]!) W hi
/-- One commit more. -/
theorem GrSt.app {w wo W w5 : World} {v v1 : Value} {o : List Fv} {x : Fv} {n : Nat} (h : GrSt w wo v o) (hn : o.length = n) (hb : Below wo.heap.size wo W) (hx : SlIs W wo.heap.size 9 1 (.slice x.pa x.np x.pc) x.np (scells x.p x.np))
    (hgr : Grown (o.length + 1) (fun i => (o ++ [x])[i]!)) (h1 : SlIs w5 w.heap.size 28 3 v1 (n + 1) (fcells o ++ encF x)) (hg : W.grownBy w5 v.ownBlock) : GrSt w w5 v1 (o ++ [x]) where
  sl := by
    rw [fcells_snoc] at h1
    simpa [hn] using h1
  pars y hy := by
    have hsl := h.sl.later hb
    rcases List.mem_append.1 hy with hy | hy
    · have h2 := (h.pars y hy).later hb
      exact h2.kept hg (sl_apart h2 hsl (by decide))
    · obtain rfl : y = x := by simpa using hy
      exact (hx.mono h.below.size).kept hg (sl_apart hx hsl (by decide))
  grown := by simpa using hgr
  below := (h.below.trans (hb.mono h.below.size)).grown hg (Nat.le_trans h.below.size hb.size) fun j hj => (h.sl.lt j hj).1
theorem gid_text (W : World) (B : Nat) {i s7 s1 : Nat} (h7 : s7 = 97 + i * 7 % 26) (h1 : s1 = 97 + i % 26) (hi : i < 40) (hb : BlkIs W B 5 #[.int .u8 (s7 : Int), .int .u8 (s1 : Int), .int .u8 (i : Int)]) :
    (convert 54 9 (.slice (some ⟨B, 0, none⟩) 3 3)).run Tryz.prog W = .ok (.string (gid i)) W := by
  have hsl : SlIs W 0 5 1 (.slice (some ⟨B, 0, none⟩) 3 3) 3 (bcells [UInt8.ofNat s7, UInt8.ofNat s1, UInt8.ofNat i]) := by
    have := SlIs.made (n := 3) (size := 1) hb (Nat.zero_le _) rfl (by decide)
    have e : bcells [UInt8.ofNat s7, UInt8.ofNat s1, UInt8.ofNat i] = [.int .u8 (s7 : Int), .int .u8 (s1 : Int), .int .u8 (i : Int)] := by
      simp only [bcells, List.map_cons, List.map_nil, UInt8.toNat_ofNat']
      rw [Nat.mod_eq_of_lt (by omega), Nat.mod_eq_of_lt (by omega), Nat.mod_eq_of_lt (by omega)]
    rw [e]
    exact this
  have := SlIs.text (P := Tryz.prog) (dst := 9) Tryz.underlying54 Tryz.underlying5 Tryz.underlying9 hsl
  rw [this, h7, h1]
  rfl
set_option maxRecDepth 100000 in
set_option maxHeartbeats 8000000 in
theorem grown_any (ao : Option Addr) (n cap : Nat) (f : Nat → Iv) (w : World) (h : IntssAt w ao n f) :
    Calls Tryz.prog 5 #[.slice ao n cap] w fun e w' => GrownOut w w' e := by
  have HF := Lib.hid h
  have hn63 := h.1
  clear h
  have H0 := Lib.hid (show ∃ W v, W = w.alloc (.cells #[] 28) ∧ v = Value.slice (some ⟨w.heap.size, 0, none⟩) 0 0 ∧ GrSt w W v [] from ⟨_, _, rfl, rfl, GrSt.start w⟩)
  go_enter Tryz.func5, Tryz.ntmps5
  go_wp2_with fail
  obtain ⟨W0, v0, hW0, hv0, hG0⟩ := H0.out
  rw [← hv0, ← hW0]
  have HG0 := Lib.hid hG0
  clear hG0 H0 hW0 hv0
  go_loopw [3, 4] (fun v c wr => ∃ (i : Nat) (o : List Fv), c = .int .i64 (i : Int) ∧ o.length = i ∧ Hid (GrSt w wr v o)) (fun _ c _ => ((40 : Int) - intOf c).toNat)
  case atStart => exact ⟨0, [], rfl, rfl, HG0⟩
  case round =>
    obtain ⟨i, o, rfl, hol, HG⟩ := hrel
    clear HG0
    have hi40 := HG.out.grown.few
    rw [hol] at hi40
    obtain ⟨wo, rfl⟩ : ∃ wo, wo = wr := ⟨_, rfl⟩
    rcases Nat.lt_or_ge i n with h1 | h1
    · rcases Nat.lt_or_ge i 40 with h2 | h2
      · have k1 : (i : Int) < n := by omega
        have k2 : (i : Int) < 40 := by omega
        have kw : IntKind.i64.wrap ((i : Int) + 1) = ((i + 1 : Nat) : Int) := IntWalk.i64_in _ (by omega)
        obtain ⟨b, off, hao, hlt, hcell⟩ := HF.out.2.1 (by omega)
        subst hao
        obtain ⟨⟨pa, np, pc, p⟩, hy⟩ : ∃ y, y = f i := ⟨_, rfl⟩
        have hci := hcell i h1
        have hin := HF.out.2.2 i h1
        rw [← hy] at hci hin
        dsimp only at hci hin
        have OF := Lib.hid (Set.of_string (.slice none 0 0) [] wo (strat_nil wo) (by decide))
        have HIN := Lib.hid (And.intro hci hin)
        have hnp63 := hin.1
        clear hcell hy hci hin
        go_wp2_with fail
        refine OF.out.mono ?_
        rintro e w1 ⟨g, kv, vv, l0, rfl, hl0, hset, hb1⟩
        obtain rfl := isOf_nil hl0
        clear OF hl0
        have I0 := Lib.hid (show ∃ W v, W = w1.alloc (.cells #[] 3) ∧ v = Value.slice (some ⟨w1.heap.size, 0, none⟩) 0 0 ∧ InPl 0 o [] [] ∧ GrIn wo W g kv vv v [] [] from ⟨_, _, rfl, rfl, InPl.zero o, GrIn.start hset hb1⟩)
        clear hset hb1
        go_upto_block 2 with (fail)
        obtain ⟨W1, v1, hW1, hv1, hI1⟩ := I0.out
        rw [← hv1, ← hW1]
        have HI0 := Lib.hid hI1
        clear I0 hW1 hv1 hI1
        go_cut [6, 7, 8] from 22 to 62 (fun y6 y7 y8 wx => Hid (∃ (k : Nat) (kv vv : Value) (l : List ByteArray) (hs : List Int), k ≤ 8 ∧ InPl k o l hs ∧ GrIn wo wx g kv vv y6 l hs))
        case first =>
          go_wp2_with fail
          go_loopw [6, 7] (fun v c wx => ∃ (k : Nat) (kv vv : Value) (l : List ByteArray) (hs : List Int), c = .int .i64 (k : Int) ∧ k ≤ 8 ∧ Hid (InPl k o l hs ∧ GrIn wo wx g kv vv v l hs)) (fun _ c _ => ((8 : Int) - intOf c).toNat)
          case atStart => exact ⟨0, kv, vv, [], [], rfl, by omega, HI0⟩
          case round =>
            obtain ⟨k, kv, vv, l, hs, rfl, hk8, HI⟩ := hrel
            clear HI0
            have hbx : Below w.heap.size w wr := HG.out.below.trans (HI.out.2.below.mono HG.out.below.size)
            have c0 : wr.cell? ⟨b, off + i, none⟩ = some (.slice pa np pc) := by rw [hbx.cell hlt]; exact HIN.out.1
            rcases Nat.lt_or_ge k np with m1 | m1
            · have j1 : (k : Int) < np := by omega
              rcases Nat.lt_or_ge k 8 with m2 | m2
              · have j2 : (k : Int) < 8 := by omega
                rcases Nat.eq_zero_or_pos i with m3 | m3
                · have j3 : decide ((i : Int) > 0) = false := decide_eq_false (by omega)
                  have j4 : decide ((0 : Int) < (i : Int)) = false := decide_eq_false (by omega)
                  have j5 : decide (0 < i) = false := decide_eq_false (by omega)
                  clear m3
                  go_wp2_with fail
                  go_meet
                  case rel => exact Lib.hid ⟨k, kv, vv, l, hs, hk8, HI.out⟩
                · have j3 : (0 : Int) < (i : Int) := by omega
                  have j4 : (i : Int) ≠ 0 := by omega
                  have kk : IntKind.i64.wrap ((k : Int) + 1) = ((k + 1 : Nat) : Int) := IntWalk.i64_in _ (by omega)
                  have ku : IntKind.u64.wrap (i : Int) = (i : Int) := u64_small (by omega)
                  obtain ⟨b2, off2, hpa, hlt2, hc2⟩ := HIN.out.2.2 (by omega)
                  subst hpa
                  obtain ⟨x0, hx0⟩ : ∃ x, x = p k := ⟨_, rfl⟩
                  have c1 : wr.cell? ⟨b2, off2 + k, none⟩ = some (.int .i64 x0) := by rw [hbx.cell hlt2, hx0]; exact hc2 k m1
                  obtain ⟨j, hj, hq⟩ := idx_in x0 m3 hi40
                  obtain ⟨bo, offo, co, hvo, hbo, hrow⟩ := HG.out.row (m := j) (by omega)
                  obtain ⟨x, hx⟩ : ∃ x, x = o[j]! := ⟨_, rfl⟩
                  have hr := hrow wr HI.out.2.below
                  rw [← hx] at hr
                  obtain ⟨c2, c3, c4⟩ := hr
                  have hid : x.id = gid j := by rw [hx]; exact HG.out.grown.id j (by omega)
                  have hjo : (j : Int) < i := by omega
                  have HX := Lib.hid (And.intro hx (And.intro hid (And.intro hj hol)))
                  rw [hol] at hvo
                  subst hvo
                  have HA := Lib.hid (HI.out.2.alloc (.cells #[.string x.id, .int .i64 x.h, .slice x.pa x.np x.pc] 28))
                  have hll := HI.out.1.len
                  have hsl : hs.length ≤ 8 := by have := HI.out.1.same; omega
                  have AD := Lib.hid (Set.add_string wo.heap.size g kv vv l x.id (wr.alloc (.cells #[.string x.id, .int .i64 x.h, .slice x.pa x.np x.pc] 28)) HA.out.set (by omega))
                  clear hx0 hc2 hrow hx hid
                  go_wp2_with fail
                  refine AD.out.mono ?_
                  rintro e w3 ⟨kv', vv', rfl, hset3, hchg, hown⟩
                  have hk3 : BlkIs w3 wr.heap.size 28 #[.string x.id, .int .i64 x.h, .slice x.pa x.np x.pc] := hchg.blk (BlkIs.new _ _ _) fun ho => by
                    have := (HI.out.2.set.own ho).2
                    omega
                  have e1 : w3.cell? ⟨wr.heap.size, 1, none⟩ = some (.int .i64 x.h) := hk3.cell 1
                  have G3 := Lib.hid (HA.out.put hset3 hchg)
                  clear hk3 hset3 hchg hown AD c0 c1 c2 c3 c4
                  by_cases hm : x.id ∈ l
                  · rw [Set.has_true hm]
                    have HM := Lib.hid hm
                    clear hm
                    go_wp2_with fail
                    refine ⟨⟨k + 1, kv', vv', _, hs, by simp, by omega, Lib.hid ⟨HI.out.1.skip HM.out, G3.out⟩⟩, ?_⟩
                    simp [intOf]
                    omega
                  · rw [Set.has_false hm]
                    have HM := Lib.hid hm
                    clear hm
                    have hbw3 := G3.out.below.size
                    obtain ⟨ao2, cap2, rfl, hnc2, hcm2, hao2⟩ := G3.out.high.form
                    go_wp2_with (at_builtin
                                 refine wpList_append_sl rfl _ _ _ 52 rfl Set.el_int (.slice ao2 hs.length cap2) hs.length (Set.icells hs) rfl (G3.out.high.alloc _) _ 1 [.int .i64 x.h] rfl (SrcIs.own Tryz.underlying52 (SlIs.made (base := 0) (BlkIs.new _ _ _) (Nat.zero_le _) rfl (by decide))) (by intro u hu; rcases List.mem_singleton.1 hu with rfl; rfl) (by unfold maxLen; omega) (by omega) (by simp only [World.size_alloc]; omega) ?_
                                 intro v1 w5 hs1 hg1 hat1
                                 have G5 := Lib.hid ((G3.out.alloc _).app hs1 hg1)
                                 clear hs1 hg1 hat1 hao2)
                    refine ⟨⟨k + 1, kv', vv', _, _, by simp, by omega, Lib.hid ⟨?_, G5.out⟩⟩, ?_⟩
                    · have h6 := HX.out
                      have h7 := HM.out
                      rw [h6.2.1] at h7 ⊢
                      rw [h6.1]
                      exact HI.out.1.add (by omega) (by omega) h7
                    · simp [intOf]
                      omega
              · have j2 : decide ((k : Int) < 8) = false := decide_eq_false (by omega)
                have j4 : ¬ ((k : Int) < 8) := by omega
                go_wp2_with fail
                go_meet
                case rel => exact Lib.hid ⟨k, kv, vv, l, hs, hk8, HI.out⟩
            · have j1 : decide ((k : Int) < np) = false := decide_eq_false (by omega)
              have j4 : ¬ ((k : Int) < np) := by omega
              go_wp2_with fail
              go_meet
              case rel => exact Lib.hid ⟨k, kv, vv, l, hs, hk8, HI.out⟩
        case rest =>
          obtain ⟨k, kv, vv, l, hs, hk8, hP, hG⟩ := hcut.out
          clear HI0 hcut
          have hll := hP.len
          have hsl : hs.length ≤ 8 := by have := hP.same; omega
          have HP := Lib.hid hP
          have HG2 := Lib.hid hG
          have hbw := hG.below.size
          have HT := Lib.hid (fun W (hb : Below wc.heap.size wc W) => height_any (hG.high.later hb))
          have HS := Lib.hid (fun W (hb : Below wc.heap.size wc W) => Set.list_string wo.heap.size g kv vv l W (hG.set.later hb) (by omega))
          obtain ⟨H, hH⟩ : ∃ H, H = hgt hs := ⟨_, rfl⟩
          rw [← hH] at HT
          have HH := Lib.hid hH
          obtain ⟨S, hS⟩ : ∃ S, S = gid i := ⟨_, rfl⟩
          have HSg := Lib.hid hS
          obtain ⟨s7, hs7⟩ : ∃ s, s = 97 + i * 7 % 26 := ⟨_, rfl⟩
          obtain ⟨s1, hs1⟩ : ∃ s, s = 97 + i % 26 := ⟨_, rfl⟩
          obtain ⟨r7, hr7⟩ : ∃ r, r = i * 7 % 26 := ⟨_, rfl⟩
          obtain ⟨r1, hr1⟩ : ∃ r, r = i % 26 := ⟨_, rfl⟩
          have TX := Lib.hid (fun W B hb => gid_text W B hs7 hs1 h2 hb)
          rw [← hS] at TX
          have x0 : IntKind.i64.wrap ((i : Int) * 7) = (i : Int) * 7 := IntWalk.i64_in _ (by omega)
          have x1 : ((i : Int) * 7).tmod 26 = (r7 : Int) := by rw [Int.tmod_eq_emod_of_nonneg (by omega), hr7]; omega
          have x2 : IntKind.i64.wrap (97 + (r7 : Int)) = (s7 : Int) := by rw [IntWalk.i64_in _ (by omega)]; omega
          have x3 : IntKind.u8.wrap (s7 : Int) = (s7 : Int) := by show (s7 : Int) % _ = _; exact Int.emod_eq_of_lt (by omega) (by show (s7 : Int) < 2 ^ 8; omega)
          have x4 : (i : Int).tmod 26 = (r1 : Int) := by rw [Int.tmod_eq_emod_of_nonneg (by omega), hr1]; omega
          have x5 : IntKind.i64.wrap (97 + (r1 : Int)) = (s1 : Int) := by rw [IntWalk.i64_in _ (by omega)]; omega
          have x6 : IntKind.u8.wrap (s1 : Int) = (s1 : Int) := by show (s1 : Int) % _ = _; exact Int.emod_eq_of_lt (by omega) (by show (s1 : Int) < 2 ^ 8; omega)
          have x7 : IntKind.u8.wrap (i : Int) = (i : Int) := by show (i : Int) % _ = _; exact Int.emod_eq_of_lt (by omega) (by show (i : Int) < 2 ^ 8; omega)
          have x8 : IntKind.i64.wrap (r7 : Int) = (r7 : Int) := IntWalk.i64_in _ (by omega)
          have x9 : IntKind.i64.wrap (r1 : Int) = (r1 : Int) := IntWalk.i64_in _ (by omega)
          clear hP hG hH hS hs7 hs1 hr7 hr1
          go_upto_region 13 with (fail)
          have hbd : Below wc.heap.size wc wc.drew := ⟨rfl, rfl, rfl, Nat.le_refl _, fun _ _ => rfl⟩
          refine wp_region_held_drew (S := fun _ => True) (by kernel_rfl) trivial (fun hHeld => ?_)
          obtain ⟨X0, hX0⟩ : ∃ X0, X0 = wc.drew := ⟨_, rfl⟩
          rw [← hX0] at hbd ⊢
          have BX0 := Lib.hid hbd
          clear hX0 hbd
          refine wpAnyH_take (i := 0) (v := u3) rfl (by kernel_rfl) (by kernel_rfl) (by kernel_rfl) (fun _ _ _ h => h) (Or.inl ⟨by kernel_rfl, fun w hSw => ?_⟩) trivial ?_
          · go_simp
          simp only [Act.put, List.setIfInBounds_toArray, List.set_cons_zero, List.set_cons_succ]
          refine wpAnyH_take (i := 1) (v := .int .i64 (i : Int)) rfl (by kernel_rfl) (by kernel_rfl) (by kernel_rfl) (fun _ _ _ h => h) (Or.inl ⟨by kernel_rfl, fun w hSw => ?_⟩) trivial ?_
          · go_simp
          simp only [Act.put, List.setIfInBounds_toArray, List.set_cons_zero, List.set_cons_succ]
          refine wpAnyH_take (i := 2) (v := .int .i64 ((i : Int) * 7)) rfl (by kernel_rfl) (by kernel_rfl) (by kernel_rfl) (fun _ _ _ h => h) (Or.inl ⟨by kernel_rfl, fun w hSw => ?_⟩) trivial ?_
          · go_simp
          simp only [Act.put, List.setIfInBounds_toArray, List.set_cons_zero, List.set_cons_succ]
          refine wpAnyH_take (i := 3) (v := .int .i64 (r7 : Int)) rfl (by kernel_rfl) (by kernel_rfl) (by kernel_rfl) (fun _ _ _ h => h) (Or.inl ⟨by kernel_rfl, fun w hSw => ?_⟩) trivial ?_
          · go_simp
          simp only [Act.put, List.setIfInBounds_toArray, List.set_cons_zero, List.set_cons_succ]
          refine wpAnyH_take (i := 4) (v := .int .i64 (s7 : Int)) rfl (by kernel_rfl) (by kernel_rfl) (by kernel_rfl) (fun _ _ _ h => h) (Or.inl ⟨by kernel_rfl, fun w hSw => ?_⟩) trivial ?_
          · go_simp
          simp only [Act.put, List.setIfInBounds_toArray, List.set_cons_zero, List.set_cons_succ]
          refine wpAnyH_take (i := 5) (v := .int .u8 (s7 : Int)) rfl (by kernel_rfl) (by kernel_rfl) (by kernel_rfl) (fun _ _ _ h => h) (Or.inl ⟨by kernel_rfl, fun w hSw => ?_⟩) trivial ?_
          · go_simp
          simp only [Act.put, List.setIfInBounds_toArray, List.set_cons_zero, List.set_cons_succ]
          refine wpAnyH_take (i := 6) (v := .int .i64 (i : Int)) rfl (by kernel_rfl) (by kernel_rfl) (by kernel_rfl) (fun _ _ _ h => h) (Or.inl ⟨by kernel_rfl, fun w hSw => ?_⟩) trivial ?_
          · go_simp
          simp only [Act.put, List.setIfInBounds_toArray, List.set_cons_zero, List.set_cons_succ]
          refine wpAnyH_take (i := 7) (v := .int .i64 (r1 : Int)) rfl (by kernel_rfl) (by kernel_rfl) (by kernel_rfl) (fun _ _ _ h => h) (Or.inl ⟨by kernel_rfl, fun w hSw => ?_⟩) trivial ?_
          · go_simp
          simp only [Act.put, List.setIfInBounds_toArray, List.set_cons_zero, List.set_cons_succ]
          refine wpAnyH_take (i := 8) (v := .int .i64 (s1 : Int)) rfl (by kernel_rfl) (by kernel_rfl) (by kernel_rfl) (fun _ _ _ h => h) (Or.inl ⟨by kernel_rfl, fun w hSw => ?_⟩) trivial ?_
          · go_simp
          simp only [Act.put, List.setIfInBounds_toArray, List.set_cons_zero, List.set_cons_succ]
          refine wpAnyH_take (i := 9) (v := .int .u8 (s1 : Int)) rfl (by kernel_rfl) (by kernel_rfl) (by kernel_rfl) (fun _ _ _ h => h) (Or.inl ⟨by kernel_rfl, fun w hSw => ?_⟩) trivial ?_
          · go_simp
          simp only [Act.put, List.setIfInBounds_toArray, List.set_cons_zero, List.set_cons_succ]
          refine wpAnyH_take (i := 10) (v := .int .i64 (i : Int)) rfl (by kernel_rfl) (by kernel_rfl) (by kernel_rfl) (fun _ _ _ h => h) (Or.inl ⟨by kernel_rfl, fun w hSw => ?_⟩) trivial ?_
          · go_simp
          simp only [Act.put, List.setIfInBounds_toArray, List.set_cons_zero, List.set_cons_succ]
          refine wpAnyH_take (i := 11) (v := .int .u8 (i : Int)) rfl (by kernel_rfl) (by kernel_rfl) (by kernel_rfl) (fun _ _ _ h => h) (Or.inl ⟨by kernel_rfl, fun w hSw => ?_⟩) trivial ?_
          · go_simp
          simp only [Act.put, List.setIfInBounds_toArray, List.set_cons_zero, List.set_cons_succ]
          refine wpAnyH_take (i := 14) (v := u6) rfl (by kernel_rfl) (by kernel_rfl) (by kernel_rfl) (fun _ _ _ h => h) (Or.inl ⟨by kernel_rfl, fun w hSw => ?_⟩) trivial ?_
          · go_simp
          simp only [Act.put, List.setIfInBounds_toArray, List.set_cons_zero, List.set_cons_succ]
          refine wpAnyH_take (i := 16) (v := .pointer (some ⟨g, 0, none⟩)) rfl (by kernel_rfl) (by kernel_rfl) (by kernel_rfl) (fun _ _ _ h => h) (Or.inl ⟨by kernel_rfl, fun w hSw => ?_⟩) trivial ?_
          · go_simp
          simp only [Act.put, List.setIfInBounds_toArray, List.set_cons_zero, List.set_cons_succ]
          clear x0 x1 x2 x3 x4 x5 x6 x7 x8 x9 hHeld
          refine wpAnyH_ready (rs := [12, 15]) (by kernel_rfl) (by simp) ?_
          refine (AllReadyH.cons rfl (fun K hK => ?_) (AllReadyH.cons rfl (fun K hK => ?_) AllReadyH.nil))
          · skip
            go_simp
            obtain ⟨B1, hB1⟩ : ∃ B, B = X0.heap.size := ⟨_, rfl⟩
            obtain ⟨X1, hX1⟩ : ∃ X, X = X0.alloc (.cells #[.int .u8 (s7 : Int), .int .u8 (s1 : Int), .int .u8 (i : Int)] 5) := ⟨_, rfl⟩
            have BX1 := Lib.hid (show Below wc.heap.size wc X1 from by rw [hX1]; exact BX0.out.alloc BX0.out.size _)
            have KX1 := Lib.hid (show BlkIs X1 B1 5 #[.int .u8 (s7 : Int), .int .u8 (s1 : Int), .int .u8 (i : Int)] from by rw [hX1, hB1]; exact BlkIs.new _ _ _)
            rw [← hB1, ← hX1]
            refine hK.out _ _ trivial (fun hHeld1 => ?_)
            clear hK K hB1 hX1 hHeld1
            refine wpAnyH_ready (rs := [13, 15]) (by kernel_rfl) (by simp) ?_
            refine (AllReadyH.cons rfl (fun K hK => ?_) (AllReadyH.cons rfl (fun K hK => ?_) AllReadyH.nil))
            · skip
              have hconv := TX.out X1 B1 KX1.out
              go_simp
              refine hK.out _ _ trivial (fun hHeld2 => ?_)
              clear hK K hHeld2 hconv
              refine wpAnyH_ready (rs := [15]) (by kernel_rfl) (by simp) ?_
              refine (AllReadyH.cons rfl (fun K hK => ?_) AllReadyH.nil)
              go_simp
              go_wp2_with (
                go_at_call 19
                refine (HT.out X1 BX1.out).mono ?_
                rintro e _ ⟨rfl, rfl⟩)
              refine hK.out _ _ trivial (fun hHeld3 => ?_)
              clear hK K hHeld3
              refine wpAnyH_ready (rs := [17]) (by kernel_rfl) (by simp) ?_
              refine (AllReadyH.cons rfl (fun K hK => ?_) AllReadyH.nil)
              go_simp
              go_wp2_with (
                go_at_call 20
                refine (HS.out X1 BX1.out).mono ?_
                rintro e X4 ⟨v4, rfl, hv4, hb4⟩
                obtain ⟨q4, p4, rfl, -, -, -⟩ := hv4.form
                have BX4 := Lib.hid (BX1.out.trans (hb4.mono BX1.out.size))
                have KX4 := Lib.hid (KX1.out.below hb4 KX1.out.lt)
                have LX4 := Lib.hid (hv4.mono (Nat.le_trans hbw BX1.out.size))
                clear hv4 hb4)
              refine hK.out _ _ trivial (fun hHeld4 => ?_)
              clear hK K hHeld4
              refine wpAnyH_take (i := 18) (v := .agg #[.string S, .int .i64 H, .slice q4 l.length p4]) rfl (by kernel_rfl) (by kernel_rfl) (by kernel_rfl) (fun _ _ _ h => h) (Or.inl ⟨by kernel_rfl, fun w hSw => ?_⟩) trivial ?_
              · go_simp
              simp only [Act.put, List.setIfInBounds_toArray, List.set_cons_zero, List.set_cons_succ]
              refine wpAnyH_ready (rs := [19]) (by kernel_rfl) (by simp) ?_
              refine AllReadyH.cons rfl (fun K hK => ?_) AllReadyH.nil
              go_simp
              obtain ⟨x, hx⟩ : ∃ x : Fv, x = ⟨S, H, q4, l.length, p4, fun i => l[i]!⟩ := ⟨_, rfl⟩
              obtain ⟨B5, hB5⟩ : ∃ B, B = X4.heap.size := ⟨_, rfl⟩
              obtain ⟨X5, hX5⟩ : ∃ X, X = X4.alloc (.cells #[.string S, .int .i64 H, .slice q4 l.length p4] 28) := ⟨_, rfl⟩
              have BX5 := Lib.hid (show Below wc.heap.size wc X5 from by rw [hX5]; exact BX4.out.alloc BX4.out.size _)
              have KX5 := Lib.hid (show BlkIs X5 B5 28 #[.string S, .int .i64 H, .slice q4 l.length p4] from by rw [hX5, hB5]; exact BlkIs.new _ _ _)
              have LX5 := Lib.hid (show SlIs X5 wo.heap.size 9 1 (.slice x.pa x.np x.pc) x.np (scells x.p x.np) from by rw [hX5, hx, ← set_scells]; exact LX4.out.alloc _)
              rw [← hB5, ← hX5]
              refine hK.out _ _ trivial (fun hHeld5 => ?_)
              have bw5 := (HG.out.below.trans ((HG2.out.below.trans (BX5.out.mono hbw)).mono HG.out.below.size)).size
              have SX5 := Lib.hid (show SlIs X5 w.heap.size 28 3 u3 i (fcells o) from by have := HG.out.sl.later (HG2.out.below.trans (BX5.out.mono hbw)); rwa [hol] at this)
              clear hK K hB5 hX5 hHeld5
              refine wpAnyH_ready (rs := [20]) (by kernel_rfl) (by simp) ?_
              refine AllReadyH.cons rfl (fun K hK => ?_) AllReadyH.nil
              refine step_append_sl rfl _ _ _ 24 rfl el_fact u3 i (fcells o) rfl SX5.out _ 1 (encF x) rfl (SrcIs.own Tryz.underlying24 (by rw [hx]; exact SlIs.made (base := 0) KX5.out (Nat.zero_le _) rfl (by decide))) (enc_one x) (by unfold maxLen; omega) (by omega) bw5 ?_
              intro v5 w5 hs5 hg5 hat5
              have G5 := Lib.hid (HG.out.app hol (HG2.out.below.trans (BX5.out.mono hbw)) LX5.out (HP.out.fact hk8 HG.out.grown (by omega) (x := x) (by rw [hx, hol]; exact HSg.out) (by rw [hx]) (fun i hi => by rw [hx]) (by rw [hx]; exact HH.out)) hs5 hg5)
              clear hs5 hat5
              refine hK.out _ _ trivial (fun hHeld5 => ?_)
              clear hK K hHeld5
              refine wpAnyH_ready (rs := [21]) (by kernel_rfl) (by simp) ?_
              refine AllReadyH.cons rfl (fun K hK => ?_) AllReadyH.nil
              go_simp
              refine hK.out _ _ trivial (fun hHeld5 => ?_)
              clear hK K hHeld5
              refine wpAnyH_done (by kernel_rfl) ?_ _
              go_wp2_with fail
              refine ⟨⟨i + 1, o ++ [x], by simp, by simp [hol], G5⟩, ?_⟩
              simp [intOf]
              omega
            · skip
              go_simp
              go_wp2_with (
                go_at_call 19
                refine (HT.out X1 BX1.out).mono ?_
                rintro e _ ⟨rfl, rfl⟩)
              refine hK.out _ _ trivial (fun hHeld6 => ?_)
              clear hK K hHeld6
              refine wpAnyH_ready (rs := [13, 17]) (by kernel_rfl) (by simp) ?_
              refine (AllReadyH.cons rfl (fun K hK => ?_) (AllReadyH.cons rfl (fun K hK => ?_) AllReadyH.nil))
              · skip
                have hconv := TX.out X1 B1 KX1.out
                go_simp
                refine hK.out _ _ trivial (fun hHeld7 => ?_)
                clear hK K hHeld7 hconv
                refine wpAnyH_ready (rs := [17]) (by kernel_rfl) (by simp) ?_
                refine (AllReadyH.cons rfl (fun K hK => ?_) AllReadyH.nil)
                go_simp
                go_wp2_with (
                  go_at_call 20
                  refine (HS.out X1 BX1.out).mono ?_
                  rintro e X8 ⟨v8, rfl, hv8, hb8⟩
                  obtain ⟨q8, p8, rfl, -, -, -⟩ := hv8.form
                  have BX8 := Lib.hid (BX1.out.trans (hb8.mono BX1.out.size))
                  have KX8 := Lib.hid (KX1.out.below hb8 KX1.out.lt)
                  have LX8 := Lib.hid (hv8.mono (Nat.le_trans hbw BX1.out.size))
                  clear hv8 hb8)
                refine hK.out _ _ trivial (fun hHeld8 => ?_)
                clear hK K hHeld8
                refine wpAnyH_take (i := 18) (v := .agg #[.string S, .int .i64 H, .slice q8 l.length p8]) rfl (by kernel_rfl) (by kernel_rfl) (by kernel_rfl) (fun _ _ _ h => h) (Or.inl ⟨by kernel_rfl, fun w hSw => ?_⟩) trivial ?_
                · go_simp
                simp only [Act.put, List.setIfInBounds_toArray, List.set_cons_zero, List.set_cons_succ]
                refine wpAnyH_ready (rs := [19]) (by kernel_rfl) (by simp) ?_
                refine AllReadyH.cons rfl (fun K hK => ?_) AllReadyH.nil
                go_simp
                obtain ⟨x, hx⟩ : ∃ x : Fv, x = ⟨S, H, q8, l.length, p8, fun i => l[i]!⟩ := ⟨_, rfl⟩
                obtain ⟨B9, hB9⟩ : ∃ B, B = X8.heap.size := ⟨_, rfl⟩
                obtain ⟨X9, hX9⟩ : ∃ X, X = X8.alloc (.cells #[.string S, .int .i64 H, .slice q8 l.length p8] 28) := ⟨_, rfl⟩
                have BX9 := Lib.hid (show Below wc.heap.size wc X9 from by rw [hX9]; exact BX8.out.alloc BX8.out.size _)
                have KX9 := Lib.hid (show BlkIs X9 B9 28 #[.string S, .int .i64 H, .slice q8 l.length p8] from by rw [hX9, hB9]; exact BlkIs.new _ _ _)
                have LX9 := Lib.hid (show SlIs X9 wo.heap.size 9 1 (.slice x.pa x.np x.pc) x.np (scells x.p x.np) from by rw [hX9, hx, ← set_scells]; exact LX8.out.alloc _)
                rw [← hB9, ← hX9]
                refine hK.out _ _ trivial (fun hHeld9 => ?_)
                have bw9 := (HG.out.below.trans ((HG2.out.below.trans (BX9.out.mono hbw)).mono HG.out.below.size)).size
                have SX9 := Lib.hid (show SlIs X9 w.heap.size 28 3 u3 i (fcells o) from by have := HG.out.sl.later (HG2.out.below.trans (BX9.out.mono hbw)); rwa [hol] at this)
                clear hK K hB9 hX9 hHeld9
                refine wpAnyH_ready (rs := [20]) (by kernel_rfl) (by simp) ?_
                refine AllReadyH.cons rfl (fun K hK => ?_) AllReadyH.nil
                refine step_append_sl rfl _ _ _ 24 rfl el_fact u3 i (fcells o) rfl SX9.out _ 1 (encF x) rfl (SrcIs.own Tryz.underlying24 (by rw [hx]; exact SlIs.made (base := 0) KX9.out (Nat.zero_le _) rfl (by decide))) (enc_one x) (by unfold maxLen; omega) (by omega) bw9 ?_
                intro v9 w9 hs9 hg9 hat9
                have G9 := Lib.hid (HG.out.app hol (HG2.out.below.trans (BX9.out.mono hbw)) LX9.out (HP.out.fact hk8 HG.out.grown (by omega) (x := x) (by rw [hx, hol]; exact HSg.out) (by rw [hx]) (fun i hi => by rw [hx]) (by rw [hx]; exact HH.out)) hs9 hg9)
                clear hs9 hat9
                refine hK.out _ _ trivial (fun hHeld9 => ?_)
                clear hK K hHeld9
                refine wpAnyH_ready (rs := [21]) (by kernel_rfl) (by simp) ?_
                refine AllReadyH.cons rfl (fun K hK => ?_) AllReadyH.nil
                go_simp
                refine hK.out _ _ trivial (fun hHeld9 => ?_)
                clear hK K hHeld9
                refine wpAnyH_done (by kernel_rfl) ?_ _
                go_wp2_with fail
                refine ⟨⟨i + 1, o ++ [x], by simp, by simp [hol], G9⟩, ?_⟩
                simp [intOf]
                omega
              · skip
                go_simp
                go_wp2_with (
                  go_at_call 20
                  refine (HS.out X1 BX1.out).mono ?_
                  rintro e X10 ⟨v10, rfl, hv10, hb10⟩
                  obtain ⟨q10, p10, rfl, -, -, -⟩ := hv10.form
                  have BX10 := Lib.hid (BX1.out.trans (hb10.mono BX1.out.size))
                  have KX10 := Lib.hid (KX1.out.below hb10 KX1.out.lt)
                  have LX10 := Lib.hid (hv10.mono (Nat.le_trans hbw BX1.out.size))
                  clear hv10 hb10)
                refine hK.out _ _ trivial (fun hHeld10 => ?_)
                clear hK K hHeld10
                refine wpAnyH_ready (rs := [13]) (by kernel_rfl) (by simp) ?_
                refine (AllReadyH.cons rfl (fun K hK => ?_) AllReadyH.nil)
                have hconv := TX.out X10 B1 KX10.out
                go_simp
                refine hK.out _ _ trivial (fun hHeld11 => ?_)
                clear hK K hHeld11 hconv
                refine wpAnyH_take (i := 18) (v := .agg #[.string S, .int .i64 H, .slice q10 l.length p10]) rfl (by kernel_rfl) (by kernel_rfl) (by kernel_rfl) (fun _ _ _ h => h) (Or.inl ⟨by kernel_rfl, fun w hSw => ?_⟩) trivial ?_
                · go_simp
                simp only [Act.put, List.setIfInBounds_toArray, List.set_cons_zero, List.set_cons_succ]
                refine wpAnyH_ready (rs := [19]) (by kernel_rfl) (by simp) ?_
                refine AllReadyH.cons rfl (fun K hK => ?_) AllReadyH.nil
                go_simp
                obtain ⟨x, hx⟩ : ∃ x : Fv, x = ⟨S, H, q10, l.length, p10, fun i => l[i]!⟩ := ⟨_, rfl⟩
                obtain ⟨B12, hB12⟩ : ∃ B, B = X10.heap.size := ⟨_, rfl⟩
                obtain ⟨X12, hX12⟩ : ∃ X, X = X10.alloc (.cells #[.string S, .int .i64 H, .slice q10 l.length p10] 28) := ⟨_, rfl⟩
                have BX12 := Lib.hid (show Below wc.heap.size wc X12 from by rw [hX12]; exact BX10.out.alloc BX10.out.size _)
                have KX12 := Lib.hid (show BlkIs X12 B12 28 #[.string S, .int .i64 H, .slice q10 l.length p10] from by rw [hX12, hB12]; exact BlkIs.new _ _ _)
                have LX12 := Lib.hid (show SlIs X12 wo.heap.size 9 1 (.slice x.pa x.np x.pc) x.np (scells x.p x.np) from by rw [hX12, hx, ← set_scells]; exact LX10.out.alloc _)
                rw [← hB12, ← hX12]
                refine hK.out _ _ trivial (fun hHeld12 => ?_)
                have bw12 := (HG.out.below.trans ((HG2.out.below.trans (BX12.out.mono hbw)).mono HG.out.below.size)).size
                have SX12 := Lib.hid (show SlIs X12 w.heap.size 28 3 u3 i (fcells o) from by have := HG.out.sl.later (HG2.out.below.trans (BX12.out.mono hbw)); rwa [hol] at this)
                clear hK K hB12 hX12 hHeld12
                refine wpAnyH_ready (rs := [20]) (by kernel_rfl) (by simp) ?_
                refine AllReadyH.cons rfl (fun K hK => ?_) AllReadyH.nil
                refine step_append_sl rfl _ _ _ 24 rfl el_fact u3 i (fcells o) rfl SX12.out _ 1 (encF x) rfl (SrcIs.own Tryz.underlying24 (by rw [hx]; exact SlIs.made (base := 0) KX12.out (Nat.zero_le _) rfl (by decide))) (enc_one x) (by unfold maxLen; omega) (by omega) bw12 ?_
                intro v12 w12 hs12 hg12 hat12
                have G12 := Lib.hid (HG.out.app hol (HG2.out.below.trans (BX12.out.mono hbw)) LX12.out (HP.out.fact hk8 HG.out.grown (by omega) (x := x) (by rw [hx, hol]; exact HSg.out) (by rw [hx]) (fun i hi => by rw [hx]) (by rw [hx]; exact HH.out)) hs12 hg12)
                clear hs12 hat12
                refine hK.out _ _ trivial (fun hHeld12 => ?_)
                clear hK K hHeld12
                refine wpAnyH_ready (rs := [21]) (by kernel_rfl) (by simp) ?_
                refine AllReadyH.cons rfl (fun K hK => ?_) AllReadyH.nil
                go_simp
                refine hK.out _ _ trivial (fun hHeld12 => ?_)
                clear hK K hHeld12
                refine wpAnyH_done (by kernel_rfl) ?_ _
                go_wp2_with fail
                refine ⟨⟨i + 1, o ++ [x], by simp, by simp [hol], G12⟩, ?_⟩
                simp [intOf]
                omega
          · skip
            go_simp
            go_wp2_with (
              go_at_call 19
              refine (HT.out X0 BX0.out).mono ?_
              rintro e _ ⟨rfl, rfl⟩)
            refine hK.out _ _ trivial (fun hHeld13 => ?_)
            clear hK K hHeld13
            refine wpAnyH_ready (rs := [12, 17]) (by kernel_rfl) (by simp) ?_
            refine (AllReadyH.cons rfl (fun K hK => ?_) (AllReadyH.cons rfl (fun K hK => ?_) AllReadyH.nil))
            · skip
              go_simp
              obtain ⟨B14, hB14⟩ : ∃ B, B = X0.heap.size := ⟨_, rfl⟩
              obtain ⟨X14, hX14⟩ : ∃ X, X = X0.alloc (.cells #[.int .u8 (s7 : Int), .int .u8 (s1 : Int), .int .u8 (i : Int)] 5) := ⟨_, rfl⟩
              have BX14 := Lib.hid (show Below wc.heap.size wc X14 from by rw [hX14]; exact BX0.out.alloc BX0.out.size _)
              have KX14 := Lib.hid (show BlkIs X14 B14 5 #[.int .u8 (s7 : Int), .int .u8 (s1 : Int), .int .u8 (i : Int)] from by rw [hX14, hB14]; exact BlkIs.new _ _ _)
              rw [← hB14, ← hX14]
              refine hK.out _ _ trivial (fun hHeld14 => ?_)
              clear hK K hB14 hX14 hHeld14
              refine wpAnyH_ready (rs := [13, 17]) (by kernel_rfl) (by simp) ?_
              refine (AllReadyH.cons rfl (fun K hK => ?_) (AllReadyH.cons rfl (fun K hK => ?_) AllReadyH.nil))
              · skip
                have hconv := TX.out X14 B14 KX14.out
                go_simp
                refine hK.out _ _ trivial (fun hHeld15 => ?_)
                clear hK K hHeld15 hconv
                refine wpAnyH_ready (rs := [17]) (by kernel_rfl) (by simp) ?_
                refine (AllReadyH.cons rfl (fun K hK => ?_) AllReadyH.nil)
                go_simp
                go_wp2_with (
                  go_at_call 20
                  refine (HS.out X14 BX14.out).mono ?_
                  rintro e X16 ⟨v16, rfl, hv16, hb16⟩
                  obtain ⟨q16, p16, rfl, -, -, -⟩ := hv16.form
                  have BX16 := Lib.hid (BX14.out.trans (hb16.mono BX14.out.size))
                  have KX16 := Lib.hid (KX14.out.below hb16 KX14.out.lt)
                  have LX16 := Lib.hid (hv16.mono (Nat.le_trans hbw BX14.out.size))
                  clear hv16 hb16)
                refine hK.out _ _ trivial (fun hHeld16 => ?_)
                clear hK K hHeld16
                refine wpAnyH_take (i := 18) (v := .agg #[.string S, .int .i64 H, .slice q16 l.length p16]) rfl (by kernel_rfl) (by kernel_rfl) (by kernel_rfl) (fun _ _ _ h => h) (Or.inl ⟨by kernel_rfl, fun w hSw => ?_⟩) trivial ?_
                · go_simp
                simp only [Act.put, List.setIfInBounds_toArray, List.set_cons_zero, List.set_cons_succ]
                refine wpAnyH_ready (rs := [19]) (by kernel_rfl) (by simp) ?_
                refine AllReadyH.cons rfl (fun K hK => ?_) AllReadyH.nil
                go_simp
                obtain ⟨x, hx⟩ : ∃ x : Fv, x = ⟨S, H, q16, l.length, p16, fun i => l[i]!⟩ := ⟨_, rfl⟩
                obtain ⟨B17, hB17⟩ : ∃ B, B = X16.heap.size := ⟨_, rfl⟩
                obtain ⟨X17, hX17⟩ : ∃ X, X = X16.alloc (.cells #[.string S, .int .i64 H, .slice q16 l.length p16] 28) := ⟨_, rfl⟩
                have BX17 := Lib.hid (show Below wc.heap.size wc X17 from by rw [hX17]; exact BX16.out.alloc BX16.out.size _)
                have KX17 := Lib.hid (show BlkIs X17 B17 28 #[.string S, .int .i64 H, .slice q16 l.length p16] from by rw [hX17, hB17]; exact BlkIs.new _ _ _)
                have LX17 := Lib.hid (show SlIs X17 wo.heap.size 9 1 (.slice x.pa x.np x.pc) x.np (scells x.p x.np) from by rw [hX17, hx, ← set_scells]; exact LX16.out.alloc _)
                rw [← hB17, ← hX17]
                refine hK.out _ _ trivial (fun hHeld17 => ?_)
                have bw17 := (HG.out.below.trans ((HG2.out.below.trans (BX17.out.mono hbw)).mono HG.out.below.size)).size
                have SX17 := Lib.hid (show SlIs X17 w.heap.size 28 3 u3 i (fcells o) from by have := HG.out.sl.later (HG2.out.below.trans (BX17.out.mono hbw)); rwa [hol] at this)
                clear hK K hB17 hX17 hHeld17
                refine wpAnyH_ready (rs := [20]) (by kernel_rfl) (by simp) ?_
                refine AllReadyH.cons rfl (fun K hK => ?_) AllReadyH.nil
                refine step_append_sl rfl _ _ _ 24 rfl el_fact u3 i (fcells o) rfl SX17.out _ 1 (encF x) rfl (SrcIs.own Tryz.underlying24 (by rw [hx]; exact SlIs.made (base := 0) KX17.out (Nat.zero_le _) rfl (by decide))) (enc_one x) (by unfold maxLen; omega) (by omega) bw17 ?_
                intro v17 w17 hs17 hg17 hat17
                have G17 := Lib.hid (HG.out.app hol (HG2.out.below.trans (BX17.out.mono hbw)) LX17.out (HP.out.fact hk8 HG.out.grown (by omega) (x := x) (by rw [hx, hol]; exact HSg.out) (by rw [hx]) (fun i hi => by rw [hx]) (by rw [hx]; exact HH.out)) hs17 hg17)
                clear hs17 hat17
                refine hK.out _ _ trivial (fun hHeld17 => ?_)
                clear hK K hHeld17
                refine wpAnyH_ready (rs := [21]) (by kernel_rfl) (by simp) ?_
                refine AllReadyH.cons rfl (fun K hK => ?_) AllReadyH.nil
                go_simp
                refine hK.out _ _ trivial (fun hHeld17 => ?_)
                clear hK K hHeld17
                refine wpAnyH_done (by kernel_rfl) ?_ _
                go_wp2_with fail
                refine ⟨⟨i + 1, o ++ [x], by simp, by simp [hol], G17⟩, ?_⟩
                simp [intOf]
                omega
              · skip
                go_simp
                go_wp2_with (
                  go_at_call 20
                  refine (HS.out X14 BX14.out).mono ?_
                  rintro e X18 ⟨v18, rfl, hv18, hb18⟩
                  obtain ⟨q18, p18, rfl, -, -, -⟩ := hv18.form
                  have BX18 := Lib.hid (BX14.out.trans (hb18.mono BX14.out.size))
                  have KX18 := Lib.hid (KX14.out.below hb18 KX14.out.lt)
                  have LX18 := Lib.hid (hv18.mono (Nat.le_trans hbw BX14.out.size))
                  clear hv18 hb18)
                refine hK.out _ _ trivial (fun hHeld18 => ?_)
                clear hK K hHeld18
                refine wpAnyH_ready (rs := [13]) (by kernel_rfl) (by simp) ?_
                refine (AllReadyH.cons rfl (fun K hK => ?_) AllReadyH.nil)
                have hconv := TX.out X18 B14 KX18.out
                go_simp
                refine hK.out _ _ trivial (fun hHeld19 => ?_)
                clear hK K hHeld19 hconv
                refine wpAnyH_take (i := 18) (v := .agg #[.string S, .int .i64 H, .slice q18 l.length p18]) rfl (by kernel_rfl) (by kernel_rfl) (by kernel_rfl) (fun _ _ _ h => h) (Or.inl ⟨by kernel_rfl, fun w hSw => ?_⟩) trivial ?_
                · go_simp
                simp only [Act.put, List.setIfInBounds_toArray, List.set_cons_zero, List.set_cons_succ]
                refine wpAnyH_ready (rs := [19]) (by kernel_rfl) (by simp) ?_
                refine AllReadyH.cons rfl (fun K hK => ?_) AllReadyH.nil
                go_simp
                obtain ⟨x, hx⟩ : ∃ x : Fv, x = ⟨S, H, q18, l.length, p18, fun i => l[i]!⟩ := ⟨_, rfl⟩
                obtain ⟨B20, hB20⟩ : ∃ B, B = X18.heap.size := ⟨_, rfl⟩
                obtain ⟨X20, hX20⟩ : ∃ X, X = X18.alloc (.cells #[.string S, .int .i64 H, .slice q18 l.length p18] 28) := ⟨_, rfl⟩
                have BX20 := Lib.hid (show Below wc.heap.size wc X20 from by rw [hX20]; exact BX18.out.alloc BX18.out.size _)
                have KX20 := Lib.hid (show BlkIs X20 B20 28 #[.string S, .int .i64 H, .slice q18 l.length p18] from by rw [hX20, hB20]; exact BlkIs.new _ _ _)
                have LX20 := Lib.hid (show SlIs X20 wo.heap.size 9 1 (.slice x.pa x.np x.pc) x.np (scells x.p x.np) from by rw [hX20, hx, ← set_scells]; exact LX18.out.alloc _)
                rw [← hB20, ← hX20]
                refine hK.out _ _ trivial (fun hHeld20 => ?_)
                have bw20 := (HG.out.below.trans ((HG2.out.below.trans (BX20.out.mono hbw)).mono HG.out.below.size)).size
                have SX20 := Lib.hid (show SlIs X20 w.heap.size 28 3 u3 i (fcells o) from by have := HG.out.sl.later (HG2.out.below.trans (BX20.out.mono hbw)); rwa [hol] at this)
                clear hK K hB20 hX20 hHeld20
                refine wpAnyH_ready (rs := [20]) (by kernel_rfl) (by simp) ?_
                refine AllReadyH.cons rfl (fun K hK => ?_) AllReadyH.nil
                refine step_append_sl rfl _ _ _ 24 rfl el_fact u3 i (fcells o) rfl SX20.out _ 1 (encF x) rfl (SrcIs.own Tryz.underlying24 (by rw [hx]; exact SlIs.made (base := 0) KX20.out (Nat.zero_le _) rfl (by decide))) (enc_one x) (by unfold maxLen; omega) (by omega) bw20 ?_
                intro v20 w20 hs20 hg20 hat20
                have G20 := Lib.hid (HG.out.app hol (HG2.out.below.trans (BX20.out.mono hbw)) LX20.out (HP.out.fact hk8 HG.out.grown (by omega) (x := x) (by rw [hx, hol]; exact HSg.out) (by rw [hx]) (fun i hi => by rw [hx]) (by rw [hx]; exact HH.out)) hs20 hg20)
                clear hs20 hat20
                refine hK.out _ _ trivial (fun hHeld20 => ?_)
                clear hK K hHeld20
                refine wpAnyH_ready (rs := [21]) (by kernel_rfl) (by simp) ?_
                refine AllReadyH.cons rfl (fun K hK => ?_) AllReadyH.nil
                go_simp
                refine hK.out _ _ trivial (fun hHeld20 => ?_)
                clear hK K hHeld20
                refine wpAnyH_done (by kernel_rfl) ?_ _
                go_wp2_with fail
                refine ⟨⟨i + 1, o ++ [x], by simp, by simp [hol], G20⟩, ?_⟩
                simp [intOf]
                omega
            · skip
              go_simp
              go_wp2_with (
                go_at_call 20
                refine (HS.out X0 BX0.out).mono ?_
                rintro e X21 ⟨v21, rfl, hv21, hb21⟩
                obtain ⟨q21, p21, rfl, -, -, -⟩ := hv21.form
                have BX21 := Lib.hid (BX0.out.trans (hb21.mono BX0.out.size))
                have LX21 := Lib.hid (hv21.mono (Nat.le_trans hbw BX0.out.size))
                clear hv21 hb21)
              refine hK.out _ _ trivial (fun hHeld21 => ?_)
              clear hK K hHeld21
              refine wpAnyH_ready (rs := [12]) (by kernel_rfl) (by simp) ?_
              refine (AllReadyH.cons rfl (fun K hK => ?_) AllReadyH.nil)
              go_simp
              obtain ⟨B22, hB22⟩ : ∃ B, B = X21.heap.size := ⟨_, rfl⟩
              obtain ⟨X22, hX22⟩ : ∃ X, X = X21.alloc (.cells #[.int .u8 (s7 : Int), .int .u8 (s1 : Int), .int .u8 (i : Int)] 5) := ⟨_, rfl⟩
              have BX22 := Lib.hid (show Below wc.heap.size wc X22 from by rw [hX22]; exact BX21.out.alloc BX21.out.size _)
              have KX22 := Lib.hid (show BlkIs X22 B22 5 #[.int .u8 (s7 : Int), .int .u8 (s1 : Int), .int .u8 (i : Int)] from by rw [hX22, hB22]; exact BlkIs.new _ _ _)
              have LX22 := Lib.hid (show SlIs X22 wo.heap.size 9 1 (.slice q21 l.length p21) l.length (Set.scells l) from by rw [hX22]; exact LX21.out.alloc _)
              rw [← hB22, ← hX22]
              refine hK.out _ _ trivial (fun hHeld22 => ?_)
              clear hK K hB22 hX22 hHeld22
              refine wpAnyH_ready (rs := [13]) (by kernel_rfl) (by simp) ?_
              refine (AllReadyH.cons rfl (fun K hK => ?_) AllReadyH.nil)
              have hconv := TX.out X22 B22 KX22.out
              go_simp
              refine hK.out _ _ trivial (fun hHeld23 => ?_)
              clear hK K hHeld23 hconv
              refine wpAnyH_take (i := 18) (v := .agg #[.string S, .int .i64 H, .slice q21 l.length p21]) rfl (by kernel_rfl) (by kernel_rfl) (by kernel_rfl) (fun _ _ _ h => h) (Or.inl ⟨by kernel_rfl, fun w hSw => ?_⟩) trivial ?_
              · go_simp
              simp only [Act.put, List.setIfInBounds_toArray, List.set_cons_zero, List.set_cons_succ]
              refine wpAnyH_ready (rs := [19]) (by kernel_rfl) (by simp) ?_
              refine AllReadyH.cons rfl (fun K hK => ?_) AllReadyH.nil
              go_simp
              obtain ⟨x, hx⟩ : ∃ x : Fv, x = ⟨S, H, q21, l.length, p21, fun i => l[i]!⟩ := ⟨_, rfl⟩
              obtain ⟨B24, hB24⟩ : ∃ B, B = X22.heap.size := ⟨_, rfl⟩
              obtain ⟨X24, hX24⟩ : ∃ X, X = X22.alloc (.cells #[.string S, .int .i64 H, .slice q21 l.length p21] 28) := ⟨_, rfl⟩
              have BX24 := Lib.hid (show Below wc.heap.size wc X24 from by rw [hX24]; exact BX22.out.alloc BX22.out.size _)
              have KX24 := Lib.hid (show BlkIs X24 B24 28 #[.string S, .int .i64 H, .slice q21 l.length p21] from by rw [hX24, hB24]; exact BlkIs.new _ _ _)
              have LX24 := Lib.hid (show SlIs X24 wo.heap.size 9 1 (.slice x.pa x.np x.pc) x.np (scells x.p x.np) from by rw [hX24, hx, ← set_scells]; exact LX22.out.alloc _)
              rw [← hB24, ← hX24]
              refine hK.out _ _ trivial (fun hHeld24 => ?_)
              have bw24 := (HG.out.below.trans ((HG2.out.below.trans (BX24.out.mono hbw)).mono HG.out.below.size)).size
              have SX24 := Lib.hid (show SlIs X24 w.heap.size 28 3 u3 i (fcells o) from by have := HG.out.sl.later (HG2.out.below.trans (BX24.out.mono hbw)); rwa [hol] at this)
              clear hK K hB24 hX24 hHeld24
              refine wpAnyH_ready (rs := [20]) (by kernel_rfl) (by simp) ?_
              refine AllReadyH.cons rfl (fun K hK => ?_) AllReadyH.nil
              refine step_append_sl rfl _ _ _ 24 rfl el_fact u3 i (fcells o) rfl SX24.out _ 1 (encF x) rfl (SrcIs.own Tryz.underlying24 (by rw [hx]; exact SlIs.made (base := 0) KX24.out (Nat.zero_le _) rfl (by decide))) (enc_one x) (by unfold maxLen; omega) (by omega) bw24 ?_
              intro v24 w24 hs24 hg24 hat24
              have G24 := Lib.hid (HG.out.app hol (HG2.out.below.trans (BX24.out.mono hbw)) LX24.out (HP.out.fact hk8 HG.out.grown (by omega) (x := x) (by rw [hx, hol]; exact HSg.out) (by rw [hx]) (fun i hi => by rw [hx]) (by rw [hx]; exact HH.out)) hs24 hg24)
              clear hs24 hat24
              refine hK.out _ _ trivial (fun hHeld24 => ?_)
              clear hK K hHeld24
              refine wpAnyH_ready (rs := [21]) (by kernel_rfl) (by simp) ?_
              refine AllReadyH.cons rfl (fun K hK => ?_) AllReadyH.nil
              go_simp
              refine hK.out _ _ trivial (fun hHeld24 => ?_)
              clear hK K hHeld24
              refine wpAnyH_done (by kernel_rfl) ?_ _
              go_wp2_with fail
              refine ⟨⟨i + 1, o ++ [x], by simp, by simp [hol], G24⟩, ?_⟩
              simp [intOf]
              omega
      · have k2 : decide ((i : Int) < 40) = false := decide_eq_false (by omega)
        have k1 : (i : Int) < n := by omega
        have k3 : ¬ ((i : Int) < 40) := by omega
        go_wp2_with fail
        go_ret
        exact HG.out.end_
    · have k1 : decide ((i : Int) < n) = false := decide_eq_false (by omega)
      have k3 : ¬ ((i : Int) < n) := by omega
      go_wp2_with fail
      go_ret
      exact HG.out.end_
end Go.Proofs.YthcgdpdijdmelaaGreat.Ord
