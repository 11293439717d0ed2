/- awake, walked. (Layer 13.) -/
import Derived.Test.YtbmknmjcoeinkaaGreatMgE
import Derived.Test.YtbmknmjcoeinkaaGreatMg21
import Derived.Test.YtbmknmjcoeinkaaGreatOctet1
import Derived.Test.YtbmknmjcoeinkaaGreatPath
import Derived.Laws.BytesString
import Derived.Laws.MakeOwn
namespace Go.Proofs.YtbmknmjcoeinkaaGreat.Mg
set_option linter.unusedVariables false
set_option linter.unusedSimpArgs false
open Go.RowKit Go.Lib
open Mk (Rf Tok Tb TbR Mks MkR aMk aTb vRf vTok vTb vInt goodB TombsAt)
open Set (El)
open Path (nameOk)
theorem blk_newAt {w : World} {g : Nat} (h : w.heap.size = g) (t : TypeId) (cs : Array Value) : BlkIs (w.alloc (.cells cs t)) g t cs := by subst h; exact BlkIs.new _ _ _
def zeros (n : Nat) : List UInt8 := List.replicate n 0
theorem mk_zeros (n : Nat) (hn : n = 12 ∨ n = 32) (w : World) : (Instr.makeSlice 47 (.int .i64 (n : Int)) (.int .i64 (n : Int))).run Tryz.prog w = .ok (.slice (some ⟨w.heap.size, 0, none⟩) n n) (w.alloc (.cells (bcells (zeros n)).toArray 5)) := by
  obtain ⟨i, hi, hz, hs, hb⟩ := info_parts (P := Tryz.prog) (e := 5) (z := .int .u8 0) (size := 1) (bytes := 1) (by kernel_rfl)
  have hr := run_makeSlice (P := Tryz.prog) (w := w) 47 5 i (.int .u8 0) Tryz.underlying47 hi hz .i64 .i64 (n : Int) (n : Int) (by omega) (Int.le_refl _) (by rw [hs]; rcases hn with rfl | rfl <;> decide) (by rw [hb]; rcases hn with rfl | rfl <;> decide) (by rcases hn with rfl | rfl <;> decide)
  rw [hr, hs]
  have hm : madeCells (Value.int .u8 0).cells ((n : Int).toNat * 1) = (bcells (zeros n)).toArray := by
    apply Array.ext
    · simp [madeCells, bcells, zeros]
    · intro j h1 h2
      simp [madeCells, bcells, zeros, Value.cells, Nat.mod_one]
  rw [hm, Int.toNat_natCast]
theorem conv_zeros (n : Nat) (hn : n = 12 ∨ n = 32) (w w' : World) (hb : Below (w.heap.size + 1) (w.alloc (.cells (bcells (zeros n)).toArray 5)) w') : (convert 47 9 (.slice (some ⟨w.heap.size, 0, none⟩) n n)).run Tryz.prog w' = .ok (.string ⟨(zeros n).toArray⟩) w' := by
  have hk : BlkIs w' w.heap.size 5 (bcells (zeros n)).toArray := BlkIs.below (BlkIs.new _ _ _) hb (Nat.lt_succ_self _)
  have hs : SlIs w' 0 5 1 (.slice (some ⟨w.heap.size, 0, none⟩) n n) n (bcells (zeros n)) := by
    have := SlIs.made (base := 0) (n := n) (size := 1) hk (Nat.zero_le _) (by simp [bcells, zeros]) (by rcases hn with rfl | rfl <;> decide)
    simpa using this
  exact SlIs.text Tryz.underlying47 Tryz.underlying5 Tryz.underlying9 hs
open Classical
def mainB : ByteArray := ⟨#[109, 97, 105, 110]⟩
/-- The marks that awake asks of. -/
def awR (id : ByteArray) (h : Int) (l : List Int) (b1 b2 b3 : Nat) : MkR := ⟨[⟨mainB, id, h⟩], [], [⟨⟨1, 1, id, [], l⟩, .slice none 0 0, .slice (some ⟨b2, 0, none⟩) 2 2⟩], .slice (some ⟨b1, 0, none⟩) 1 1, .slice none 0 0, .slice (some ⟨b3, 0, none⟩) 1 1⟩
theorem awR_reads {id : ByteArray} {h x y : Int} {b1 b2 b3 : Nat} {W : World} (k1 : BlkIs W b1 49 #[.string mainB, .string id, .int .i64 h]) (k2 : BlkIs W b2 3 #[.int .i64 x, .int .i64 y]) (k3 : BlkIs W b3 43 #[.int .i64 1, .int .i64 1, .string id, .slice none 0 0, .slice (some ⟨b2, 0, none⟩) 2 2]) : (awR id h [x, y] b1 b2 b3).Reads W := by
  refine ⟨RowAt.of_sl (base := 0) (e := 49) (fun _ => rfl) (SlIs.made k1 (Nat.zero_le _) rfl (by decide)), RowAt.nil_ _ _ _ _ _ (by decide), RowAt.of_sl (base := 0) (e := 43) (fun _ => rfl) (SlIs.made k3 (Nat.zero_le _) rfl (by decide)), fun z hz => ?_⟩
  rcases List.mem_singleton.1 hz with rfl
  exact ⟨RowAt.nil_ _ _ _ _ _ (by decide), RowAt.of_sl (base := 0) (e := 3) (fun _ => rfl) (SlIs.made k2 (Nat.zero_le _) rfl (by decide))⟩
theorem awR_small (id : ByteArray) (h x y : Int) (b1 b2 b3 : Nat) : (awR id h [x, y] b1 b2 b3).Small := ⟨by simp [awR], by simp [awR], by simp [awR], fun z hz => by rcases List.mem_singleton.1 hz with rfl; exact ⟨by simp, by simp⟩⟩
theorem main_ok : nameOk mainB = true := by kernel_rfl
theorem awR_good (id : ByteArray) (h x y : Int) (b1 b2 b3 : Nat) (hid : id.size = 32) (h0 : 0 ≤ h ∧ h ≤ 1073741824) (hx : 1 ≤ x ∧ x < y ∧ y ≤ 7) : goodB (awR id h [x, y] b1 b2 b3).mk_ = true := by
  simp [goodB, Mk.refsB, Mk.tombsB, Mk.tokensB, awR, MkR.mk_, Mk.riseB, Mk.tombB, Mk.thingB, Mk.thingOf, Mk.sameId, Mk.isNodeB, Mk.ltB, Mk.refB, main_ok, hid]
  all_goals omega
theorem join_single {α κ : Type} [El κ] {key : α → κ} {mt : α → α → Option α} {x y z : α} (hk : key x = key y) (hz : key z = key x) (hm : mt x y = some z) : JoinIs key mt [x] [y] [z] := by
  refine ⟨List.pairwise_singleton _ _, fun k => ?_⟩
  rw [gk_one, gk_one, gk_one, hz, ← hk]
  by_cases e : key x = k
  · rw [if_pos e, if_pos e, if_pos e]
    show (mt x y).map some = _
    rw [hm]; rfl
  · rw [if_neg e, if_neg e, if_neg e]; rfl
theorem awR_join (id : ByteArray) (hid : id.size = 32) (b1 b2 b3 c1 c2 c3 : Nat) : JOut (awR id 2 [1, 2] b1 b2 b3).mk_ (awR id 5 [2, 3] c1 c2 c3).mk_ ⟨[⟨mainB, id, 5⟩], [], [⟨1, 1, id, [], [1, 2, 3]⟩]⟩ 0 := by
  refine .inr (.inr (.inr ⟨⟨awR_good _ _ _ _ _ _ _ hid (by omega) (by omega), awR_good _ _ _ _ _ _ _ hid (by omega) (by omega)⟩, ⟨join_single rfl rfl ?_, join_nil List.Pairwise.nil, join_single rfl rfl ?_⟩, ?_, rfl⟩))
  · unfold mRf
    rw [if_pos]
    exact .inl (show (2 : Int) < 5 by decide)
  · unfold mTb
    rw [if_pos ⟨rfl, rfl⟩]
    congr 1
    show Tb.mk 1 1 id [] (sortU ([1, 2] ++ [2, 3])) = _
    rw [sortU_eq (m := [1, 2, 3]) (by simp [El.lt]) (by intro x; simp)]
  · unfold Big
    simp
theorem awR_ack (id : ByteArray) (hid : id.size = 32) (b1 b2 b3 : Nat) {m' : Mks} {c : Int} (h : AOut (awR id 2 [1, 2] b1 b2 b3).mk_ 7 m' c) : m' = ⟨[⟨mainB, id, 2⟩], [], [⟨1, 1, id, [], [1, 2, 7]⟩]⟩ ∧ c = 0 := by
  rcases h with ⟨h, -, -⟩ | ⟨-, h, hc⟩
  · exact absurd ⟨awR_good _ _ _ _ _ _ _ hid (by omega) (by omega), by decide, by decide⟩ h
  · refine ⟨?_, hc⟩
    rw [h]
    show Mks.mk _ _ [Tb.mk 1 1 id [] (sortU ([1, 2] ++ [7]))] = _
    rw [sortU_eq (m := [1, 2, 7]) (by simp [El.lt]) (by intro x; simp)]
    rfl
theorem awR_below (id : ByteArray) (b1 b2 b3 : Nat) : belowB (awR id 2 [1, 2] b1 b2 b3).mk_ ⟨[⟨mainB, id, 5⟩], [], [⟨1, 1, id, [], [1, 2, 3]⟩]⟩ = true := by
  rw [belowB_iff]
  refine ⟨fun x hx => ⟨_, List.mem_singleton.2 rfl, ?_⟩, fun x hx => absurd hx (by simp [awR, MkR.mk_]), fun x hx => ⟨_, List.mem_singleton.2 rfl, ?_⟩⟩
  · rcases List.mem_singleton.1 hx with rfl
    refine ⟨rfl, fun h => ?_⟩
    unfold Ab at h
    dsimp only at h
    rcases h with h | ⟨h, -⟩ <;> omega
  · rcases List.mem_singleton.1 hx with rfl
    refine ⟨rfl, rfl, rfl, fun n hn => ?_⟩
    simp at hn ⊢
    omega
theorem awR_not (id : ByteArray) (b1 b2 b3 : Nat) : belowB ⟨[⟨mainB, id, 5⟩], [], [⟨1, 1, id, [], [1, 2, 3]⟩]⟩ (awR id 2 [1, 2] b1 b2 b3).mk_ = false := by
  rw [Bool.eq_false_iff]
  intro h
  have h1 := (belowB_iff.1 h).1 ⟨mainB, id, 5⟩ (List.mem_singleton.2 rfl)
  obtain ⟨y, hy, -, hn⟩ := h1
  rcases List.mem_singleton.1 hy with rfl
  exact hn (.inl (show (2 : Int) < 5 by decide))
/-- What the joined, or the acked, looks like. -/
theorem aw_form {m : MkR} {w : World} {id : ByteArray} {h : Int} {x y z : Int} (hr : m.Reads w) (hm : m.mk_ = ⟨[⟨mainB, id, h⟩], [], [⟨1, 1, id, [], [x, y, z]⟩]⟩) :
    ∃ o1 f1 o2 f2 o3 f3, aMk m = .agg #[.slice o1 1 f1, .slice o2 0 f2, .slice o3 1 f3] ∧ (∃ ga oa, o1 = some ⟨ga, oa, none⟩ ∧ ga < w.heap.size ∧ w.cell? ⟨ga, oa + 2, none⟩ = some (.int .i64 h)) ∧
      (∃ gb ob rb qb, o3 = some ⟨gb, ob, none⟩ ∧ gb < w.heap.size ∧ w.cell? ⟨gb, ob + 4, none⟩ = some (.slice rb 3 qb)) := by
  obtain ⟨refs, toks, zs, rv, kv, bv⟩ := m
  obtain ⟨h1, h2, h3, h4⟩ := hr
  dsimp only at h1 h2 h3 h4
  unfold MkR.mk_ at hm
  injection hm with e1 e2 e3
  dsimp only at e1 e2 e3
  subst e1 e2
  obtain ⟨t, rfl, et⟩ := List.map_eq_singleton_iff.1 e3
  obtain ⟨o1, f1, rfl, -, -⟩ := h1.form
  obtain ⟨o2, f2, rfl, -, -⟩ := h2.form
  obtain ⟨o3, f3, rfl, -, -⟩ := h3.form
  have hz := h4 t (List.mem_singleton.2 rfl)
  obtain ⟨r4, q4, e4, -, -⟩ := hz.2.form
  rw [et] at e4
  refine ⟨o1, f1, o2, f2, o3, f3, rfl, ?_, ?_⟩
  · obtain ⟨g, off, ho, hlt, hc⟩ := h1.at_ (by simp)
    exact ⟨g, off, ho, hlt, by have := hc 0 (by simp) 2 _ rfl; simpa using this⟩
  · obtain ⟨g, off, ho, hlt, hc⟩ := h3.at_ (by simp)
    refine ⟨g, off, r4, q4, ho, hlt, ?_⟩
    have := hc 0 (by simp) 4 _ rfl
    rw [show ([t] : List TbR)[0].av = t.av from rfl, e4] at this
    simpa using this
theorem aw_small {m : MkR} {id : ByteArray} {h : Int} {x y z : Int} (hm : m.mk_ = ⟨[⟨mainB, id, h⟩], [], [⟨1, 1, id, [], [x, y, z]⟩]⟩) : m.Small := by
  obtain ⟨refs, toks, zs, rv, kv, bv⟩ := m
  unfold MkR.mk_ at hm
  injection hm with e1 e2 e3
  dsimp only at e1 e2 e3
  subst e1 e2
  obtain ⟨t, rfl, et⟩ := List.map_eq_singleton_iff.1 e3
  refine ⟨by simp, by simp, by simp, fun u hu => ?_⟩
  rcases List.mem_singleton.1 hu with rfl
  rw [et]
  exact ⟨by simp, by simp⟩
set_option maxRecDepth 100000 in
set_option maxHeartbeats 8000000 in
theorem awake_any (w : World) : Calls Tryz.prog 9 #[] w fun e w' => e = .returned (.bool true) ∧ Below w.heap.size w w' := by
  obtain ⟨Z, hZ⟩ : ∃ Z : Array Value, Z = (bcells (zeros 32)).toArray := ⟨_, rfl⟩
  obtain ⟨id, hid⟩ : ∃ id : ByteArray, id = ⟨(zeros 32).toArray⟩ := ⟨_, rfl⟩
  have M1 : (Instr.makeSlice 47 (.int .i64 32) (.int .i64 32)).run Tryz.prog w = .ok (.slice (some ⟨w.heap.size, 0, none⟩) 32 32) (w.alloc (.cells Z 5)) := by rw [hZ]; exact mk_zeros 32 (.inr rfl) w
  have C1 : (convert 47 9 (.slice (some ⟨w.heap.size, 0, none⟩) 32 32)).run Tryz.prog (w.alloc (.cells Z 5)) = .ok (.string id) (w.alloc (.cells Z 5)) := by rw [hZ, hid]; exact conv_zeros 32 (.inr rfl) w _ (Below.refl _ _)
  have HID := Lib.hid (show id.size = 32 by rw [hid]; rfl)
  clear hZ hid
  have hmain : (⟨#[109, 97, 105, 110]⟩ : ByteArray) = mainB := rfl
  obtain ⟨b, hb⟩ : ∃ b, b = w.heap.size := ⟨_, rfl⟩
  obtain ⟨W3, hW3⟩ : ∃ W3, W3 = (((((((((w.alloc (.cells Z 5)).alloc (.cells #[.string mainB, .string id, .int .i64 2] 49)).alloc (.cells #[.int .i64 1, .int .i64 2] 3)).alloc (.cells #[.int .i64 1, .int .i64 1, .string id, .slice none 0 0, .slice (some ⟨b + 1 + 1, 0, none⟩) 2 2] 43)).alloc (.cells #[.slice (some ⟨b + 1, 0, none⟩) 1 1, .slice none 0 0, .slice (some ⟨b + 1 + 1 + 1, 0, none⟩) 1 1] 26)).alloc (.cells #[.string mainB, .string id, .int .i64 5] 49)).alloc (.cells #[.int .i64 2, .int .i64 3] 3)).alloc (.cells #[.int .i64 1, .int .i64 1, .string id, .slice none 0 0, .slice (some ⟨b + 1 + 1 + 1 + 1 + 1 + 1, 0, none⟩) 2 2] 43)).alloc (.cells #[.slice (some ⟨b + 1 + 1 + 1 + 1 + 1, 0, none⟩) 1 1, .slice none 0 0, .slice (some ⟨b + 1 + 1 + 1 + 1 + 1 + 1 + 1, 0, none⟩) 1 1] 26)) := ⟨_, rfl⟩
  have K := Lib.hid (show BlkIs W3 (b + 1) 49 #[.string mainB, .string id, .int .i64 2] ∧ BlkIs W3 (b + 1 + 1) 3 #[.int .i64 1, .int .i64 2] ∧ BlkIs W3 (b + 1 + 1 + 1) 43 #[.int .i64 1, .int .i64 1, .string id, .slice none 0 0, .slice (some ⟨b + 1 + 1, 0, none⟩) 2 2] ∧ BlkIs W3 (b + 1 + 1 + 1 + 1) 26 #[.slice (some ⟨b + 1, 0, none⟩) 1 1, .slice none 0 0, .slice (some ⟨b + 1 + 1 + 1, 0, none⟩) 1 1] ∧ BlkIs W3 (b + 1 + 1 + 1 + 1 + 1) 49 #[.string mainB, .string id, .int .i64 5] ∧ BlkIs W3 (b + 1 + 1 + 1 + 1 + 1 + 1) 3 #[.int .i64 2, .int .i64 3] ∧ BlkIs W3 (b + 1 + 1 + 1 + 1 + 1 + 1 + 1) 43 #[.int .i64 1, .int .i64 1, .string id, .slice none 0 0, .slice (some ⟨b + 1 + 1 + 1 + 1 + 1 + 1, 0, none⟩) 2 2] ∧ BlkIs W3 (b + 1 + 1 + 1 + 1 + 1 + 1 + 1 + 1) 26 #[.slice (some ⟨b + 1 + 1 + 1 + 1 + 1, 0, none⟩) 1 1, .slice none 0 0, .slice (some ⟨b + 1 + 1 + 1 + 1 + 1 + 1 + 1, 0, none⟩) 1 1] from by
    rw [hW3, hb]
    exact ⟨BlkIs.alloc (BlkIs.alloc (BlkIs.alloc (BlkIs.alloc (BlkIs.alloc (BlkIs.alloc (BlkIs.alloc (blk_newAt (by simp) _ _) _) _) _) _) _) _) _, BlkIs.alloc (BlkIs.alloc (BlkIs.alloc (BlkIs.alloc (BlkIs.alloc (BlkIs.alloc (blk_newAt (by simp) _ _) _) _) _) _) _) _, BlkIs.alloc (BlkIs.alloc (BlkIs.alloc (BlkIs.alloc (BlkIs.alloc (blk_newAt (by simp) _ _) _) _) _) _) _, BlkIs.alloc (BlkIs.alloc (BlkIs.alloc (BlkIs.alloc (blk_newAt (by simp) _ _) _) _) _) _, BlkIs.alloc (BlkIs.alloc (BlkIs.alloc (blk_newAt (by simp) _ _) _) _) _, BlkIs.alloc (BlkIs.alloc (blk_newAt (by simp) _ _) _) _, BlkIs.alloc (blk_newAt (by simp) _ _) _, blk_newAt (by simp) _ _⟩)
  have HB3 := Lib.hid (show Below w.heap.size w W3 from by
    rw [hW3]
    exact (((((((((Below.refl _ _).alloc (Nat.le_refl _) _).alloc (by simp; try omega) _).alloc (by simp; try omega) _).alloc (by simp; try omega) _).alloc (by simp; try omega) _).alloc (by simp; try omega) _).alloc (by simp; try omega) _).alloc (by simp; try omega) _).alloc (by simp; try omega) _)
  have HW3 := Lib.hid hW3
  have HB := Lib.hid hb
  clear hW3 hb
  obtain ⟨kA1, kA2, kA3, kA4, kB1, kB2, kB3, kB4⟩ := K.out
  have RA := Lib.hid (awR_reads (h := 2) (x := 1) (y := 2) kA1 kA2 kA3)
  have RB := Lib.hid (awR_reads (h := 5) (x := 2) (y := 3) kB1 kB2 kB3)
  obtain ⟨ma, hma⟩ : ∃ m, m = awR id 2 [1, 2] (b + 1) (b + 1 + 1) (b + 1 + 1 + 1) := ⟨_, rfl⟩
  obtain ⟨mb, hmb⟩ : ∃ m, m = awR id 5 [2, 3] (b + 1 + 1 + 1 + 1 + 1) (b + 1 + 1 + 1 + 1 + 1 + 1) (b + 1 + 1 + 1 + 1 + 1 + 1 + 1) := ⟨_, rfl⟩
  have ea : aMk ma = .agg #[.slice (some ⟨b + 1, 0, none⟩) 1 1, .slice none 0 0, .slice (some ⟨b + 1 + 1 + 1, 0, none⟩) 1 1] := by rw [hma]; rfl
  have eb : aMk mb = .agg #[.slice (some ⟨b + 1 + 1 + 1 + 1 + 1, 0, none⟩) 1 1, .slice none 0 0, .slice (some ⟨b + 1 + 1 + 1 + 1 + 1 + 1 + 1, 0, none⟩) 1 1] := by rw [hmb]; rfl
  rw [← hma] at RA
  rw [← hmb] at RB
  have sa : ma.Small := by rw [hma]; exact awR_small _ _ _ _ _ _ _
  have sb : mb.Small := by rw [hmb]; exact awR_small _ _ _ _ _ _ _
  have J := join_any ma mb W3 RA.out RB.out sa sb
  rw [ea, eb] at J
  have J := Lib.hid J
  have HA := Lib.hid (And.intro hma sa)
  have HBm := Lib.hid (And.intro hmb sb)
  have EA := Lib.hid ea
  have d0 : W3.cell? ⟨b + 1 + 1 + 1 + 1, 0, none⟩ = some (.slice (some ⟨b + 1, 0, none⟩) 1 1) := kA4.cell 0
  have d1 : W3.cell? ⟨b + 1 + 1 + 1 + 1, 1, none⟩ = some (.slice none 0 0) := kA4.cell 1
  have d2 : W3.cell? ⟨b + 1 + 1 + 1 + 1, 2, none⟩ = some (.slice (some ⟨b + 1 + 1 + 1, 0, none⟩) 1 1) := kA4.cell 2
  have g0 : W3.cell? ⟨b + 1 + 1 + 1 + 1 + 1 + 1 + 1 + 1, 0, none⟩ = some (.slice (some ⟨b + 1 + 1 + 1 + 1 + 1, 0, none⟩) 1 1) := kB4.cell 0
  have g1 : W3.cell? ⟨b + 1 + 1 + 1 + 1 + 1 + 1 + 1 + 1, 1, none⟩ = some (.slice none 0 0) := kB4.cell 1
  have g2 : W3.cell? ⟨b + 1 + 1 + 1 + 1 + 1 + 1 + 1 + 1, 2, none⟩ = some (.slice (some ⟨b + 1 + 1 + 1 + 1 + 1 + 1 + 1, 0, none⟩) 1 1) := kB4.cell 2
  clear kA1 kA2 kA3 kA4 kB1 kB2 kB3 kB4 hma hmb sa sb ea eb
  go_enter Tryz.func9, Tryz.ntmps9
  go_upto_region 4 with (fail)
  rw [← HB.out]
  rw [← HW3.out]
  go_wp2_with fail
  refine J.out.mono ?_
  rintro e w4 ⟨m, c, rfl, hr, hb4, hj⟩
  obtain ⟨em, rfl⟩ := jout_unique hj (by rw [HA.out.1, HBm.out.1]; exact awR_join id HID.out _ _ _ _ _ _)
  have FM := Lib.hid (aw_form hr em)
  have HEM := Lib.hid em
  have HR4 := Lib.hid hr
  have HB4 := Lib.hid hb4
  clear J hr hb4 hj em d0 d1 d2 g0 g1 g2
  obtain ⟨o1, f1, o2, f2, o3, f3, eM, x1, x2⟩ := FM.out
  rw [eM]
  have HM := Lib.hid eM
  have X12 := Lib.hid (And.intro x1 x2)
  clear eM x1 x2
  obtain ⟨W5, hW5⟩ : ∃ W5, W5 = w4.alloc (.cells #[.slice o1 1 f1, .slice o2 0 f2, .slice o3 1 f3] 26) := ⟨_, rfl⟩
  obtain ⟨M, hM⟩ : ∃ M, M = w4.heap.size := ⟨_, rfl⟩
  have K5 := Lib.hid (show BlkIs W5 M 26 #[.slice o1 1 f1, .slice o2 0 f2, .slice o3 1 f3] ∧ Below w4.heap.size w4 W5 ∧ Below W3.heap.size W3 W5 from by
    have h0 : Below w4.heap.size w4 W5 := by rw [hW5]; exact (Below.refl _ _).alloc (Nat.le_refl _) _
    exact ⟨by rw [hW5, hM]; exact BlkIs.new _ _ _, h0, HB4.out.trans (h0.mono HB4.out.size)⟩)
  have HW5 := Lib.hid (And.intro hW5 hM)
  clear hW5 hM
  have kA := K.out.2.2.2.1.below K5.out.2.2 K.out.2.2.2.1.lt
  have d0 : W5.cell? ⟨b + 1 + 1 + 1 + 1, 0, none⟩ = some (.slice (some ⟨b + 1, 0, none⟩) 1 1) := kA.cell 0
  have d1 : W5.cell? ⟨b + 1 + 1 + 1 + 1, 1, none⟩ = some (.slice none 0 0) := kA.cell 1
  have d2 : W5.cell? ⟨b + 1 + 1 + 1 + 1, 2, none⟩ = some (.slice (some ⟨b + 1 + 1 + 1, 0, none⟩) 1 1) := kA.cell 2
  clear kA
  have A5 := ack_any ma 7 W5 (RA.out.later K5.out.2.2) HA.out.2
  rw [EA.out] at A5
  have A5 := Lib.hid A5
  go_upto_region 5 with (fail)
  rw [← HW5.out.1, ← HW5.out.2]
  go_wp2_with fail
  refine A5.out.mono ?_
  rintro e w6 ⟨n, c, rfl, hr, hb6, hj⟩
  rw [HA.out.1] at hj
  obtain ⟨en, rfl⟩ := awR_ack id HID.out _ _ _ hj
  have FN := Lib.hid (aw_form hr en)
  have HB6 := Lib.hid hb6
  have HR6 := Lib.hid hr
  clear A5 hr hb6 hj en d0 d1 d2
  obtain ⟨p1, g1, p2, g2, p3, g3, eN, y1, y2⟩ := FN.out
  rw [eN]
  have Y12 := Lib.hid (And.intro y1 y2)
  clear eN y1 y2
  obtain ⟨W7, hW7⟩ : ∃ W7, W7 = w6.alloc (.cells #[.slice p1 1 g1, .slice p2 0 g2, .slice p3 1 g3] 26) := ⟨_, rfl⟩
  obtain ⟨N, hN⟩ : ∃ N, N = w6.heap.size := ⟨_, rfl⟩
  have K7 := Lib.hid (show BlkIs W7 N 26 #[.slice p1 1 g1, .slice p2 0 g2, .slice p3 1 g3] ∧ Below w6.heap.size w6 W7 ∧ Below W5.heap.size W5 W7 from by
    have h0 : Below w6.heap.size w6 W7 := by rw [hW7]; exact (Below.refl _ _).alloc (Nat.le_refl _) _
    exact ⟨by rw [hW7, hN]; exact BlkIs.new _ _ _, h0, HB6.out.trans (h0.mono HB6.out.size)⟩)
  have HW7 := Lib.hid (And.intro hW7 hN)
  clear hW7 hN
  have HB47 := Lib.hid (K5.out.2.1.trans (K7.out.2.2.mono K5.out.2.1.size))
  have HB37 := Lib.hid (K5.out.2.2.trans (K7.out.2.2.mono K5.out.2.2.size))
  have kA := K.out.2.2.2.1.below HB37.out K.out.2.2.2.1.lt
  have kM := K5.out.1.below K7.out.2.2 K5.out.1.lt
  have d0 : W7.cell? ⟨b + 1 + 1 + 1 + 1, 0, none⟩ = some (.slice (some ⟨b + 1, 0, none⟩) 1 1) := kA.cell 0
  have d1 : W7.cell? ⟨b + 1 + 1 + 1 + 1, 1, none⟩ = some (.slice none 0 0) := kA.cell 1
  have d2 : W7.cell? ⟨b + 1 + 1 + 1 + 1, 2, none⟩ = some (.slice (some ⟨b + 1 + 1 + 1, 0, none⟩) 1 1) := kA.cell 2
  have m0 : W7.cell? ⟨M, 0, none⟩ = some (.slice o1 1 f1) := kM.cell 0
  have m1 : W7.cell? ⟨M, 1, none⟩ = some (.slice o2 0 f2) := kM.cell 1
  have m2 : W7.cell? ⟨M, 2, none⟩ = some (.slice o3 1 f3) := kM.cell 2
  have n2 : W7.cell? ⟨N, 2, none⟩ = some (.slice p3 1 g3) := K7.out.1.cell 2
  obtain ⟨ga, oa, rfl, ha1, ha2⟩ := X12.out.1
  obtain ⟨gb, ob, rb, qb, rfl, hb1, hb2⟩ := X12.out.2
  obtain ⟨gc, oc, rc, qc, rfl, hc1, hc2⟩ := Y12.out.2
  have u0 : W7.cell? ⟨ga, oa + 2, none⟩ = some (.int .i64 5) := (HB47.out.cell (p := ⟨ga, oa + 2, none⟩) ha1).trans ha2
  have u1 : W7.cell? ⟨gb, ob + 4, none⟩ = some (.slice rb 3 qb) := (HB47.out.cell (p := ⟨gb, ob + 4, none⟩) hb1).trans hb2
  have u2 : W7.cell? ⟨gc, oc + 4, none⟩ = some (.slice rc 3 qc) := (K7.out.2.1.cell (p := ⟨gc, oc + 4, none⟩) hc1).trans hc2
  have L1 := below_any ma m W7 (RA.out.later HB37.out) (HR4.out.later HB47.out) HA.out.2 (aw_small HEM.out)
  have L2 := fun W (hW : Below W7.heap.size W7 W) => below_any m ma W ((HR4.out.later HB47.out).later hW) ((RA.out.later HB37.out).later hW) (aw_small HEM.out) HA.out.2
  rw [EA.out, HM.out, HEM.out, show belowB ma.mk_ ⟨[⟨mainB, id, 5⟩], [], [⟨1, 1, id, [], [1, 2, 3]⟩]⟩ = true from by rw [HA.out.1]; exact awR_below _ _ _ _] at L1
  rw [EA.out, HM.out, HEM.out, show belowB ⟨[⟨mainB, id, 5⟩], [], [⟨1, 1, id, [], [1, 2, 3]⟩]⟩ ma.mk_ = false from by rw [HA.out.1]; exact awR_not _ _ _ _] at L2
  have L1 := Lib.hid L1
  have L2 := Lib.hid L2
  have KA := Lib.hid (And.intro kA kM)
  clear kA kM ha1 ha2 hb1 hb2 hc1 hc2
  go_upto_region 6 with (fail)
  rw [← HW7.out.1, ← HW7.out.2]
  go_wp2_with fail
  refine L1.out.mono ?_
  rintro e w8 ⟨rfl, hb8⟩
  have H8 := Lib.hid hb8
  clear d0 d1 d2 m0 m1 m2 n2 u0 u1 u2 hb8 L1
  have kA := KA.out.1.below H8.out KA.out.1.lt
  have kM := KA.out.2.below H8.out KA.out.2.lt
  have d0 : w8.cell? ⟨b + 1 + 1 + 1 + 1, 0, none⟩ = some (.slice (some ⟨b + 1, 0, none⟩) 1 1) := kA.cell 0
  have d1 : w8.cell? ⟨b + 1 + 1 + 1 + 1, 1, none⟩ = some (.slice none 0 0) := kA.cell 1
  have d2 : w8.cell? ⟨b + 1 + 1 + 1 + 1, 2, none⟩ = some (.slice (some ⟨b + 1 + 1 + 1, 0, none⟩) 1 1) := kA.cell 2
  have m0 : w8.cell? ⟨M, 0, none⟩ = some (.slice (some ⟨ga, oa, none⟩) 1 f1) := kM.cell 0
  have m1 : w8.cell? ⟨M, 1, none⟩ = some (.slice o2 0 f2) := kM.cell 1
  have m2 : w8.cell? ⟨M, 2, none⟩ = some (.slice (some ⟨gb, ob, none⟩) 1 f3) := kM.cell 2
  clear kA kM
  go_wp2_with fail
  refine (L2.out _ H8.out).mono ?_
  rintro e w9 ⟨rfl, hb9⟩
  have H9 := Lib.hid (H8.out.trans (hb9.mono H8.out.size))
  clear d0 d1 d2 m0 m1 m2 hb9 L2
  go_wp2_with fail
  go_ret
  exact ⟨rfl, HB3.out.trans ((HB37.out.trans (H9.out.mono HB37.out.size)).mono HB3.out.size)⟩
end Go.Proofs.YtbmknmjcoeinkaaGreat.Mg
