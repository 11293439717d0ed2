/- octet.Num and octet.Text, walked: four bytes, the least first; a text with its length ahead. -/
import Derived.Test.YtngflbakmlddeaaGreatChecked
import Derived.Test.YtngflbakmlddeaaGreatSlice
import Derived.Test.YtngflbakmlddeaaGreatRegion
import Derived.BigQuiet
namespace Go.Proofs.YtngflbakmlddeaaGreat.Oct
open Go.RowKit
/-- Four bytes, the least first. -/
def le32 (n : Nat) : List UInt8 := [UInt8.ofNat n, UInt8.ofNat (n / 2 ^ 8), UInt8.ofNat (n / 2 ^ 16), UInt8.ofNat (n / 2 ^ 24)]
theorem le32_length (n : Nat) : (le32 n).length = 4 := rfl
def lecell (n : Nat) (k j : Nat) : Value := .int .u8 (if j < k then (n : Int) / 2 ^ (8 * j) % 256 else 0)
theorem lecells (n : Nat) : [lecell n 4 0, lecell n 4 1, lecell n 4 2, lecell n 4 3] = bcells (le32 n) := by
  have h0 := byte_cell n 0
  have h1 := byte_cell n 8
  have h2 := byte_cell n 16
  have h3 := byte_cell n 24
  have e : bcells (le32 n) = bcells [UInt8.ofNat (n / 2 ^ 0)] ++ (bcells [UInt8.ofNat (n / 2 ^ 8)] ++ (bcells [UInt8.ofNat (n / 2 ^ 16)] ++ bcells [UInt8.ofNat (n / 2 ^ 24)])) := by simp [bcells, le32]
  rw [e, ← h0, ← h1, ← h2, ← h3]
  rfl
set_option maxRecDepth 100000 in
set_option maxHeartbeats 400000 in
theorem num (n : Nat) (w : World) : Calls Tryz.prog 86 #[.int .u32 n] w fun e w' => e = .returned (.string ⟨(le32 n).toArray⟩) ∧ Below w.heap.size w w' := by
  go_enter Tryz.func86, Tryz.ntmps86
  go_wp2
  go_loopw [5] (fun i wr => ∃ (k : Nat) (z : Int), z = k ∧ i = .int .i64 z ∧ k ≤ 4 ∧ BlkIs wr w.heap.size 143 #[lecell n k 0, lecell n k 1, lecell n k 2, lecell n k 3] ∧ Below w.heap.size w wr) (fun i _ => 4 - (intOf i).toNat)
  case atStart => exact ⟨0, 0, rfl, rfl, by decide, BlkIs.new _ _ _, (Below.refl _ _).alloc (Nat.le_refl _) _⟩
  case round =>
    obtain ⟨k, z, hz, rfl, hk, hblk, hbe⟩ := hrel
    have d0 : wr.cell? ⟨w.heap.size, 0, none⟩ = some (lecell n k 0) := hblk.cell 0
    have d1 : wr.cell? ⟨w.heap.size, 1, none⟩ = some (lecell n k 1) := hblk.cell 1
    have d2 : wr.cell? ⟨w.heap.size, 2, none⟩ = some (lecell n k 2) := hblk.cell 2
    have d3 : wr.cell? ⟨w.heap.size, 3, none⟩ = some (lecell n k 3) := hblk.cell 3
    have f0 := hblk.free 0
    have f1 := hblk.free 1
    have f2 := hblk.free 2
    have f3 := hblk.free 3
    have Hb := Lib.hid (And.intro hblk hbe)
    clear hblk hbe
    have hc : k = 0 ∨ k = 1 ∨ k = 2 ∨ k = 3 ∨ k = 4 := by omega
    rcases hc with rfl | rfl | rfl | rfl | rfl
    · obtain rfl : z = 0 := hz
      go_wp2
      go_roundw
      case rel => exact ⟨1, 1, rfl, rfl, by decide, by have := Hb.out.1.put 0 (lecell n 1 0); simpa [lecell] using this, Hb.out.2.setCell (p := ⟨w.heap.size, 0, none⟩) (Nat.le_refl _) _⟩
      case measure => simp [intOf]
    · obtain rfl : z = 1 := hz
      go_wp2
      go_roundw
      case rel => exact ⟨2, 2, rfl, rfl, by decide, by have := Hb.out.1.put 1 (lecell n 2 1); simpa [lecell] using this, Hb.out.2.setCell (p := ⟨w.heap.size, 1, none⟩) (Nat.le_refl _) _⟩
      case measure => simp [intOf]
    · obtain rfl : z = 2 := hz
      go_wp2
      go_roundw
      case rel => exact ⟨3, 3, rfl, rfl, by decide, by have := Hb.out.1.put 2 (lecell n 3 2); simpa [lecell] using this, Hb.out.2.setCell (p := ⟨w.heap.size, 2, none⟩) (Nat.le_refl _) _⟩
      case measure => simp [intOf]
    · obtain rfl : z = 3 := hz
      go_wp2
      go_roundw
      case rel => exact ⟨4, 4, rfl, rfl, by decide, by have := Hb.out.1.put 3 (lecell n 4 3); simpa [lecell] using this, Hb.out.2.setCell (p := ⟨w.heap.size, 3, none⟩) (Nat.le_refl _) _⟩
      case measure => simp [intOf]
    · obtain rfl : z = 4 := hz
      have ht : (convert 55 9 (.slice (some ⟨w.heap.size, 0, none⟩) 4 4)).run Tryz.prog wr = .ok (.string ⟨(le32 n).toArray⟩) wr := by
        refine run_convert_bytes_back wr 55 9 5 ⟨w.heap.size, 0, none⟩ 4 (le32 n) Tryz.underlying55 Tryz.underlying5 Tryz.underlying9 fun j hj => ?_
        have e : (bcells (le32 n))[j]? = some (.int .u8 ((le32 n)[j]).toNat) := by rw [bcells, List.getElem?_map, List.getElem?_eq_getElem hj]; rfl
        rw [Addr.add_lit, Hb.out.1.cell, ← e, ← lecells]
        simp
      go_wp2
      go_ret
      exact ⟨rfl, Hb.out.2⟩
/-- A text, its length ahead. -/
def txt (l : List UInt8) : List UInt8 := le32 (l.length % 4294967296) ++ l
theorem text (s : ByteArray) (w : World) (hs : s.size ≤ 140737488355328) : Calls Tryz.prog 36 #[.string s] w fun e w' => e = .returned (.string ⟨(txt s.data.toList).toArray⟩) ∧ Below w.heap.size w w' := by
  obtain ⟨m, hm⟩ : ∃ m : Nat, m = s.size % 4294967296 := ⟨_, rfl⟩
  have hw : IntKind.u32.wrap (s.size : Int) = (m : Int) := by rw [hm, IntKind.wrap_u32]; omega
  have Hm := Lib.hid hm
  have hn := num m
  obtain ⟨S, hS⟩ : ∃ S : ByteArray, S = ⟨(le32 m).toArray⟩ := ⟨_, rfl⟩
  have hS4 : S.size = 4 := by rw [hS]; rfl
  rw [← hS] at hn
  have Hn := Lib.hid hn
  have HS := Lib.hid hS
  clear hm hn hS
  have hsi : (s.size : Int) ≤ 140737488355328 := by omega
  go_enter Tryz.func36, Tryz.ntmps36
  go_wp2_with fail
  refine (Hn.out _).mono ?_
  rintro e w1 ⟨rfl, hb1⟩
  go_wp2_with fail
  go_ret
  refine ⟨?_, hb1⟩
  have e1 : s.data.toList.length = s.size := rfl
  simp only [txt, e1, ← Hm.out, HS.out]
  congr 2
/-- The world is as it was, but for block g and new blocks. -/
def Moved (g : Nat) (w w' : World) : Prop := w.grownBy w' (some g)
theorem Moved.refl (g : Nat) (w : World) : Moved g w w := ⟨rfl, rfl, rfl, Nat.le_refl _, fun _ _ _ => rfl⟩
theorem Moved.trans {g : Nat} {a b c : World} (h : Moved g a b) (k : Moved g b c) : Moved g a c :=
  ⟨k.os.trans h.os, k.tape.trans h.tape, k.output.trans h.output, Nat.le_trans h.size k.size, fun i hi hne => (k.block i (Nat.lt_of_lt_of_le hi h.size) hne).trans (h.block i hi hne)⟩
theorem Moved.setCell {g : Nat} {a w : World} (h : Moved g a w) {p : Addr} (hp : p.block = g) (u : Value) : Moved g a (w.setCell p u) :=
  h.trans ⟨rfl, rfl, rfl, by simp, fun k _ hne => Below.heap_setCell w p u k (fun e => hne (by rw [e, hp]))⟩
theorem Moved.grown {g : Nat} {a w w' : World} (h : Moved g a w) (hg : w.grownBy w' none) : Moved g a w' := h.trans ⟨hg.os, hg.tape, hg.output, hg.size, fun k hk _ => hg.block k hk (by simp)⟩
theorem Moved.of_below {g : Nat} {w w' : World} (h : Below w.heap.size w w') : Moved g w w' := ⟨h.os, h.tape, h.output, h.size, fun k hk _ => h.block k hk⟩
theorem Moved.below {g : Nat} {w w' : World} (h : Moved g w w') (hg : g ≤ w.heap.size) : Below g w w' :=
  ⟨h.os, h.tape, h.output, h.size, fun k hk => by
    have hk' : k < g := hk
    exact h.block k (Nat.lt_of_lt_of_le hk' hg) (by simp; omega)⟩
theorem Moved.alloc {g : Nat} {a w : World} (h : Moved g a w) (o : Obj) : Moved g a (w.alloc o) := h.trans (.of_below ((Below.refl _ _).alloc (Nat.le_refl _) _))
theorem Moved.blk {g b : Nat} {w w' : World} {t : TypeId} {cs : Array Value} (h : Moved g w w') (hb : BlkIs w b t cs) (hne : b ≠ g) : BlkIs w' b t cs := BlkIs.grown hb h (by simpa using hne)
theorem Moved.sl {g base n size : Nat} {w w' : World} {e : TypeId} {v : Value} {xs : List Value} (h : Moved g w w') (hs : SlIs w base e size v n xs) (hg : g < base) : SlIs w' base e size v n xs :=
  hs.kept h (by
    cases hv : v.ownBlock with
    | none => exact Or.inl rfl
    | some k => exact Or.inr (by have := (hs.lt k hv).1; simp; omega))
/-- A Reader at block g: what is left, whether it went wrong. -/
def Rd (w : World) (g : Nat) (rest : ByteArray) (bad : Bool) : Prop := BlkIs w g 131 #[.string rest, .bool bad]
theorem rd_new (s : ByteArray) (w : World) : Calls Tryz.prog 55 #[.string s] w fun e w' => e = .returned (.pointer (some ⟨w.heap.size, 0, none⟩)) ∧ Rd w' w.heap.size s false ∧ Below w.heap.size w w' := by
  go_enter Tryz.func55, Tryz.ntmps55
  go_wp2
  go_ret
  exact ⟨rfl, BlkIs.new _ _ _, (Below.refl _ _).alloc (Nat.le_refl _) _⟩
theorem rd_bad (g : Nat) (r : ByteArray) (b : Bool) (w : World) (h : Rd w g r b) : Calls Tryz.prog 105 #[.pointer (some ⟨g, 0, none⟩)] w fun e w' => e = .returned (.bool b) ∧ w = w' := by
  have d1 : w.cell? ⟨g, 1, none⟩ = some (.bool b) := h.cell 1
  go_enter Tryz.func105, Tryz.ntmps105
  go_wp2
  go_ret
  exact ⟨rfl, rfl⟩
theorem rd_spoil (g : Nat) (r : ByteArray) (b : Bool) (w : World) (h : Rd w g r b) : Calls Tryz.prog 104 #[.pointer (some ⟨g, 0, none⟩)] w fun e w' => e = .returned (.tuple #[]) ∧ Rd w' g ⟨#[]⟩ true ∧ Moved g w w' := by
  have d0 : w.cell? ⟨g, 0, none⟩ = some (.string r) := h.cell 0
  have d1 : w.cell? ⟨g, 1, none⟩ = some (.bool b) := h.cell 1
  have f0 := h.free 0
  have f1 := h.free 1
  have H := Lib.hid h; clear h
  go_enter Tryz.func104, Tryz.ntmps104
  go_wp2
  go_end0
  refine ⟨rfl, ?_, ((Moved.refl g w).setCell (p := ⟨g, 1, none⟩) rfl _).setCell (p := ⟨g, 0, none⟩) rfl _⟩
  have := (H.out.put 1 (.bool true)).put 0 (.string ⟨#[]⟩)
  unfold Rd
  simpa using this
theorem rd_left (g : Nat) (r : ByteArray) (b : Bool) (w : World) (h : Rd w g r b) : Calls Tryz.prog 111 #[.pointer (some ⟨g, 0, none⟩)] w fun e w' => e = .returned (.int .i64 r.size) ∧ w = w' := by
  have d0 : w.cell? ⟨g, 0, none⟩ = some (.string r) := h.cell 0
  go_enter Tryz.func111, Tryz.ntmps111
  go_wp2
  go_ret
  exact ⟨rfl, rfl⟩
theorem rd_whole (g : Nat) (r : ByteArray) (b : Bool) (w : World) (h : Rd w g r b) : Calls Tryz.prog 62 #[.pointer (some ⟨g, 0, none⟩)] w fun e w' => e = .returned (.bool (!b && decide (r.size = 0))) ∧ w = w' := by
  have Hb := Lib.hid (rd_bad g r b w h)
  have Hl := Lib.hid (rd_left g r b w h)
  go_enter Tryz.func62, Tryz.ntmps62
  cases b
  · have hz : (r.size = 0) ∨ (r.size ≠ 0) := by omega
    go_wp2_with fail
    refine Hb.out.mono ?_
    rintro e w1 ⟨rfl, rfl⟩
    go_wp2_with fail
    refine Hl.out.mono ?_
    rintro e w1 ⟨rfl, rfl⟩
    go_wp2_with fail
    go_ret
    refine ⟨?_, rfl⟩
    by_cases h0 : r.size = 0 <;> simp [h0]
  · go_wp2_with fail
    refine Hb.out.mono ?_
    rintro e w1 ⟨rfl, rfl⟩
    go_wp2_with fail
    go_ret
    exact ⟨by simp, rfl⟩
/-- What Take hands out, what is left, whether it is bad. -/
def takeR (r : ByteArray) (b : Bool) (n : Int) : ByteArray × ByteArray × Bool :=
  if b = false ∧ 0 ≤ n ∧ n ≤ (r.size : Int) then (r.extract 0 n.toNat, r.extract n.toNat r.size, false) else (⟨#[]⟩, ⟨#[]⟩, true)
theorem rd_take_bad (g : Nat) (r : ByteArray) (b : Bool) (n : Int) (w : World) (h : Rd w g r b) (hn : b = true ∨ n < 0 ∨ (r.size : Int) < n) :
    Calls Tryz.prog 107 #[.pointer (some ⟨g, 0, none⟩), .int .i64 n] w fun e w' => e = .returned (.string ⟨#[]⟩) ∧ Rd w' g ⟨#[]⟩ true ∧ Moved g w w' := by
  have d0 : w.cell? ⟨g, 0, none⟩ = some (.string r) := h.cell 0
  have Hb := Lib.hid (rd_bad g r b w h)
  have Hs := Lib.hid (rd_spoil g r b w h)
  clear h
  have h3 : b = true ∨ (b = false ∧ n < 0) ∨ (b = false ∧ 0 ≤ n ∧ (r.size : Int) < n) := by
    cases b <;> simp at hn ⊢ <;> omega
  clear hn
  go_enter Tryz.func107, Tryz.ntmps107
  rcases h3 with rfl | ⟨rfl, h1⟩ | ⟨rfl, h1, h2⟩ <;>
  · go_wp2_with fail
    refine Hb.out.mono ?_
    rintro e w1 ⟨rfl, rfl⟩
    go_wp2_with fail
    refine Hs.out.mono ?_
    rintro e w1 ⟨rfl, h5, h6⟩
    have H5 := Lib.hid (And.intro h5 h6)
    clear h5 h6
    go_wp2_with fail
    go_ret
    exact ⟨rfl, H5.out⟩
theorem rd_take_ok (g : Nat) (r : ByteArray) (n : Nat) (w : World) (h : Rd w g r false) (hn : n ≤ r.size) :
    Calls Tryz.prog 107 #[.pointer (some ⟨g, 0, none⟩), .int .i64 n] w fun e w' => e = .returned (.string (r.extract 0 n)) ∧ Rd w' g (r.extract n r.size) false ∧ Moved g w w' := by
  have d0 : w.cell? ⟨g, 0, none⟩ = some (.string r) := h.cell 0
  have f0 := h.free 0
  have Hb := Lib.hid (rd_bad g r false w h)
  have H := Lib.hid h
  clear h
  have h1 : (0 : Int) ≤ (n : Int) := by omega
  have h2 : (n : Int) ≤ (r.size : Int) := by omega
  go_enter Tryz.func107, Tryz.ntmps107
  go_wp2_with fail
  refine Hb.out.mono ?_
  rintro e w1 ⟨rfl, rfl⟩
  go_wp2_with fail
  go_ret
  refine ⟨rfl, ?_, (Moved.refl g w).setCell (p := ⟨g, 0, none⟩) rfl _⟩
  unfold Rd
  have := H.out.put 0 (.string (r.extract n r.size))
  simpa using this
theorem rd_take (g : Nat) (r : ByteArray) (b : Bool) (n : Int) (w : World) (h : Rd w g r b) :
    Calls Tryz.prog 107 #[.pointer (some ⟨g, 0, none⟩), .int .i64 n] w fun e w' => e = .returned (.string (takeR r b n).1) ∧ Rd w' g (takeR r b n).2.1 (takeR r b n).2.2 ∧ Moved g w w' := by
  by_cases hc : b = false ∧ 0 ≤ n ∧ n ≤ (r.size : Int)
  · rw [show takeR r b n = (r.extract 0 n.toNat, r.extract n.toNat r.size, false) from if_pos hc]
    obtain ⟨rfl, h1, h2⟩ := hc
    obtain ⟨m, rfl⟩ := Int.eq_ofNat_of_zero_le h1
    exact rd_take_ok g r m w h (by omega)
  · rw [show takeR r b n = (⟨#[]⟩, ⟨#[]⟩, true) from if_neg hc]
    exact rd_take_bad g r b n w h (by cases b <;> simp at hc ⊢ <;> omega)
/-- The number of bytes, the least first. -/
def val : List UInt8 → Nat
  | [] => 0
  | b :: l => b.toNat + 256 * val l
theorem takeR_cases (r : ByteArray) (b : Bool) : (takeR r b 4).1 = ⟨#[]⟩ ∨ ∃ x0 x1 x2 x3, (takeR r b 4).1 = ⟨#[x0, x1, x2, x3]⟩ := by
  unfold takeR
  split
  · next h =>
    right
    have hl : (r.extract 0 4).data.toList.length = 4 := by
      have : (r.extract 0 4).size = 4 := by rw [ByteArray.size_extract]; omega
      exact this
    match hm : (r.extract 0 4).data.toList, hl with
    | [x0, x1, x2, x3], _ =>
      refine ⟨x0, x1, x2, x3, ?_⟩
      apply ByteArray.ext
      apply Array.ext'
      exact hm
  · exact Or.inl rfl
theorem orb (a b k : Nat) (ha : a < 2 ^ k) (h : b * 2 ^ k < 4294967296) (hk : k ≤ 24) : bits BinOp.or IntKind.u32 (a : Int) ((b * 2 ^ k : Nat) : Int) = ((a + b * 2 ^ k : Nat) : Int) := by
  have h2 : 2 ^ k ≤ 2 ^ 24 := Nat.pow_le_pow_right (by decide) hk
  rw [u32_or_nat _ _ (by omega) h, Nat.or_comm, nat_join k _ _ (Nat.mul_mod_left _ _) ha, Nat.add_comm]
theorem num0 (x0 x1 x2 x3 : UInt8) (y : Int) (hy : y = (val ([x0, x1, x2, x3].take 0) : Nat)) : bits BinOp.or IntKind.u32 y ((x0.toNat : Int) % 4294967296) = (val ([x0, x1, x2, x3].take 1) : Nat) := by
  have h0 := x0.toNat_lt
  have h1 := x1.toNat_lt
  have h2 := x2.toNat_lt
  have h3 := x3.toNat_lt
  have e : ((x0.toNat : Int) % 4294967296) = ((x0.toNat * 2 ^ 0 : Nat) : Int) := by omega
  rw [hy, e, orb _ _ _ (by simp [val] <;> omega) (by omega) (by decide)]
  simp [val] <;> omega
theorem num1 (x0 x1 x2 x3 : UInt8) (y : Int) (hy : y = (val ([x0, x1, x2, x3].take 1) : Nat)) : bits BinOp.or IntKind.u32 y ((x1.toNat : Int) % 4294967296 * 256 % 4294967296) = (val ([x0, x1, x2, x3].take 2) : Nat) := by
  have h0 := x0.toNat_lt
  have h1 := x1.toNat_lt
  have h2 := x2.toNat_lt
  have h3 := x3.toNat_lt
  have e : ((x1.toNat : Int) % 4294967296 * 256 % 4294967296) = ((x1.toNat * 2 ^ 8 : Nat) : Int) := by omega
  rw [hy, e, orb _ _ _ (by simp [val] <;> omega) (by omega) (by decide)]
  simp [val] <;> omega
theorem num2 (x0 x1 x2 x3 : UInt8) (y : Int) (hy : y = (val ([x0, x1, x2, x3].take 2) : Nat)) : bits BinOp.or IntKind.u32 y ((x2.toNat : Int) % 4294967296 * 65536 % 4294967296) = (val ([x0, x1, x2, x3].take 3) : Nat) := by
  have h0 := x0.toNat_lt
  have h1 := x1.toNat_lt
  have h2 := x2.toNat_lt
  have h3 := x3.toNat_lt
  have e : ((x2.toNat : Int) % 4294967296 * 65536 % 4294967296) = ((x2.toNat * 2 ^ 16 : Nat) : Int) := by omega
  rw [hy, e, orb _ _ _ (by simp [val] <;> omega) (by omega) (by decide)]
  simp [val] <;> omega
theorem num3 (x0 x1 x2 x3 : UInt8) (y : Int) (hy : y = (val ([x0, x1, x2, x3].take 3) : Nat)) : bits BinOp.or IntKind.u32 y ((x3.toNat : Int) % 4294967296 * 16777216 % 4294967296) = (val ([x0, x1, x2, x3].take 4) : Nat) := by
  have h0 := x0.toNat_lt
  have h1 := x1.toNat_lt
  have h2 := x2.toNat_lt
  have h3 := x3.toNat_lt
  have e : ((x3.toNat : Int) % 4294967296 * 16777216 % 4294967296) = ((x3.toNat * 2 ^ 24 : Nat) : Int) := by omega
  rw [hy, e, orb _ _ _ (by simp [val] <;> omega) (by omega) (by decide)]
  simp [val] <;> omega
set_option maxRecDepth 100000 in
theorem rd_num (g : Nat) (r : ByteArray) (b : Bool) (w : World) (h : Rd w g r b) :
    Calls Tryz.prog 103 #[.pointer (some ⟨g, 0, none⟩)] w fun e w' => e = .returned (.int .u32 (val (takeR r b 4).1.data.toList)) ∧ Rd w' g (takeR r b 4).2.1 (takeR r b 4).2.2 ∧ Moved g w w' := by
  have Ht := Lib.hid (rd_take g r b 4 w h)
  have hgw := h.lt
  clear h
  have hc := takeR_cases r b
  generalize takeR r b 4 = q at *
  obtain ⟨t, r1, b1⟩ := q
  simp only at hc Ht ⊢
  go_enter Tryz.func103, Tryz.ntmps103
  go_wp2_with fail
  refine Ht.out.mono ?_
  rintro e w1 ⟨rfl, h1, hb1⟩
  obtain ⟨ao, cap, w3, hrun, hsl, hg⟩ := run_bytes_sl (P := Tryz.prog) w1 9 55 5 t Tryz.underlying9 Tryz.underlying55 Tryz.underlying5 (by
    rcases hc with rfl | ⟨_, _, _, _, rfl⟩
    · decide
    · show 4 ≤ maxLen; decide)
  have hg1 : g < w1.heap.size := h1.lt
  have hr3 : Rd w3 g r1 b1 := h1.grown hg (by simp)
  have hb3 : Moved g w w3 := hb1.grown hg
  have H3 := Lib.hid (And.intro hr3 hb3)
  clear hr3 hb3 hb1 hg h1
  have hsz : t.data.toList.length = t.size := rfl
  rcases hc with rfl | ⟨x0, x1, x2, x3, rfl⟩
  · have hs0 : (ByteArray.mk #[]).size = 0 := rfl
    rw [hs0] at hrun hsl
    clear hsl
    go_wp2
    go_loopw [3, 10] (fun a i wr => a = .int .u32 0 ∧ i = .int .i64 0 ∧ wr = w3) (fun _ _ _ => 0)
    case atStart => exact ⟨rfl, rfl, rfl⟩
    case round =>
      obtain ⟨rfl, rfl, rfl⟩ := hrel
      go_wp2
      go_ret
      exact ⟨rfl, H3.out⟩
  · have hs0 : (ByteArray.mk #[x0, x1, x2, x3]).size = 4 := rfl
    rw [hs0] at hrun hsl
    obtain ⟨bb, off, cap3, hv3, hbB, hbw, hnc3, hcm3, hcell, hfree⟩ := hsl.at_ (by decide)
    injection hv3 with e1 _ e3
    subst e1 e3
    have d0 : w3.cell? ⟨bb, off, none⟩ = some (.int .u8 x0.toNat) := hcell 0 (by show 0 < 4; decide)
    have d1 : w3.cell? ⟨bb, off + 1, none⟩ = some (.int .u8 x1.toNat) := hcell 1 (by show 1 < 4; decide)
    have d2 : w3.cell? ⟨bb, off + 2, none⟩ = some (.int .u8 x2.toNat) := hcell 2 (by show 2 < 4; decide)
    have d3 : w3.cell? ⟨bb, off + 3, none⟩ = some (.int .u8 x3.toNat) := hcell 3 (by show 3 < 4; decide)
    clear hsl hcell hfree
    go_wp2
    go_loopw [3, 10] (fun a i wr => ∃ (k : Nat) (z y : Int), z = k ∧ i = .int .i64 z ∧ k ≤ 4 ∧ a = .int .u32 y ∧ y = val ([x0, x1, x2, x3].take k) ∧ wr = w3) (fun _ i _ => 4 - (intOf i).toNat)
    case atStart => exact ⟨0, 0, 0, rfl, rfl, by decide, rfl, rfl, rfl⟩
    case round =>
      obtain ⟨k, z, y, hz, rfl, hk, rfl, hy, rfl⟩ := hrel
      have Hy := Lib.hid hy
      clear hy
      have hc : k = 0 ∨ k = 1 ∨ k = 2 ∨ k = 3 ∨ k = 4 := by omega
      clear hk
      rcases hc with rfl | rfl | rfl | rfl | rfl
      · obtain rfl : z = 0 := hz
        go_wp2
        go_roundw
        case rel => exact ⟨1, 1, _, rfl, rfl, by decide, rfl, num0 x0 x1 x2 x3 y Hy.out, trivial⟩
        case measure => simp [intOf]
      · obtain rfl : z = 1 := hz
        go_wp2
        go_roundw
        case rel => exact ⟨2, 2, _, rfl, rfl, by decide, rfl, num1 x0 x1 x2 x3 y Hy.out, trivial⟩
        case measure => simp [intOf]
      · obtain rfl : z = 2 := hz
        go_wp2
        go_roundw
        case rel => exact ⟨3, 3, _, rfl, rfl, by decide, rfl, num2 x0 x1 x2 x3 y Hy.out, trivial⟩
        case measure => simp [intOf]
      · obtain rfl : z = 3 := hz
        go_wp2
        go_roundw
        case rel => exact ⟨4, 4, _, rfl, rfl, by decide, rfl, num3 x0 x1 x2 x3 y Hy.out, trivial⟩
        case measure => simp [intOf]
      · obtain rfl : z = 4 := hz
        go_wp2
        go_ret
        refine ⟨?_, H3.out⟩
        rw [Hy.out]; rfl
theorem val_takeR (r : ByteArray) (b : Bool) : val (takeR r b 4).1.data.toList < 4294967296 := by
  rcases takeR_cases r b with h | ⟨x0, x1, x2, x3, h⟩
  · rw [h]; decide
  · rw [h]
    have h0 := x0.toNat_lt
    have h1 := x1.toNat_lt
    have h2 := x2.toNat_lt
    have h3 := x3.toNat_lt
    simp [val]
    omega
/-- What Text hands out. -/
def textR (r : ByteArray) (b : Bool) (most : Int) : ByteArray × ByteArray × Bool :=
  if most < (val (takeR r b 4).1.data.toList : Int) then (⟨#[]⟩, ⟨#[]⟩, true) else takeR (takeR r b 4).2.1 (takeR r b 4).2.2 (val (takeR r b 4).1.data.toList)
set_option maxRecDepth 100000 in
theorem rd_text (g : Nat) (r : ByteArray) (b : Bool) (most : Int) (w : World) (h : Rd w g r b) :
    Calls Tryz.prog 106 #[.pointer (some ⟨g, 0, none⟩), .int .i64 most] w fun e w' => e = .returned (.string (textR r b most).1) ∧ Rd w' g (textR r b most).2.1 (textR r b most).2.2 ∧ Moved g w w' := by
  have Hn := Lib.hid (rd_num g r b w h)
  have hv := val_takeR r b
  obtain ⟨q, hq⟩ : ∃ q, q = takeR r b 4 := ⟨_, rfl⟩
  have ht : textR r b most = if most < (val q.1.data.toList : Int) then (⟨#[]⟩, ⟨#[]⟩, true) else takeR q.2.1 q.2.2 (val q.1.data.toList) := by rw [hq]; rfl
  rw [← hq] at Hn hv
  clear hq h
  obtain ⟨n, hn⟩ : ∃ n : Nat, n = val q.1.data.toList := ⟨_, rfl⟩
  rw [← hn] at ht Hn hv
  have hvi : (n : Int) < 4294967296 := by omega
  clear hn hv
  obtain ⟨t, r1, b1⟩ := q
  simp only at ht Hn
  by_cases hc : most < (n : Int)
  · rw [if_pos hc] at ht
    rw [ht]
    clear ht
    go_enter Tryz.func106, Tryz.ntmps106
    go_wp2_with fail
    refine Hn.out.mono ?_
    rintro e w1 ⟨rfl, h1, hb1⟩
    have H1 := Lib.hid (And.intro h1 hb1)
    clear h1 hb1
    go_wp2_with fail
    refine (rd_spoil g _ _ w1 H1.out.1).mono ?_
    rintro e w2 ⟨rfl, h2, hb2⟩
    have H2 := Lib.hid (And.intro h2 (H1.out.2.trans hb2))
    clear h2 hb2
    go_wp2_with fail
    refine (rd_take_bad g _ true n w2 H2.out.1 (Or.inl rfl)).mono ?_
    rintro e w3 ⟨rfl, h3, hb3⟩
    have H3 := Lib.hid (And.intro h3 (H2.out.2.trans hb3))
    clear h3 hb3
    go_wp2_with fail
    go_ret
    exact ⟨rfl, H3.out⟩
  · rw [if_neg hc] at ht
    rw [ht]
    clear ht
    go_enter Tryz.func106, Tryz.ntmps106
    go_wp2_with fail
    refine Hn.out.mono ?_
    rintro e w1 ⟨rfl, h1, hb1⟩
    have H1 := Lib.hid (And.intro h1 hb1)
    clear h1 hb1
    have hc1 : decide (most < (n : Int)) = false := by simp; omega
    clear hc
    go_wp2_with fail
    refine (rd_take g r1 b1 n w1 H1.out.1).mono ?_
    rintro e w3 ⟨rfl, h3, hb3⟩
    have H3 := Lib.hid (And.intro h3 (H1.out.2.trans hb3))
    clear h3 hb3
    go_wp2_with fail
    go_ret
    exact ⟨rfl, H3.out⟩
end Go.Proofs.YtngflbakmlddeaaGreat.Oct
