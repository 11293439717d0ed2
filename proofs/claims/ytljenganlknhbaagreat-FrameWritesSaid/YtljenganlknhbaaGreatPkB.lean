/- Several texts in one. (Layer 19.) -/
import Derived.Test.YtljenganlknhbaaGreatChecked
import Derived.Test.YtljenganlknhbaaGreatPkA
import Derived.BigQuiet
/- octet.Num and octet.Text, walked: four bytes, the least first; a text with its length ahead. -/
namespace Go.Proofs.YtljenganlknhbaaGreat.Oct
open Go.RowKit
/-- Four bytes, the least first. -/
def le32 (n : Nat) : List UInt8 := [UInt8.ofNat n, UInt8.ofNat (n / 2 ^ 8), UInt8.ofNat (n / 2 ^ 16), UInt8.ofNat (n / 2 ^ 24)]
theorem le32_length (n : Nat) : (le32 n).length = 4 := rfl
def lecell (n : Nat) (k j : Nat) : Value := .int .u8 (if j < k then (n : Int) / 2 ^ (8 * j) % 256 else 0)
theorem lecells (n : Nat) : [lecell n 4 0, lecell n 4 1, lecell n 4 2, lecell n 4 3] = bcells (le32 n) := by
  have h0 := byte_cell n 0
  have h1 := byte_cell n 8
  have h2 := byte_cell n 16
  have h3 := byte_cell n 24
  have e : bcells (le32 n) = bcells [UInt8.ofNat (n / 2 ^ 0)] ++ (bcells [UInt8.ofNat (n / 2 ^ 8)] ++ (bcells [UInt8.ofNat (n / 2 ^ 16)] ++ bcells [UInt8.ofNat (n / 2 ^ 24)])) := by simp [bcells, le32]
  rw [e, ← h0, ← h1, ← h2, ← h3]
  rfl
set_option maxRecDepth 100000 in
set_option maxHeartbeats 400000 in
theorem num (n : Nat) (w : World) : Calls Tryz.prog 17 #[.int .u32 n] w fun e w' => e = .returned (.string ⟨(le32 n).toArray⟩) ∧ Below w.heap.size w w' := by
  go_enter Tryz.func17, Tryz.ntmps17
  go_wp2
  go_loopw [5] (fun i wr => ∃ (k : Nat) (z : Int), z = k ∧ i = .int .i64 z ∧ k ≤ 4 ∧ BlkIs wr w.heap.size 86 #[lecell n k 0, lecell n k 1, lecell n k 2, lecell n k 3] ∧ Below w.heap.size w wr) (fun i _ => 4 - (intOf i).toNat)
  case atStart => exact ⟨0, 0, rfl, rfl, by decide, BlkIs.new _ _ _, (Below.refl _ _).alloc (Nat.le_refl _) _⟩
  case round =>
    obtain ⟨k, z, hz, rfl, hk, hblk, hbe⟩ := hrel
    have d0 : wr.cell? ⟨w.heap.size, 0, none⟩ = some (lecell n k 0) := hblk.cell 0
    have d1 : wr.cell? ⟨w.heap.size, 1, none⟩ = some (lecell n k 1) := hblk.cell 1
    have d2 : wr.cell? ⟨w.heap.size, 2, none⟩ = some (lecell n k 2) := hblk.cell 2
    have d3 : wr.cell? ⟨w.heap.size, 3, none⟩ = some (lecell n k 3) := hblk.cell 3
    have f0 := hblk.free 0
    have f1 := hblk.free 1
    have f2 := hblk.free 2
    have f3 := hblk.free 3
    have Hb := Lib.hid (And.intro hblk hbe)
    clear hblk hbe
    have hc : k = 0 ∨ k = 1 ∨ k = 2 ∨ k = 3 ∨ k = 4 := by omega
    rcases hc with rfl | rfl | rfl | rfl | rfl
    · obtain rfl : z = 0 := hz
      go_wp2
      go_roundw
      case rel => exact ⟨1, 1, rfl, rfl, by decide, by have := Hb.out.1.put 0 (lecell n 1 0); simpa [lecell] using this, Hb.out.2.setCell (p := ⟨w.heap.size, 0, none⟩) (Nat.le_refl _) _⟩
      case measure => simp [intOf]
    · obtain rfl : z = 1 := hz
      go_wp2
      go_roundw
      case rel => exact ⟨2, 2, rfl, rfl, by decide, by have := Hb.out.1.put 1 (lecell n 2 1); simpa [lecell] using this, Hb.out.2.setCell (p := ⟨w.heap.size, 1, none⟩) (Nat.le_refl _) _⟩
      case measure => simp [intOf]
    · obtain rfl : z = 2 := hz
      go_wp2
      go_roundw
      case rel => exact ⟨3, 3, rfl, rfl, by decide, by have := Hb.out.1.put 2 (lecell n 3 2); simpa [lecell] using this, Hb.out.2.setCell (p := ⟨w.heap.size, 2, none⟩) (Nat.le_refl _) _⟩
      case measure => simp [intOf]
    · obtain rfl : z = 3 := hz
      go_wp2
      go_roundw
      case rel => exact ⟨4, 4, rfl, rfl, by decide, by have := Hb.out.1.put 3 (lecell n 4 3); simpa [lecell] using this, Hb.out.2.setCell (p := ⟨w.heap.size, 3, none⟩) (Nat.le_refl _) _⟩
      case measure => simp [intOf]
    · obtain rfl : z = 4 := hz
      have ht : (convert 43 9 (.slice (some ⟨w.heap.size, 0, none⟩) 4 4)).run Tryz.prog wr = .ok (.string ⟨(le32 n).toArray⟩) wr := by
        refine run_convert_bytes_back wr 43 9 5 ⟨w.heap.size, 0, none⟩ 4 (le32 n) Tryz.underlying43 Tryz.underlying5 Tryz.underlying9 fun j hj => ?_
        have e : (bcells (le32 n))[j]? = some (.int .u8 ((le32 n)[j]).toNat) := by rw [bcells, List.getElem?_map, List.getElem?_eq_getElem hj]; rfl
        rw [Addr.add_lit, Hb.out.1.cell, ← e, ← lecells]
        simp
      go_wp2
      go_ret
      exact ⟨rfl, Hb.out.2⟩
/-- A text, its length ahead. -/
def txt (l : List UInt8) : List UInt8 := le32 (l.length % 4294967296) ++ l
theorem text (s : ByteArray) (w : World) (hs : s.size ≤ 140737488355328) : Calls Tryz.prog 72 #[.string s] w fun e w' => e = .returned (.string ⟨(txt s.data.toList).toArray⟩) ∧ Below w.heap.size w w' := by
  obtain ⟨m, hm⟩ : ∃ m : Nat, m = s.size % 4294967296 := ⟨_, rfl⟩
  have hw : IntKind.u32.wrap (s.size : Int) = (m : Int) := by rw [hm, IntKind.wrap_u32]; omega
  have Hm := Lib.hid hm
  have hn := num m
  obtain ⟨S, hS⟩ : ∃ S : ByteArray, S = ⟨(le32 m).toArray⟩ := ⟨_, rfl⟩
  have hS4 : S.size = 4 := by rw [hS]; rfl
  rw [← hS] at hn
  have Hn := Lib.hid hn
  have HS := Lib.hid hS
  clear hm hn hS
  have hsi : (s.size : Int) ≤ 140737488355328 := by omega
  go_enter Tryz.func72, Tryz.ntmps72
  go_wp2_with fail
  refine (Hn.out _).mono ?_
  rintro e w1 ⟨rfl, hb1⟩
  go_wp2_with fail
  go_ret
  refine ⟨?_, hb1⟩
  have e1 : s.data.toList.length = s.size := rfl
  simp only [txt, e1, ← Hm.out, HS.out]
  congr 2
/-- The world is as it was, but for block g and new blocks. -/
def Moved (g : Nat) (w w' : World) : Prop := w.grownBy w' (some g)
theorem Moved.refl (g : Nat) (w : World) : Moved g w w := ⟨rfl, rfl, rfl, Nat.le_refl _, fun _ _ _ => rfl⟩
theorem Moved.trans {g : Nat} {a b c : World} (h : Moved g a b) (k : Moved g b c) : Moved g a c :=
  ⟨k.os.trans h.os, k.tape.trans h.tape, k.output.trans h.output, Nat.le_trans h.size k.size, fun i hi hne => (k.block i (Nat.lt_of_lt_of_le hi h.size) hne).trans (h.block i hi hne)⟩
theorem Moved.setCell {g : Nat} {a w : World} (h : Moved g a w) {p : Addr} (hp : p.block = g) (u : Value) : Moved g a (w.setCell p u) :=
  h.trans ⟨rfl, rfl, rfl, by simp, fun k _ hne => Below.heap_setCell w p u k (fun e => hne (by rw [e, hp]))⟩
theorem Moved.grown {g : Nat} {a w w' : World} (h : Moved g a w) (hg : w.grownBy w' none) : Moved g a w' := h.trans ⟨hg.os, hg.tape, hg.output, hg.size, fun k hk _ => hg.block k hk (by simp)⟩
theorem Moved.of_below {g : Nat} {w w' : World} (h : Below w.heap.size w w') : Moved g w w' := ⟨h.os, h.tape, h.output, h.size, fun k hk _ => h.block k hk⟩
theorem Moved.below {g : Nat} {w w' : World} (h : Moved g w w') (hg : g ≤ w.heap.size) : Below g w w' :=
  ⟨h.os, h.tape, h.output, h.size, fun k hk => by
    have hk' : k < g := hk
    exact h.block k (Nat.lt_of_lt_of_le hk' hg) (by simp; omega)⟩
theorem Moved.alloc {g : Nat} {a w : World} (h : Moved g a w) (o : Obj) : Moved g a (w.alloc o) := h.trans (.of_below ((Below.refl _ _).alloc (Nat.le_refl _) _))
theorem Moved.blk {g b : Nat} {w w' : World} {t : TypeId} {cs : Array Value} (h : Moved g w w') (hb : BlkIs w b t cs) (hne : b ≠ g) : BlkIs w' b t cs := BlkIs.grown hb h (by simpa using hne)
theorem Moved.sl {g base n size : Nat} {w w' : World} {e : TypeId} {v : Value} {xs : List Value} (h : Moved g w w') (hs : SlIs w base e size v n xs) (hg : g < base) : SlIs w' base e size v n xs :=
  hs.kept h (by
    cases hv : v.ownBlock with
    | none => exact Or.inl rfl
    | some k => exact Or.inr (by have := (hs.lt k hv).1; simp; omega))
/-- A Reader at block g: what is left, whether it went wrong. -/
def Rd (w : World) (g : Nat) (rest : ByteArray) (bad : Bool) : Prop := BlkIs w g 116 #[.string rest, .bool bad]
theorem rd_new (s : ByteArray) (w : World) : Calls Tryz.prog 40 #[.string s] w fun e w' => e = .returned (.pointer (some ⟨w.heap.size, 0, none⟩)) ∧ Rd w' w.heap.size s false ∧ Below w.heap.size w w' := by
  go_enter Tryz.func40, Tryz.ntmps40
  go_wp2
  go_ret
  exact ⟨rfl, BlkIs.new _ _ _, (Below.refl _ _).alloc (Nat.le_refl _) _⟩
theorem rd_bad (g : Nat) (r : ByteArray) (b : Bool) (w : World) (h : Rd w g r b) : Calls Tryz.prog 42 #[.pointer (some ⟨g, 0, none⟩)] w fun e w' => e = .returned (.bool b) ∧ w = w' := by
  have d1 : w.cell? ⟨g, 1, none⟩ = some (.bool b) := h.cell 1
  go_enter Tryz.func42, Tryz.ntmps42
  go_wp2
  go_ret
  exact ⟨rfl, rfl⟩
theorem rd_spoil (g : Nat) (r : ByteArray) (b : Bool) (w : World) (h : Rd w g r b) : Calls Tryz.prog 54 #[.pointer (some ⟨g, 0, none⟩)] w fun e w' => e = .returned (.tuple #[]) ∧ Rd w' g ⟨#[]⟩ true ∧ Moved g w w' := by
  have d0 : w.cell? ⟨g, 0, none⟩ = some (.string r) := h.cell 0
  have d1 : w.cell? ⟨g, 1, none⟩ = some (.bool b) := h.cell 1
  have f0 := h.free 0
  have f1 := h.free 1
  have H := Lib.hid h; clear h
  go_enter Tryz.func54, Tryz.ntmps54
  go_wp2
  go_end0
  refine ⟨rfl, ?_, ((Moved.refl g w).setCell (p := ⟨g, 1, none⟩) rfl _).setCell (p := ⟨g, 0, none⟩) rfl _⟩
  have := (H.out.put 1 (.bool true)).put 0 (.string ⟨#[]⟩)
  unfold Rd
  simpa using this
theorem rd_left (g : Nat) (r : ByteArray) (b : Bool) (w : World) (h : Rd w g r b) : Calls Tryz.prog 43 #[.pointer (some ⟨g, 0, none⟩)] w fun e w' => e = .returned (.int .i64 r.size) ∧ w = w' := by
  have d0 : w.cell? ⟨g, 0, none⟩ = some (.string r) := h.cell 0
  go_enter Tryz.func43, Tryz.ntmps43
  go_wp2
  go_ret
  exact ⟨rfl, rfl⟩
theorem rd_whole (g : Nat) (r : ByteArray) (b : Bool) (w : World) (h : Rd w g r b) : Calls Tryz.prog 55 #[.pointer (some ⟨g, 0, none⟩)] w fun e w' => e = .returned (.bool (!b && decide (r.size = 0))) ∧ w = w' := by
  have Hb := Lib.hid (rd_bad g r b w h)
  have Hl := Lib.hid (rd_left g r b w h)
  go_enter Tryz.func55, Tryz.ntmps55
  cases b
  · have hz : (r.size = 0) ∨ (r.size ≠ 0) := by omega
    go_wp2_with fail
    refine Hb.out.mono ?_
    rintro e w1 ⟨rfl, rfl⟩
    go_wp2_with fail
    refine Hl.out.mono ?_
    rintro e w1 ⟨rfl, rfl⟩
    go_wp2_with fail
    go_ret
    refine ⟨?_, rfl⟩
    by_cases h0 : r.size = 0 <;> simp [h0]
  · go_wp2_with fail
    refine Hb.out.mono ?_
    rintro e w1 ⟨rfl, rfl⟩
    go_wp2_with fail
    go_ret
    exact ⟨by simp, rfl⟩
/-- What Take hands out, what is left, whether it is bad. -/
def takeR (r : ByteArray) (b : Bool) (n : Int) : ByteArray × ByteArray × Bool :=
  if b = false ∧ 0 ≤ n ∧ n ≤ (r.size : Int) then (r.extract 0 n.toNat, r.extract n.toNat r.size, false) else (⟨#[]⟩, ⟨#[]⟩, true)
theorem rd_take_bad (g : Nat) (r : ByteArray) (b : Bool) (n : Int) (w : World) (h : Rd w g r b) (hn : b = true ∨ n < 0 ∨ (r.size : Int) < n) :
    Calls Tryz.prog 44 #[.pointer (some ⟨g, 0, none⟩), .int .i64 n] w fun e w' => e = .returned (.string ⟨#[]⟩) ∧ Rd w' g ⟨#[]⟩ true ∧ Moved g w w' := by
  have d0 : w.cell? ⟨g, 0, none⟩ = some (.string r) := h.cell 0
  have Hb := Lib.hid (rd_bad g r b w h)
  have Hs := Lib.hid (rd_spoil g r b w h)
  clear h
  have h3 : b = true ∨ (b = false ∧ n < 0) ∨ (b = false ∧ 0 ≤ n ∧ (r.size : Int) < n) := by
    cases b <;> simp at hn ⊢ <;> omega
  clear hn
  go_enter Tryz.func44, Tryz.ntmps44
  rcases h3 with rfl | ⟨rfl, h1⟩ | ⟨rfl, h1, h2⟩ <;>
  · go_wp2_with fail
    refine Hb.out.mono ?_
    rintro e w1 ⟨rfl, rfl⟩
    go_wp2_with fail
    refine Hs.out.mono ?_
    rintro e w1 ⟨rfl, h5, h6⟩
    have H5 := Lib.hid (And.intro h5 h6)
    clear h5 h6
    go_wp2_with fail
    go_ret
    exact ⟨rfl, H5.out⟩
theorem rd_take_ok (g : Nat) (r : ByteArray) (n : Nat) (w : World) (h : Rd w g r false) (hn : n ≤ r.size) :
    Calls Tryz.prog 44 #[.pointer (some ⟨g, 0, none⟩), .int .i64 n] w fun e w' => e = .returned (.string (r.extract 0 n)) ∧ Rd w' g (r.extract n r.size) false ∧ Moved g w w' := by
  have d0 : w.cell? ⟨g, 0, none⟩ = some (.string r) := h.cell 0
  have f0 := h.free 0
  have Hb := Lib.hid (rd_bad g r false w h)
  have H := Lib.hid h
  clear h
  have h1 : (0 : Int) ≤ (n : Int) := by omega
  have h2 : (n : Int) ≤ (r.size : Int) := by omega
  go_enter Tryz.func44, Tryz.ntmps44
  go_wp2_with fail
  refine Hb.out.mono ?_
  rintro e w1 ⟨rfl, rfl⟩
  go_wp2_with fail
  go_ret
  refine ⟨rfl, ?_, (Moved.refl g w).setCell (p := ⟨g, 0, none⟩) rfl _⟩
  unfold Rd
  have := H.out.put 0 (.string (r.extract n r.size))
  simpa using this
theorem rd_take (g : Nat) (r : ByteArray) (b : Bool) (n : Int) (w : World) (h : Rd w g r b) :
    Calls Tryz.prog 44 #[.pointer (some ⟨g, 0, none⟩), .int .i64 n] w fun e w' => e = .returned (.string (takeR r b n).1) ∧ Rd w' g (takeR r b n).2.1 (takeR r b n).2.2 ∧ Moved g w w' := by
  by_cases hc : b = false ∧ 0 ≤ n ∧ n ≤ (r.size : Int)
  · rw [show takeR r b n = (r.extract 0 n.toNat, r.extract n.toNat r.size, false) from if_pos hc]
    obtain ⟨rfl, h1, h2⟩ := hc
    obtain ⟨m, rfl⟩ := Int.eq_ofNat_of_zero_le h1
    exact rd_take_ok g r m w h (by omega)
  · rw [show takeR r b n = (⟨#[]⟩, ⟨#[]⟩, true) from if_neg hc]
    exact rd_take_bad g r b n w h (by cases b <;> simp at hc ⊢ <;> omega)
/-- The number of bytes, the least first. -/
def val : List UInt8 → Nat
  | [] => 0
  | b :: l => b.toNat + 256 * val l
theorem takeR_cases (r : ByteArray) (b : Bool) : (takeR r b 4).1 = ⟨#[]⟩ ∨ ∃ x0 x1 x2 x3, (takeR r b 4).1 = ⟨#[x0, x1, x2, x3]⟩ := by
  unfold takeR
  split
  · next h =>
    right
    have hl : (r.extract 0 4).data.toList.length = 4 := by
      have : (r.extract 0 4).size = 4 := by rw [ByteArray.size_extract]; omega
      exact this
    match hm : (r.extract 0 4).data.toList, hl with
    | [x0, x1, x2, x3], _ =>
      refine ⟨x0, x1, x2, x3, ?_⟩
      apply ByteArray.ext
      apply Array.ext'
      exact hm
  · exact Or.inl rfl
theorem orb (a b k : Nat) (ha : a < 2 ^ k) (h : b * 2 ^ k < 4294967296) (hk : k ≤ 24) : bits BinOp.or IntKind.u32 (a : Int) ((b * 2 ^ k : Nat) : Int) = ((a + b * 2 ^ k : Nat) : Int) := by
  have h2 : 2 ^ k ≤ 2 ^ 24 := Nat.pow_le_pow_right (by decide) hk
  rw [u32_or_nat _ _ (by omega) h, Nat.or_comm, nat_join k _ _ (Nat.mul_mod_left _ _) ha, Nat.add_comm]
theorem num0 (x0 x1 x2 x3 : UInt8) (y : Int) (hy : y = (val ([x0, x1, x2, x3].take 0) : Nat)) : bits BinOp.or IntKind.u32 y ((x0.toNat : Int) % 4294967296) = (val ([x0, x1, x2, x3].take 1) : Nat) := by
  have h0 := x0.toNat_lt
  have h1 := x1.toNat_lt
  have h2 := x2.toNat_lt
  have h3 := x3.toNat_lt
  have e : ((x0.toNat : Int) % 4294967296) = ((x0.toNat * 2 ^ 0 : Nat) : Int) := by omega
  rw [hy, e, orb _ _ _ (by simp [val] <;> omega) (by omega) (by decide)]
  simp [val] <;> omega
theorem num1 (x0 x1 x2 x3 : UInt8) (y : Int) (hy : y = (val ([x0, x1, x2, x3].take 1) : Nat)) : bits BinOp.or IntKind.u32 y ((x1.toNat : Int) % 4294967296 * 256 % 4294967296) = (val ([x0, x1, x2, x3].take 2) : Nat) := by
  have h0 := x0.toNat_lt
  have h1 := x1.toNat_lt
  have h2 := x2.toNat_lt
  have h3 := x3.toNat_lt
  have e : ((x1.toNat : Int) % 4294967296 * 256 % 4294967296) = ((x1.toNat * 2 ^ 8 : Nat) : Int) := by omega
  rw [hy, e, orb _ _ _ (by simp [val] <;> omega) (by omega) (by decide)]
  simp [val] <;> omega
theorem num2 (x0 x1 x2 x3 : UInt8) (y : Int) (hy : y = (val ([x0, x1, x2, x3].take 2) : Nat)) : bits BinOp.or IntKind.u32 y ((x2.toNat : Int) % 4294967296 * 65536 % 4294967296) = (val ([x0, x1, x2, x3].take 3) : Nat) := by
  have h0 := x0.toNat_lt
  have h1 := x1.toNat_lt
  have h2 := x2.toNat_lt
  have h3 := x3.toNat_lt
  have e : ((x2.toNat : Int) % 4294967296 * 65536 % 4294967296) = ((x2.toNat * 2 ^ 16 : Nat) : Int) := by omega
  rw [hy, e, orb _ _ _ (by simp [val] <;> omega) (by omega) (by decide)]
  simp [val] <;> omega
theorem num3 (x0 x1 x2 x3 : UInt8) (y : Int) (hy : y = (val ([x0, x1, x2, x3].take 3) : Nat)) : bits BinOp.or IntKind.u32 y ((x3.toNat : Int) % 4294967296 * 16777216 % 4294967296) = (val ([x0, x1, x2, x3].take 4) : Nat) := by
  have h0 := x0.toNat_lt
  have h1 := x1.toNat_lt
  have h2 := x2.toNat_lt
  have h3 := x3.toNat_lt
  have e : ((x3.toNat : Int) % 4294967296 * 16777216 % 4294967296) = ((x3.toNat * 2 ^ 24 : Nat) : Int) := by omega
  rw [hy, e, orb _ _ _ (by simp [val] <;> omega) (by omega) (by decide)]
  simp [val] <;> omega
set_option maxRecDepth 100000 in
theorem rd_num (g : Nat) (r : ByteArray) (b : Bool) (w : World) (h : Rd w g r b) :
    Calls Tryz.prog 41 #[.pointer (some ⟨g, 0, none⟩)] w fun e w' => e = .returned (.int .u32 (val (takeR r b 4).1.data.toList)) ∧ Rd w' g (takeR r b 4).2.1 (takeR r b 4).2.2 ∧ Moved g w w' := by
  have Ht := Lib.hid (rd_take g r b 4 w h)
  have hgw := h.lt
  clear h
  have hc := takeR_cases r b
  generalize takeR r b 4 = q at *
  obtain ⟨t, r1, b1⟩ := q
  simp only at hc Ht ⊢
  go_enter Tryz.func41, Tryz.ntmps41
  go_wp2_with fail
  refine Ht.out.mono ?_
  rintro e w1 ⟨rfl, h1, hb1⟩
  obtain ⟨ao, cap, w3, hrun, hsl, hg⟩ := run_bytes_sl (P := Tryz.prog) w1 9 43 5 t Tryz.underlying9 Tryz.underlying43 Tryz.underlying5 (by
    rcases hc with rfl | ⟨_, _, _, _, rfl⟩
    · decide
    · show 4 ≤ maxLen; decide)
  have hg1 : g < w1.heap.size := h1.lt
  have hr3 : Rd w3 g r1 b1 := h1.grown hg (by simp)
  have hb3 : Moved g w w3 := hb1.grown hg
  have H3 := Lib.hid (And.intro hr3 hb3)
  clear hr3 hb3 hb1 hg h1
  have hsz : t.data.toList.length = t.size := rfl
  rcases hc with rfl | ⟨x0, x1, x2, x3, rfl⟩
  · have hs0 : (ByteArray.mk #[]).size = 0 := rfl
    rw [hs0] at hrun hsl
    clear hsl
    go_wp2
    go_loopw [3, 10] (fun a i wr => a = .int .u32 0 ∧ i = .int .i64 0 ∧ wr = w3) (fun _ _ _ => 0)
    case atStart => exact ⟨rfl, rfl, rfl⟩
    case round =>
      obtain ⟨rfl, rfl, rfl⟩ := hrel
      go_wp2
      go_ret
      exact ⟨rfl, H3.out⟩
  · have hs0 : (ByteArray.mk #[x0, x1, x2, x3]).size = 4 := rfl
    rw [hs0] at hrun hsl
    obtain ⟨bb, off, cap3, hv3, hbB, hbw, hnc3, hcm3, hcell, hfree⟩ := hsl.at_ (by decide)
    injection hv3 with e1 _ e3
    subst e1 e3
    have d0 : w3.cell? ⟨bb, off, none⟩ = some (.int .u8 x0.toNat) := hcell 0 (by show 0 < 4; decide)
    have d1 : w3.cell? ⟨bb, off + 1, none⟩ = some (.int .u8 x1.toNat) := hcell 1 (by show 1 < 4; decide)
    have d2 : w3.cell? ⟨bb, off + 2, none⟩ = some (.int .u8 x2.toNat) := hcell 2 (by show 2 < 4; decide)
    have d3 : w3.cell? ⟨bb, off + 3, none⟩ = some (.int .u8 x3.toNat) := hcell 3 (by show 3 < 4; decide)
    clear hsl hcell hfree
    go_wp2
    go_loopw [3, 10] (fun a i wr => ∃ (k : Nat) (z y : Int), z = k ∧ i = .int .i64 z ∧ k ≤ 4 ∧ a = .int .u32 y ∧ y = val ([x0, x1, x2, x3].take k) ∧ wr = w3) (fun _ i _ => 4 - (intOf i).toNat)
    case atStart => exact ⟨0, 0, 0, rfl, rfl, by decide, rfl, rfl, rfl⟩
    case round =>
      obtain ⟨k, z, y, hz, rfl, hk, rfl, hy, rfl⟩ := hrel
      have Hy := Lib.hid hy
      clear hy
      have hc : k = 0 ∨ k = 1 ∨ k = 2 ∨ k = 3 ∨ k = 4 := by omega
      clear hk
      rcases hc with rfl | rfl | rfl | rfl | rfl
      · obtain rfl : z = 0 := hz
        go_wp2
        go_roundw
        case rel => exact ⟨1, 1, _, rfl, rfl, by decide, rfl, num0 x0 x1 x2 x3 y Hy.out, trivial⟩
        case measure => simp [intOf]
      · obtain rfl : z = 1 := hz
        go_wp2
        go_roundw
        case rel => exact ⟨2, 2, _, rfl, rfl, by decide, rfl, num1 x0 x1 x2 x3 y Hy.out, trivial⟩
        case measure => simp [intOf]
      · obtain rfl : z = 2 := hz
        go_wp2
        go_roundw
        case rel => exact ⟨3, 3, _, rfl, rfl, by decide, rfl, num2 x0 x1 x2 x3 y Hy.out, trivial⟩
        case measure => simp [intOf]
      · obtain rfl : z = 3 := hz
        go_wp2
        go_roundw
        case rel => exact ⟨4, 4, _, rfl, rfl, by decide, rfl, num3 x0 x1 x2 x3 y Hy.out, trivial⟩
        case measure => simp [intOf]
      · obtain rfl : z = 4 := hz
        go_wp2
        go_ret
        refine ⟨?_, H3.out⟩
        rw [Hy.out]; rfl
theorem val_takeR (r : ByteArray) (b : Bool) : val (takeR r b 4).1.data.toList < 4294967296 := by
  rcases takeR_cases r b with h | ⟨x0, x1, x2, x3, h⟩
  · rw [h]; decide
  · rw [h]
    have h0 := x0.toNat_lt
    have h1 := x1.toNat_lt
    have h2 := x2.toNat_lt
    have h3 := x3.toNat_lt
    simp [val]
    omega
/-- What Text hands out. -/
def textR (r : ByteArray) (b : Bool) (most : Int) : ByteArray × ByteArray × Bool :=
  if most < (val (takeR r b 4).1.data.toList : Int) then (⟨#[]⟩, ⟨#[]⟩, true) else takeR (takeR r b 4).2.1 (takeR r b 4).2.2 (val (takeR r b 4).1.data.toList)
set_option maxRecDepth 100000 in
theorem rd_text (g : Nat) (r : ByteArray) (b : Bool) (most : Int) (w : World) (h : Rd w g r b) :
    Calls Tryz.prog 47 #[.pointer (some ⟨g, 0, none⟩), .int .i64 most] w fun e w' => e = .returned (.string (textR r b most).1) ∧ Rd w' g (textR r b most).2.1 (textR r b most).2.2 ∧ Moved g w w' := by
  have Hn := Lib.hid (rd_num g r b w h)
  have hv := val_takeR r b
  obtain ⟨q, hq⟩ : ∃ q, q = takeR r b 4 := ⟨_, rfl⟩
  have ht : textR r b most = if most < (val q.1.data.toList : Int) then (⟨#[]⟩, ⟨#[]⟩, true) else takeR q.2.1 q.2.2 (val q.1.data.toList) := by rw [hq]; rfl
  rw [← hq] at Hn hv
  clear hq h
  obtain ⟨n, hn⟩ : ∃ n : Nat, n = val q.1.data.toList := ⟨_, rfl⟩
  rw [← hn] at ht Hn hv
  have hvi : (n : Int) < 4294967296 := by omega
  clear hn hv
  obtain ⟨t, r1, b1⟩ := q
  simp only at ht Hn
  by_cases hc : most < (n : Int)
  · rw [if_pos hc] at ht
    rw [ht]
    clear ht
    go_enter Tryz.func47, Tryz.ntmps47
    go_wp2_with fail
    refine Hn.out.mono ?_
    rintro e w1 ⟨rfl, h1, hb1⟩
    have H1 := Lib.hid (And.intro h1 hb1)
    clear h1 hb1
    go_wp2_with fail
    refine (rd_spoil g _ _ w1 H1.out.1).mono ?_
    rintro e w2 ⟨rfl, h2, hb2⟩
    have H2 := Lib.hid (And.intro h2 (H1.out.2.trans hb2))
    clear h2 hb2
    go_wp2_with fail
    refine (rd_take_bad g _ true n w2 H2.out.1 (Or.inl rfl)).mono ?_
    rintro e w3 ⟨rfl, h3, hb3⟩
    have H3 := Lib.hid (And.intro h3 (H2.out.2.trans hb3))
    clear h3 hb3
    go_wp2_with fail
    go_ret
    exact ⟨rfl, H3.out⟩
  · rw [if_neg hc] at ht
    rw [ht]
    clear ht
    go_enter Tryz.func47, Tryz.ntmps47
    go_wp2_with fail
    refine Hn.out.mono ?_
    rintro e w1 ⟨rfl, h1, hb1⟩
    have H1 := Lib.hid (And.intro h1 hb1)
    clear h1 hb1
    have hc1 : decide (most < (n : Int)) = false := by simp; omega
    clear hc
    go_wp2_with fail
    refine (rd_take g r1 b1 n w1 H1.out.1).mono ?_
    rintro e w3 ⟨rfl, h3, hb3⟩
    have H3 := Lib.hid (And.intro h3 (H1.out.2.trans hb3))
    clear h3 hb3
    go_wp2_with fail
    go_ret
    exact ⟨rfl, H3.out⟩
end Go.Proofs.YtljenganlknhbaaGreat.Oct

/- Plain laws of bytes: what a Reader takes off bytes that lie ahead. No program. -/
namespace Go.Proofs.YtljenganlknhbaaGreat.Oct
theorem takeR_app (a r : ByteArray) (n : Int) (hn : n = a.size) : takeR (a ++ r) false n = (a, r, false) := by
  unfold takeR
  have hs : (a ++ r).size = a.size + r.size := ByteArray.size_append
  rw [if_pos ⟨rfl, by omega, by omega⟩, hn, Int.toNat_natCast]
  refine Prod.ext ?_ (Prod.ext ?_ rfl)
  · exact ByteArray.extract_append_eq_left rfl
  · exact ByteArray.extract_append_eq_right rfl hs
theorem takeR_short (r : ByteArray) (b : Bool) (n : Int) (h : (r.size : Int) < n) : takeR r b n = (⟨#[]⟩, ⟨#[]⟩, true) := by
  unfold takeR
  rw [if_neg]
  rintro ⟨_, _, h3⟩
  omega
theorem val_le32 (n : Nat) (h : n < 4294967296) : val (le32 n) = n := by
  unfold le32 val val val val val
  simp only [UInt8.toNat_ofNat']
  omega
theorem bytes_app (l m : List UInt8) : (⟨(l ++ m).toArray⟩ : ByteArray) = ⟨l.toArray⟩ ++ ⟨m.toArray⟩ := by
  apply ByteArray.ext
  apply Array.ext'
  simp
theorem bytes_of (s : ByteArray) : (⟨s.data.toList.toArray⟩ : ByteArray) = s := by
  apply ByteArray.ext
  apply Array.ext'
  simp
theorem num_app (n : Nat) (r : ByteArray) : takeR (⟨(le32 n).toArray⟩ ++ r) false 4 = (⟨(le32 n).toArray⟩, r, false) := takeR_app _ r 4 rfl
theorem textR_app (s r : ByteArray) (most : Int) (h : (s.size : Int) ≤ most) (h32 : s.size < 4294967296) : textR (⟨(txt s.data.toList).toArray⟩ ++ r) false most = (s, r, false) := by
  have hl : s.data.toList.length = s.size := rfl
  have hm : s.size % 4294967296 = s.size := Nat.mod_eq_of_lt h32
  have e : (⟨(txt s.data.toList).toArray⟩ ++ r : ByteArray) = ⟨(le32 s.size).toArray⟩ ++ (s ++ r) := by
    unfold txt
    rw [hl, hm, bytes_app, bytes_of, ByteArray.append_assoc]
  rw [e]
  unfold textR
  have hv : val (takeR (⟨(le32 s.size).toArray⟩ ++ (s ++ r)) false 4).1.data.toList = s.size := by
    rw [num_app s.size]
    exact val_le32 _ h32
  rw [hv, if_neg (by omega), num_app s.size]
  exact takeR_app s r _ rfl
end Go.Proofs.YtljenganlknhbaaGreat.Oct

/- Readers and their writers: plain laws of bytes that are read back. A reader takes a state (what is left, whether it is bad) to a thing and a state. No program is walked. -/
namespace Go.Proofs.YtljenganlknhbaaGreat.Oct
set_option linter.unusedVariables false
abbrev RS := ByteArray × Bool
def spoilt : RS := (⟨#[]⟩, true)
def rNum (s : RS) : Int × RS := ((val (takeR s.1 s.2 4).1.data.toList : Nat), (takeR s.1 s.2 4).2)
def rTake (n : Int) (s : RS) : ByteArray × RS := takeR s.1 s.2 n
def rText (most : Int) (s : RS) : ByteArray × RS := textR s.1 s.2 most
/-- So many things, as long as all goes well. -/
def rList {α : Type} (one : RS → α × RS) : Nat → RS → List α × RS
  | 0, s => ([], s)
  | n + 1, s => if s.2 = true then ([], s) else ((one s).1 :: (rList one n (one s).2).1, (rList one n (one s).2).2)
/-- So many things as a number tells, at most most. -/
def rMany {α : Type} (one : RS → α × RS) (most : Int) (s : RS) : List α × RS :=
  rList one (rNum s).1.toNat (if most < (rNum s).1 then spoilt else (rNum s).2)
/-- A reader that reads back what en has written of what is ok, and reads nothing else. -/
structure Codec {α : Type} (one : RS → α × RS) (en : α → ByteArray) (ok : α → Prop) : Prop where
  back : ∀ s, (one s).2.2 = false → s.2 = false ∧ ok (one s).1 ∧ s.1 = en (one s).1 ++ (one s).2.1
  app : ∀ x r, ok x → one (en x ++ r, false) = (x, r, false)
theorem Codec.ext {α : Type} {one : RS → α × RS} {en : α → ByteArray} {ok : α → Prop} (h : Codec one en ok) {s : RS} (q : ByteArray) (hs : (one s).2.2 = false) : one (s.1 ++ q, false) = ((one s).1, (one s).2.1 ++ q, false) := by
  obtain ⟨_, h2, h3⟩ := h.back s hs
  have := h.app (one s).1 ((one s).2.1 ++ q) h2
  rw [← ByteArray.append_assoc, ← h3] at this
  exact this
theorem takeR_bad' (r : ByteArray) (n : Int) : takeR r true n = (⟨#[]⟩, ⟨#[]⟩, true) := if_neg (by simp)
theorem takeR_good' {r : ByteArray} {b : Bool} {n : Int} (h : (takeR r b n).2.2 = false) : b = false := by
  cases b
  · rfl
  · rw [takeR_bad'] at h; cases h
theorem takeR_back' {r : ByteArray} {b : Bool} {n : Int} (h : (takeR r b n).2.2 = false) : r = (takeR r b n).1 ++ (takeR r b n).2.1 ∧ ((takeR r b n).1.size : Int) = n := by
  unfold takeR at h ⊢
  split at h
  · next hc =>
    obtain ⟨hb, h0, hn⟩ := hc
    rw [if_pos ⟨hb, h0, hn⟩]
    simp only
    refine ⟨?_, ?_⟩
    · apply ByteArray.ext
      apply Array.ext'
      simp
    · rw [ByteArray.size_extract]
      omega
  · cases h
theorem four_bytes {t : ByteArray} (h : t.size = 4) : ∃ a b c d, t = ⟨#[a, b, c, d]⟩ := by
  have hl : t.data.toList.length = 4 := h
  match hm : t.data.toList, hl with
  | [a, b, c, d], _ =>
    refine ⟨a, b, c, d, ?_⟩
    apply ByteArray.ext
    apply Array.ext'
    exact hm
theorem le32_val {t : ByteArray} (h : t.size = 4) : (⟨(le32 (val t.data.toList)).toArray⟩ : ByteArray) = t := by
  obtain ⟨a, b, c, d, rfl⟩ := four_bytes h
  have h0 := a.toNat_lt
  have h1 := b.toNat_lt
  have h2 := c.toNat_lt
  have h3 := d.toNat_lt
  have e : le32 (val [a, b, c, d]) = [a, b, c, d] := by
    unfold le32
    simp only [val]
    refine List.cons_eq_cons.2 ⟨?_, List.cons_eq_cons.2 ⟨?_, List.cons_eq_cons.2 ⟨?_, List.cons_eq_cons.2 ⟨?_, rfl⟩⟩⟩⟩ <;>
      (apply UInt8.toNat_inj.1; rw [UInt8.toNat_ofNat']; omega)
  show (⟨(le32 (val [a, b, c, d])).toArray⟩ : ByteArray) = _
  rw [e]
/-- A number's bytes. -/
def enNum (n : Int) : ByteArray := ⟨(le32 n.toNat).toArray⟩
theorem codec_num : Codec rNum enNum (fun n => 0 ≤ n ∧ n < 4294967296) where
  back s h := by
    have hg := takeR_good' h
    obtain ⟨h1, h2⟩ := takeR_back' h
    have hv := val_takeR s.1 s.2
    refine ⟨hg, ⟨by unfold rNum; simp only; omega, by unfold rNum; simp only; omega⟩, ?_⟩
    unfold rNum enNum
    simp only [Int.toNat_natCast]
    rw [le32_val (by omega)]
    exact h1
  app n r h := by
    unfold rNum enNum
    simp only [num_app]
    rw [val_le32 _ (by omega)]
    exact Prod.ext (by simp only; omega) rfl
theorem codec_take (n : Nat) : Codec (rTake n) (fun s => s) (fun s => s.size = n) where
  back s h := by
    have hg := takeR_good' h
    obtain ⟨h1, h2⟩ := takeR_back' h
    exact ⟨hg, by unfold rTake; omega, h1⟩
  app s r h := takeR_app s r n (by omega)
def enText (s : ByteArray) : ByteArray := ⟨(txt s.data.toList).toArray⟩
theorem enText_eq (s : ByteArray) (h : s.size < 4294967296) : enText s = enNum s.size ++ s := by
  have hl : s.data.toList.length = s.size := rfl
  unfold enText txt enNum
  rw [hl, Nat.mod_eq_of_lt h, bytes_app, bytes_of]
  rfl
theorem codec_text (most : Nat) (hm : most < 4294967296) : Codec (rText most) enText (fun s => s.size ≤ most) where
  back s h := by
    unfold rText textR at h ⊢
    split at h
    · cases h
    · next hc =>
      rw [if_neg hc]
      have hg := takeR_good' h
      have hg2 := takeR_good' hg
      obtain ⟨h1, h2⟩ := takeR_back' hg
      obtain ⟨h3, h4⟩ := takeR_back' h
      refine ⟨hg2, by omega, ?_⟩
      rw [enText_eq _ (by omega)]
      have e : ((takeR (takeR s.1 s.2 4).2.1 (takeR s.1 s.2 4).2.2 (val (takeR s.1 s.2 4).1.data.toList)).1.size : Int).toNat = val (takeR s.1 s.2 4).1.data.toList := by omega
      unfold enNum
      rw [e, le32_val (by omega), ByteArray.append_assoc, ← h3]
      exact h1
  app s r h := by
    unfold rText
    exact textR_app s r most (by omega) (by omega)
theorem rList_bad {α : Type} (one : RS → α × RS) (n : Nat) (s : RS) (h : s.2 = true) : rList one n s = ([], s) := by
  cases n
  · rfl
  · rw [rList, if_pos h]
theorem rList_go {α : Type} (one : RS → α × RS) (n : Nat) (s : RS) (h : s.2 = false) : rList one (n + 1) s = ((one s).1 :: (rList one n (one s).2).1, (rList one n (one s).2).2) := by
  rw [rList, if_neg (by rw [h]; decide)]
/-- The bytes of things, one behind the other. -/
def enAll {α : Type} (en : α → ByteArray) : List α → ByteArray
  | [] => ⟨#[]⟩
  | x :: l => en x ++ enAll en l
theorem nil_app (a : ByteArray) : (⟨#[]⟩ : ByteArray) ++ a = a := by
  apply ByteArray.ext
  apply Array.ext'
  simp
theorem app_nil (a : ByteArray) : a ++ (⟨#[]⟩ : ByteArray) = a := by
  apply ByteArray.ext
  apply Array.ext'
  simp
theorem enAll_app {α : Type} (en : α → ByteArray) : ∀ (l m : List α), enAll en (l ++ m) = enAll en l ++ enAll en m
  | [], m => (nil_app _).symm
  | x :: l, m => by
    show en x ++ enAll en (l ++ m) = (en x ++ enAll en l) ++ enAll en m
    rw [enAll_app en l m, ByteArray.append_assoc]
theorem enAll_snoc {α : Type} (en : α → ByteArray) (l : List α) (x : α) : enAll en (l ++ [x]) = enAll en l ++ en x := by
  rw [enAll_app]
  show _ ++ (en x ++ ⟨#[]⟩) = _
  rw [app_nil]
theorem rList_back {α : Type} {one : RS → α × RS} {en : α → ByteArray} {ok : α → Prop} (h : Codec one en ok) : ∀ (n : Nat) (s : RS), (rList one n s).2.2 = false → s.2 = false ∧ (rList one n s).1.length = n ∧ (∀ x ∈ (rList one n s).1, ok x) ∧ s.1 = enAll en (rList one n s).1 ++ (rList one n s).2.1
  | 0, s, hs => ⟨hs, rfl, fun x hx => (by cases hx), (nil_app _).symm⟩
  | n + 1, s, hs => by
    by_cases hb : s.2 = true
    · rw [rList_bad one _ s hb] at hs
      rw [hb] at hs; cases hs
    · have hb' : s.2 = false := by simpa using hb
      rw [rList_go one n s hb'] at hs ⊢
      obtain ⟨h1, h2, h3, h4⟩ := rList_back h n (one s).2 hs
      obtain ⟨h5, h6, h7⟩ := h.back s h1
      refine ⟨hb', by simp [h2], fun x hx => ?_, ?_⟩
      · rcases List.mem_cons.1 hx with rfl | hx
        · exact h6
        · exact h3 x hx
      · show s.1 = (en (one s).1 ++ enAll en _) ++ _
        rw [ByteArray.append_assoc, ← h4]
        exact h7
theorem rList_app {α : Type} {one : RS → α × RS} {en : α → ByteArray} {ok : α → Prop} (h : Codec one en ok) : ∀ (l : List α) (r : ByteArray), (∀ x ∈ l, ok x) → rList one l.length (enAll en l ++ r, false) = (l, r, false)
  | [], r, _ => by
    show ([], ((⟨#[]⟩ : ByteArray) ++ r, false)) = _
    rw [nil_app]
  | x :: l, r, hl => by
    rw [List.length_cons, rList_go one _ _ rfl]
    have e : one (enAll en (x :: l) ++ r, false) = (x, enAll en l ++ r, false) := by
      show one ((en x ++ enAll en l) ++ r, false) = _
      rw [ByteArray.append_assoc]
      exact h.app x _ (hl x (by simp))
    rw [e]
    have := rList_app h l r fun y hy => hl y (by simp [hy])
    simp only [this]
def enMany {α : Type} (en : α → ByteArray) (l : List α) : ByteArray := enNum l.length ++ enAll en l
theorem codec_many {α : Type} {one : RS → α × RS} {en : α → ByteArray} {ok : α → Prop} (h : Codec one en ok) (most : Nat) (hm : most < 4294967296) : Codec (rMany one most) (enMany en) (fun l => l.length ≤ most ∧ ∀ x ∈ l, ok x) where
  back s hs := by
    unfold rMany at hs ⊢
    obtain ⟨h1, h2, h3, h4⟩ := rList_back h _ _ hs
    have hc : ¬ (most : Int) < (rNum s).1 := fun hc => by rw [if_pos hc] at h1; cases h1
    rw [if_neg hc] at h1 h2 h3 h4 ⊢
    obtain ⟨h5, h6, h7⟩ := codec_num.back s h1
    refine ⟨h5, ⟨by omega, h3⟩, ?_⟩
    unfold enMany
    rw [h2, ByteArray.append_assoc, ← h4]
    have e : (((rNum s).1.toNat : Nat) : Int) = (rNum s).1 := by omega
    rw [e]
    exact h7
  app l r hl := by
    unfold rMany enMany
    rw [ByteArray.append_assoc, codec_num.app _ _ ⟨by omega, by omega⟩]
    simp only
    rw [if_neg (by omega), Int.toNat_natCast]
    exact rList_app h l r hl.2
/-- One reader behind another one. -/
theorem Codec.seq {α β : Type} {one : RS → α × RS} {en : α → ByteArray} {ok : α → Prop} {two : RS → β × RS} {en2 : β → ByteArray} {ok2 : β → Prop} (h : Codec one en ok) (k : Codec two en2 ok2) :
    Codec (fun s => (((one s).1, (two (one s).2).1), (two (one s).2).2)) (fun p : α × β => en p.1 ++ en2 p.2) (fun p => ok p.1 ∧ ok2 p.2) where
  back s hs := by
    obtain ⟨h1, h2, h3⟩ := k.back _ hs
    obtain ⟨h4, h5, h6⟩ := h.back s h1
    refine ⟨h4, ⟨h5, h2⟩, ?_⟩
    show s.1 = (en (one s).1 ++ en2 _) ++ _
    rw [ByteArray.append_assoc, ← h3]
    exact h6
  app p r hp := by
    obtain ⟨x, y⟩ := p
    show (((one ((en x ++ en2 y) ++ r, false)).1, _), _) = _
    have e : one ((en x ++ en2 y) ++ r, false) = (x, en2 y ++ r, false) := by rw [ByteArray.append_assoc]; exact h.app x _ hp.1
    have e2 := k.app y r hp.2
    simp only [e, e2]
/-- The same in other words. -/
theorem Codec.map {α β : Type} {one : RS → α × RS} {en : α → ByteArray} {ok : α → Prop} (h : Codec one en ok) (f : α → β) (g : β → α) {one' : RS → β × RS} {en' : β → ByteArray} {ok' : β → Prop}
    (h1 : ∀ s, one' s = (f (one s).1, (one s).2)) (h2 : ∀ x, ok x → ok' (f x) ∧ en' (f x) = en x) (h3 : ∀ y, ok' y → ok (g y) ∧ f (g y) = y) : Codec one' en' ok' where
  back s hs := by
    rw [h1] at hs ⊢
    obtain ⟨a, b, c⟩ := h.back s hs
    obtain ⟨d, e⟩ := h2 _ b
    exact ⟨a, d, by rw [e]; exact c⟩
  app y r hy := by
    obtain ⟨a, b⟩ := h3 y hy
    have := h.app (g y) r a
    rw [h1]
    obtain ⟨_, e⟩ := h2 _ a
    rw [b] at e
    rw [e, this]
    simp only [b]
end Go.Proofs.YtljenganlknhbaaGreat.Oct

/- The reference's Reader, walked: the same plain functions as the program's own (takeR, textR, val). Condition: at most 2^47 bytes. -/
namespace Go.Proofs.YtljenganlknhbaaGreat.Oct
open Go.RowKit
/-- The reference's Reader at g stands ahead of the bytes r; b: whether it is bad. -/
def RRd (w : World) (g : Nat) (r : ByteArray) (b : Bool) : Prop :=
  ∃ (S : ByteArray) (at_ : Nat), BlkIs w g 81 #[.string S, .int .i64 at_, .bool b] ∧ at_ ≤ S.size ∧ (S.size : Int) ≤ 140737488355328 ∧ r = if b then ⟨#[]⟩ else S.extract at_ S.size
theorem RRd.lt {w : World} {g : Nat} {r : ByteArray} {b : Bool} (h : RRd w g r b) : g < w.heap.size := by obtain ⟨S, a, h, _⟩ := h; exact h.lt
theorem RRd.below {w w' : World} {g B : Nat} {r : ByteArray} {b : Bool} (h : RRd w g r b) (hb : Below B w w') (hg : g < B) : RRd w' g r b := by
  obtain ⟨S, a, h, h1⟩ := h
  exact ⟨S, a, h.below hb hg, h1⟩
theorem rrd_new (s : ByteArray) (w : World) (hs : (s.size : Int) ≤ 140737488355328) : Calls Tryz.prog 56 #[.string s] w fun e w' => e = .returned (.pointer (some ⟨w.heap.size, 0, none⟩)) ∧ RRd w' w.heap.size s false ∧ Below w.heap.size w w' := by
  go_enter Tryz.func56, Tryz.ntmps56
  go_wp2_with fail
  go_ret
  exact ⟨rfl, ⟨s, 0, BlkIs.new _ _ _, Nat.zero_le _, hs, by simp⟩, (Below.refl _ _).alloc (Nat.le_refl _) _⟩
theorem ret_bool {a b : Bool} (h : a = b) : Ending.returned (.bool a) = .returned (.bool b) := by rw [h]
theorem rrd_whole (g : Nat) (r : ByteArray) (b : Bool) (w : World) (h : RRd w g r b) : Calls Tryz.prog 63 #[.pointer (some ⟨g, 0, none⟩)] w fun e w' => e = .returned (.bool (!b && decide (r.size = 0))) ∧ Below w.heap.size w w' := by
  obtain ⟨S, a, hb, ha, hs, hr⟩ := h
  have d0 : w.cell? ⟨g, 0, none⟩ = some (.string S) := hb.cell 0
  have d1 : w.cell? ⟨g, 1, none⟩ = some (.int .i64 a) := hb.cell 1
  have d2 : w.cell? ⟨g, 2, none⟩ = some (.bool b) := hb.cell 2
  have Hr := Lib.hid hr
  clear hr hb
  go_enter Tryz.func63, Tryz.ntmps63
  cases b
  · go_wp2_with fail
    go_quiet (fail)
    go_wp2_with fail
    go_ret
    refine ⟨?_, below_drewN (Below.refl _ _) _⟩
    rw [Hr.out]
    have hz : (S.extract a S.size).size = S.size - a := by simp
    rw [if_neg (by decide), hz]
    refine ret_bool ?_
    rw [Bool.not_false, Bool.true_and, Bool.eq_iff_iff]
    simp
    omega
  · go_wp2_with fail
    go_quiet (fail)
    go_wp2_with fail
    go_ret
    exact ⟨by simp, below_drewN (Below.refl _ _) _⟩
theorem rrd_take (g : Nat) (r : ByteArray) (b : Bool) (n : Int) (w : World) (h : RRd w g r b) (hn : n ≤ 140737488355328) :
    Calls Tryz.prog 58 #[.pointer (some ⟨g, 0, none⟩), .int .i64 n] w fun e w' => e = .returned (.string (takeR r b n).1) ∧ RRd w' g (takeR r b n).2.1 (takeR r b n).2.2 ∧ Moved g w w' := by
  obtain ⟨S, a, hb, ha, hs, hr⟩ := h
  have d0 : w.cell? ⟨g, 0, none⟩ = some (.string S) := hb.cell 0
  have d1 : w.cell? ⟨g, 1, none⟩ = some (.int .i64 a) := hb.cell 1
  have d2 : w.cell? ⟨g, 2, none⟩ = some (.bool b) := hb.cell 2
  have f1 := hb.free 1
  have f2 := hb.free 2
  have Hr := Lib.hid hr
  have Hb := Lib.hid hb
  clear hr hb
  have hbad : ∀ w', DrawsOf w w' → takeR r b n = (⟨#[]⟩, ⟨#[]⟩, true) → RRd (w'.setCell ⟨g, 2, none⟩ (.bool true)) g (takeR r b n).2.1 (takeR r b n).2.2 ∧ Moved g w (w'.setCell ⟨g, 2, none⟩ (.bool true)) := fun w' hd ht => by
    rw [ht]
    refine ⟨⟨S, a, ?_, ha, hs, rfl⟩, (Moved.of_below (hd.below _)).setCell (p := ⟨g, 2, none⟩) rfl _⟩
    have := (hd.blk Hb.out).put 2 (.bool true)
    simpa using this
  have Hbad := Lib.hid hbad
  clear hbad
  cases b
  case true =>
    have ht : takeR r true n = (⟨#[]⟩, ⟨#[]⟩, true) := by unfold takeR; rw [if_neg (by simp)]
    go_enter Tryz.func58, Tryz.ntmps58
    go_wp2_with fail
    go_quiet (fail)
    have e0 : (w.drewN nq).cell? ⟨g, 2, none⟩ = some (.bool true) := by rw [World.cell?_drewN]; exact d2
    go_wp2_with fail
    go_ret
    have := Hbad.out _ ((DrawsOf.refl w).drewN nq) ht
    rw [ht] at this ⊢
    exact ⟨rfl, this⟩
  case false =>
    have hrz : r = S.extract a S.size := by rw [Hr.out]; rfl
    have hsz : r.size = S.size - a := by rw [hrz]; simp
    by_cases hc : 0 ≤ n ∧ n ≤ (r.size : Int)
    case neg =>
      have ht : takeR r false n = (⟨#[]⟩, ⟨#[]⟩, true) := by unfold takeR; rw [if_neg (by simp; omega)]
      by_cases h0 : n < 0
      · clear hsz hrz hc
        go_enter Tryz.func58, Tryz.ntmps58
        go_wp2_with fail
        go_quiet (fail)
        have e0 : (w.drewN nq).cell? ⟨g, 2, none⟩ = some (.bool false) := by rw [World.cell?_drewN]; exact d2
        go_wp2_with fail
        go_ret
        have := Hbad.out _ ((DrawsOf.refl w).drewN nq) ht
        rw [ht] at this ⊢
        exact ⟨rfl, this⟩
      · have h1 : 0 ≤ n := by omega
        have h2 : (S.size : Int) - a < n := by omega
        have h3 : decide (n < 0) = false := decide_eq_false (by omega)
        clear hsz hrz hc h0
        go_enter Tryz.func58, Tryz.ntmps58
        go_wp2_with fail
        go_quiet (fail)
        have e0 : (w.drewN nq).cell? ⟨g, 2, none⟩ = some (.bool false) := by rw [World.cell?_drewN]; exact d2
        go_wp2_with fail
        go_ret
        have := Hbad.out _ ((DrawsOf.refl w).drewN nq) ht
        rw [ht] at this ⊢
        exact ⟨rfl, this⟩
    case pos =>
      obtain ⟨m, rfl⟩ := Int.eq_ofNat_of_zero_le hc.1
      have hm : a + m ≤ S.size := by omega
      have hmi : (a : Int) + m ≤ S.size := by omega
      have ht : takeR r false m = (S.extract a (a + m), S.extract (a + m) S.size, false) := by
        unfold takeR
        rw [if_pos ⟨rfl, hc⟩, hrz]
        refine Prod.ext ?_ (Prod.ext ?_ rfl)
        · show (S.extract a S.size).extract 0 ((m : Int)).toNat = S.extract a (a + m)
          rw [ByteArray.extract_extract, Int.toNat_natCast, Nat.add_zero, Nat.min_eq_left hm]
        · show (S.extract a S.size).extract ((m : Int)).toNat (S.extract a S.size).size = S.extract (a + m) S.size
          rw [ByteArray.extract_extract, Int.toNat_natCast, ← hrz, hsz, show min (a + (S.size - a)) S.size = S.size by omega]
      have h1 : (0 : Int) ≤ (m : Int) := by omega
      have h2 : (m : Int) ≤ (S.size : Int) - a := by omega
      have h3 : decide ((m : Int) < 0) = false := decide_eq_false (by omega)
      have ha0 : (a : Int) ≤ (a : Int) + m := by omega
      have ha1 : (a : Int) + m ≤ 140737488355328 := by omega
      clear hsz hrz hc Hbad
      rw [ht]
      clear ht
      go_enter Tryz.func58, Tryz.ntmps58
      go_wp2_with fail
      go_quiet (fail)
      go_wp2_with fail
      go_quiet (fail)
      go_wp2_with fail
      go_ret
      refine ⟨rfl, ⟨S, a + m, ?_, hm, hs, rfl⟩, (Moved.of_below (((DrawsOf.refl w).drewN _).below _)).setCell (p := ⟨g, 1, none⟩) rfl _⟩
      have hd : ∀ N, BlkIs ((w.drewN N).setCell ⟨g, 1, none⟩ (.int .i64 ((a : Int) + m))) g 81 #[.string S, .int .i64 ((a + m : Nat) : Int), .bool false] := fun N => by
        have := (((DrawsOf.refl w).drewN N).blk Hb.out).put 1 (.int .i64 ((a : Int) + m))
        simpa using this
      exact hd _
theorem addn (x0 x1 x2 x3 : UInt8) : ((x0.toNat : Int) + (x1.toNat : Int) % 4294967296 * 256 + (x2.toNat : Int) % 4294967296 * 65536 + (x3.toNat : Int) % 4294967296 * 16777216) % 4294967296 = ((val [x0, x1, x2, x3] : Nat) : Int) := by
  have h0 := x0.toNat_lt
  have h1 := x1.toNat_lt
  have h2 := x2.toNat_lt
  have h3 := x3.toNat_lt
  simp only [val]
  omega
theorem rrd_num (g : Nat) (r : ByteArray) (b : Bool) (w : World) (h : RRd w g r b) :
    Calls Tryz.prog 57 #[.pointer (some ⟨g, 0, none⟩)] w fun e w' => e = .returned (.int .u32 (val (takeR r b 4).1.data.toList)) ∧ RRd w' g (takeR r b 4).2.1 (takeR r b 4).2.2 ∧ Moved g w w' := by
  have Ht := Lib.hid (rrd_take g r b 4 w h (by decide))
  have hgw := h.lt
  clear h
  have hc : ((takeR r b 4).1 = ⟨#[]⟩ ∧ (takeR r b 4).2.2 = true) ∨ ∃ x0 x1 x2 x3, (takeR r b 4).1 = ⟨#[x0, x1, x2, x3]⟩ ∧ (takeR r b 4).2.2 = false := by
    by_cases hq : b = false ∧ 0 ≤ (4 : Int) ∧ (4 : Int) ≤ (r.size : Int)
    · right
      rcases takeR_cases r b with h | ⟨x0, x1, x2, x3, h⟩
      · exfalso
        have : (takeR r b 4).1.size = 0 := by rw [h]; rfl
        unfold takeR at this
        rw [if_pos hq] at this
        have h4 : (r.extract 0 (4 : Int).toNat).size = 0 := this
        rw [ByteArray.size_extract, show (4 : Int).toNat = 4 from rfl] at h4
        omega
      · exact ⟨x0, x1, x2, x3, h, by unfold takeR; rw [if_pos hq]⟩
    · left
      unfold takeR
      rw [if_neg hq]
      exact ⟨rfl, rfl⟩
  generalize takeR r b 4 = q at *
  obtain ⟨t, r1, b1⟩ := q
  simp only at hc Ht ⊢
  go_enter Tryz.func57, Tryz.ntmps57
  go_wp2_with fail
  refine Ht.out.mono ?_
  rintro e w1 ⟨rfl, h1, hb1⟩
  have H1 := Lib.hid (And.intro h1 hb1)
  obtain ⟨S, a, hb, -⟩ := h1
  have d2 : w1.cell? ⟨g, 2, none⟩ = some (.bool b1) := hb.cell 2
  clear hb hb1 Ht
  rcases hc with ⟨rfl, rfl⟩ | ⟨x0, x1, x2, x3, rfl, rfl⟩
  · go_wp2_with fail
    go_ret
    exact ⟨rfl, H1.out⟩
  · go_wp2_with fail
    go_quiet (fail)
    go_wp2_with fail
    go_ret
    refine ⟨ret_int ?_, H1.out.1.below (below_drewN (Below.refl w1.heap.size w1) _) H1.out.1.lt, H1.out.2.trans (.of_below (below_drewN (Below.refl _ _) _))⟩
    exact addn x0 x1 x2 x3
set_option maxRecDepth 100000 in
theorem rrd_text (g : Nat) (r : ByteArray) (b : Bool) (most : Int) (w : World) (h : RRd w g r b) :
    Calls Tryz.prog 61 #[.pointer (some ⟨g, 0, none⟩), .int .i64 most] w fun e w' => e = .returned (.string (textR r b most).1) ∧ RRd w' g (textR r b most).2.1 (textR r b most).2.2 ∧ Moved g w w' := by
  have Hn := Lib.hid (rrd_num g r b w h)
  have hv := val_takeR r b
  obtain ⟨q, hq⟩ : ∃ q, q = takeR r b 4 := ⟨_, rfl⟩
  have ht : textR r b most = if most < (val q.1.data.toList : Int) then (⟨#[]⟩, ⟨#[]⟩, true) else takeR q.2.1 q.2.2 (val q.1.data.toList) := by rw [hq]; rfl
  rw [← hq] at Hn hv
  generalize textR r b most = z at *
  obtain ⟨t0, r1, b1⟩ := q
  simp only at Hn hv ht
  generalize val t0.data.toList = v at *
  have hv' : (v : Int) < 4294967296 := by omega
  have hgw := h.lt
  clear h hv hq
  go_enter Tryz.func61, Tryz.ntmps61
  go_wp2_with fail
  refine Hn.out.mono ?_
  rintro e w1 ⟨rfl, h1, hb1⟩
  have H1 := Lib.hid (And.intro h1 hb1)
  by_cases hm : most < (v : Int)
  · rw [if_pos hm] at ht
    obtain ⟨S, a, hb, h2, h3, -⟩ := h1
    have d2 : w1.cell? ⟨g, 2, none⟩ = some (.bool b1) := hb.cell 2
    have f2 := hb.free 2
    have hb3 : RRd (w1.setCell ⟨g, 2, none⟩ (.bool true)) g ⟨#[]⟩ true := by
      refine ⟨S, a, ?_, h2, h3, rfl⟩
      have := hb.put 2 (.bool true)
      simpa using this
    have hbb := hb1.setCell (p := ⟨g, 2, none⟩) rfl (.bool true)
    have H3 := Lib.hid (And.intro hb3 hbb)
    have Ht := Lib.hid ht
    clear hb hb3 hbb hb1 ht
    go_wp2_with fail
    refine (rrd_take g ⟨#[]⟩ true v _ H3.out.1 (by omega)).mono ?_
    rintro e w4 ⟨rfl, h4, hb4⟩
    have ht4 : takeR ⟨#[]⟩ true v = (⟨#[]⟩, ⟨#[]⟩, true) := by unfold takeR; rw [if_neg (by simp)]
    rw [ht4] at h4 ⊢
    have H4 := Lib.hid (And.intro h4 (H3.out.2.trans hb4))
    clear h4 hb4
    go_wp2_with fail
    go_ret
    rw [Ht.out]
    exact ⟨rfl, H4.out⟩
  · rw [if_neg hm] at ht
    have hc1 : decide (most < (v : Int)) = false := by simp; omega
    have Ht := Lib.hid ht
    clear hm ht h1 hb1
    go_wp2_with fail
    refine (rrd_take g r1 b1 v _ H1.out.1 (by omega)).mono ?_
    rw [← Ht.out]
    rintro e w4 ⟨rfl, h4, hb4⟩
    have H4 := Lib.hid (And.intro h4 (H1.out.2.trans hb4))
    clear h4 hb4
    go_wp2_with fail
    go_ret
    exact ⟨rfl, H4.out⟩
end Go.Proofs.YtljenganlknhbaaGreat.Oct

/- The reference's Num and Text (octets), walked: the same bytes as the program's. Condition: the text's length is within the form's reach. -/
namespace Go.Proofs.YtljenganlknhbaaGreat.Oct
open Go.RowKit
set_option maxRecDepth 100000 in
theorem ref_num (n : Nat) (w : World) : Calls Tryz.prog 75 #[.int .u32 n] w fun e w' => e = .returned (.string ⟨(le32 n).toArray⟩) ∧ Below w.heap.size w w' := by
  have ht : (convert 43 9 (.slice (some ⟨w.heap.size, 0, none⟩) 4 4)).run Tryz.prog (w.alloc (.cells #[.int .u8 ((n : Int) % 256), .int .u8 ((n : Int) / 256 % 256), .int .u8 ((n : Int) / 65536 % 256), .int .u8 ((n : Int) / 16777216 % 256)] 5)) =
      .ok (.string ⟨(le32 n).toArray⟩) (w.alloc (.cells #[.int .u8 ((n : Int) % 256), .int .u8 ((n : Int) / 256 % 256), .int .u8 ((n : Int) / 65536 % 256), .int .u8 ((n : Int) / 16777216 % 256)] 5)) := by
    refine run_convert_bytes_back _ 43 9 5 ⟨w.heap.size, 0, none⟩ 4 (le32 n) Tryz.underlying43 Tryz.underlying5 Tryz.underlying9 fun j hj => ?_
    have e : (bcells (le32 n))[j]? = some (.int .u8 ((le32 n)[j]).toNat) := by rw [bcells, List.getElem?_map, List.getElem?_eq_getElem hj]; rfl
    rw [Addr.add_lit, (BlkIs.new w 5 _).cell, ← e, ← lecells]
    simp [lecell]
  have hb := Lib.hid ((Below.refl w.heap.size w).alloc (Nat.le_refl _) (.cells #[.int .u8 ((n : Int) % 256), .int .u8 ((n : Int) / 256 % 256), .int .u8 ((n : Int) / 65536 % 256), .int .u8 ((n : Int) / 16777216 % 256)] 5))
  go_enter Tryz.func75, Tryz.ntmps75
  go_wp2_with fail
  go_ret
  exact ⟨rfl, hb.out⟩
theorem ref_text (s : ByteArray) (w : World) (hs : s.size ≤ 140737488355328) : Calls Tryz.prog 73 #[.string s] w fun e w' => e = .returned (.string ⟨(txt s.data.toList).toArray⟩) ∧ Below w.heap.size w w' := by
  obtain ⟨m, hm⟩ : ∃ m : Nat, m = s.size % 4294967296 := ⟨_, rfl⟩
  have hw : IntKind.u32.wrap (s.size : Int) = (m : Int) := by rw [hm, IntKind.wrap_u32]; omega
  have Hm := Lib.hid hm
  have hn := ref_num m
  obtain ⟨S, hS⟩ : ∃ S : ByteArray, S = ⟨(le32 m).toArray⟩ := ⟨_, rfl⟩
  have hS4 : S.size = 4 := by rw [hS]; rfl
  rw [← hS] at hn
  have Hn := Lib.hid hn
  have HS := Lib.hid hS
  clear hm hn hS
  have hsi : (s.size : Int) ≤ 140737488355328 := by omega
  go_enter Tryz.func73, Tryz.ntmps73
  go_wp2_with fail
  refine (Hn.out _).mono ?_
  rintro e w1 ⟨rfl, hb1⟩
  go_wp2_with fail
  go_ret
  refine ⟨?_, hb1⟩
  have e1 : s.data.toList.length = s.size := rfl
  simp only [txt, e1, ← Hm.out, HS.out]
  congr 2
end Go.Proofs.YtljenganlknhbaaGreat.Oct

