/- object.Encode of trees, walked. Conditions: the entries can be a tree's. -/
import Derived.Test.YtmdchfmcghiaeaaDec
import Derived.Test.YtmdchfmcghiaeaaBldKeep
import Derived.Deep.Cut
import Derived.Deep.CutBlock
import Derived.Deep.AppendLies
namespace Go.Proofs.Ytmdchfmcghiaeaa.Obj
open Go.RowKit
/-- The bytes of one entry, and of the first n. -/
def entB (nm : ByteArray) (kd : Int) (id : ByteArray) : List UInt8 := UInt8.ofNat kd.toNat :: (Oct.txt nm.data.toList ++ id.data.toList)
def entsB (nm : Nat → ByteArray) (kd : Nat → Int) (id : Nat → ByteArray) : Nat → List UInt8
  | 0 => []
  | k + 1 => entsB nm kd id k ++ entB (nm k) (kd k) (id k)
def treeB (n : Nat) (nm : Nat → ByteArray) (kd : Nat → Int) (id : Nat → ByteArray) : List UInt8 := 2 :: (Oct.le32 n ++ entsB nm kd id n)
theorem nameOk_size {s : ByteArray} (h : Path.nameOk s = true) : (s.size : Int) ≤ 255 := by
  unfold Path.nameOk at h
  simp only [Bool.and_eq_true, decide_eq_true_eq] at h
  exact h.1.1.2
theorem entsOk_at {nm : Nat → ByteArray} {kd : Nat → Int} {id : Nat → ByteArray} : ∀ {n k : Nat}, entsOk nm kd id n = true → k < n → entOk (nm k) (kd k) (id k) = true
  | n + 1, k, h, hk => by
    rw [entsOk, Bool.and_eq_true] at h
    rcases Nat.lt_or_ge k n with h' | h'
    · exact entsOk_at h.1 h'
    · obtain rfl : k = n := by omega
      exact h.2
theorem entB_length {nm : ByteArray} {kd : Int} {id : ByteArray} (h : entOk nm kd id = true) : (entB nm kd id).length ≤ 292 := by
  unfold entOk at h
  simp only [Bool.and_eq_true, beq_iff_eq] at h
  have h1 := nameOk_size h.1.1
  have h2 : id.data.toList.length = id.size := rfl
  have h3 : nm.data.toList.length = nm.size := rfl
  unfold entB Oct.txt
  simp only [List.length_cons, List.length_append, Oct.le32_length]
  omega
theorem entsB_length {nm : Nat → ByteArray} {kd : Nat → Int} {id : Nat → ByteArray} : ∀ {n : Nat}, entsOk nm kd id n = true → (entsB nm kd id n).length ≤ 292 * n
  | 0, _ => by simp [entsB]
  | n + 1, h => by
    have h' := h
    rw [entsOk, Bool.and_eq_true] at h'
    have h1 := entsB_length h'.1
    have h2 := entB_length h'.2
    rw [entsB, List.length_append]
    omega
set_option maxRecDepth 100000 in
set_option maxHeartbeats 600000 in
theorem encode_tree (d : ByteArray) (ao : Option Addr) (n cap : Nat) (nm : Nat → ByteArray) (kd : Nat → Int) (id : Nat → ByteArray) (t : ByteArray) (ps : Value) (h : Int) (nt : ByteArray) (w : World) (he : EntsAt w ao n nm kd id) (hok : treeOk n nm kd id = true) :
    Calls Try.prog 28 #[obj 2 d (.slice ao n cap) t ps h nt] w fun e w' => e = .returned (.tuple #[.string ⟨(treeB n nm kd id).toArray⟩, .int .i64 0]) ∧ Below w.heap.size w w' := by
  have hok' := hok
  unfold treeOk at hok'
  simp only [Bool.and_eq_true, decide_eq_true_eq] at hok'
  have hn := hok'.1.2
  have Hok := Lib.hid hok'.1.1
  have hg : ∀ w1 : World, EntsAt w1 ao n nm kd id → Calls Try.prog 29 #[obj 2 d (.slice ao n cap) t ps h nt] w1 fun e w' => e = .returned (.bool true) ∧ Below w1.heap.size w1 w' := fun w1 h1 => by
    have := good_tree d (.slice ao n cap) t ps h nt w1 _ fun w2 hb => tree_any ao n cap nm kd id w2 (h1.later hb) (by omega)
    rw [hok] at this
    exact this
  have Hg := Lib.hid hg
  have hnum := Oct.num n
  have Hnum := Lib.hid hnum
  have hb0 := (Below.refl w.heap.size w).alloc (Nat.le_refl _) (.cells #[.int .i64 2, .string d, .slice ao n cap, .string t, ps, .int .i64 h, .string nt] 34)
  have He := Lib.hid he
  have He0 := Lib.hid (he.later hb0)
  have Hb0 := Lib.hid hb0
  clear hg hnum he hok hok' hb0
  unfold obj at *
  go_enter Try.func28, Try.ntmps28
  go_wp2_with fail
  refine (Hg.out _ He0.out).mono ?_
  rintro e w1 ⟨rfl, hb1⟩
  have hb := Hb0.out.trans (hb1.mono (by simp))
  have hblk := (BlkIs.new w 34 #[.int .i64 2, .string d, .slice ao n cap, .string t, ps, .int .i64 h, .string nt]).below hb1 (by simp)
  have hlt := hblk.lt
  have d0 : w1.cell? ⟨w.heap.size, 0, none⟩ = some (.int .i64 2) := hblk.cell 0
  have H1 := Lib.hid (And.intro hblk hb)
  clear hb1 hb hblk
  go_wp2_with fail
  have hw1 := H1.out.2.size
  refine (Bld.writeByte w1.heap.size w1.heap.size [] 2 _ (Bld.Is.new _) (by decide) (by simp)).mono ?_
  rintro e w2 ⟨rfl, h2, hb2⟩
  have hb2' := (((Below.refl w1.heap.size w1).alloc (Nat.le_refl _) _).trans hb2)
  have hblk2 := H1.out.1.below hb2' hlt
  have e0 : w2.cell? ⟨w.heap.size, 0, none⟩ = some (.int .i64 2) := hblk2.cell 0
  have e2 : w2.cell? ⟨w.heap.size, 2, none⟩ = some (.slice ao n cap) := hblk2.cell 2
  have H2 := Lib.hid (And.intro h2 (And.intro hblk2 (H1.out.2.trans (hb2'.mono hw1))))
  have hz2 := hb2'.size
  have hz2' : w1.heap.size < w2.heap.size := by have := hb2.size; simp only [World.size_alloc] at this; omega
  clear h2 hb2 hb2' hblk2 d0
  go_wp2_with fail
  refine (Hnum.out w2).mono ?_
  rintro e w3 ⟨rfl, hb3⟩
  have hblk3 := H2.out.2.1.below hb3 H2.out.2.1.lt
  have H3 := Lib.hid (And.intro (H2.out.1.later hb3) (And.intro hblk3 (H2.out.2.2.trans (hb3.mono (Nat.le_trans hw1 hz2)))))
  have hz3 := hb3.size
  clear hb3 e0 e2 hblk3
  go_wp2_with fail
  refine (Bld.writeString w1.heap.size w1.heap.size _ _ w3 H3.out.1 (by show ([] ++ [2] : List UInt8).length + (Oct.le32 n).length ≤ _; rw [Oct.le32_length]; decide) (by omega)).mono ?_
  rintro e w4 ⟨rfl, h4, hb4⟩
  have hblk4 := H3.out.2.1.below hb4 hlt
  have e2 : w4.cell? ⟨w.heap.size, 2, none⟩ = some (.slice ao n cap) := hblk4.cell 2
  have hz4 := hb4.size
  have H4 := Lib.hid (And.intro h4 (H3.out.2.2.trans (hb4.mono hw1)))
  clear h4 hb4 hblk4
  have hm := He.out.1
  go_wp2_with fail
  clear e2
  go_loopw [32] (fun i wr => ∃ k : Nat, i = .int .i64 (k : Int) ∧ k ≤ n ∧ Bld.Is wr w1.heap.size w1.heap.size (2 :: (Oct.le32 n ++ entsB nm kd id k)) ∧ Below w.heap.size w wr ∧ w1.heap.size < wr.heap.size) (fun i _ => ((n : Int) - intOf i).toNat)
  case atStart => exact ⟨0, rfl, by omega, by have := H4.out.1; simpa [entsB] using this, H4.out.2, by omega⟩
  case round =>
    obtain ⟨k, rfl, hk, hB, hbw, hzr⟩ := hrel
    have H := Lib.hid (And.intro hB hbw)
    clear hB hbw
    rcases Nat.lt_or_ge k n with hk1 | hk1
    case inr =>
      obtain rfl : k = n := by omega
      have ki : (k : Int) ≤ (k : Int) := by omega
      go_wp2_with fail
      refine (Bld.string w1.heap.size w1.heap.size _ _ H.out.1 (by simp)).mono ?_
      rintro e w5 ⟨rfl, hb5⟩
      have hb6 := H.out.2.trans (hb5.mono hw1)
      clear hb5
      go_wp2_with fail
      go_ret2
      exact ⟨rfl, hb6⟩
    case inl =>
      obtain ⟨b, off, rfl, hbb, hcell⟩ := He.out.2 (by omega)
      have c0 : wr.cell? ⟨b, off + k * 3, none⟩ = some (.string (nm k)) := by rw [H.out.2.cell hbb]; exact (hcell k hk1).1
      have c1 : wr.cell? ⟨b, off + k * 3 + 1, none⟩ = some (.int .i64 (kd k)) := by rw [H.out.2.cell hbb]; exact (hcell k hk1).2.1
      have c2 : wr.cell? ⟨b, off + k * 3 + 2, none⟩ = some (.string (id k)) := by rw [H.out.2.cell hbb]; exact (hcell k hk1).2.2
      have ki : (k : Int) < n := by omega
      have hent := entsOk_at Hok.out hk1
      have hel := entB_length hent
      have hpre : entsOk nm kd id k = true := by
        cases hx : entsOk nm kd id k
        · have := entsOk_false nm kd id k (n - k) hx
          rw [show k + (n - k) = n by omega, Hok.out] at this
          cases this
        · rfl
      have hlen := entsB_length hpre
      have hkd : kd k = 1 ∨ kd k = 2 := by
        unfold entOk at hent
        simp only [Bool.and_eq_true, Bool.or_eq_true, beq_iff_eq] at hent
        exact hent.1.2
      have hns : ((nm k).size : Int) ≤ 255 := by
        unfold entOk at hent
        simp only [Bool.and_eq_true] at hent
        exact nameOk_size hent.1.1
      have his : (id k).size = 32 := by
        unfold entOk at hent
        simp only [Bool.and_eq_true, beq_iff_eq] at hent
        have := hent.2
        omega
      have Hl := Lib.hid (And.intro hel (And.intro hlen (And.intro hns his)))
      clear hcell hent hel hpre hlen hns his
      obtain ⟨S, hS⟩ : ∃ S : ByteArray, S = ⟨(Oct.txt (nm k).data.toList).toArray⟩ := ⟨_, rfl⟩
      have hT := fun w => Oct.text (nm k) w (by have := Hl.out.2.2.1; omega)
      rw [← hS] at hT
      have HT := Lib.hid hT
      have hSs : S.size = 4 + (nm k).size := by rw [hS]; show (Oct.le32 _ ++ (nm k).data.toList).length = _; rw [List.length_append, Oct.le32_length]; rfl
      have hSi : (S.size : Int) ≤ 259 := by have := Hl.out.2.2.1; omega
      have hIi : ((id k).size : Int) = 32 := by have := Hl.out.2.2.2; omega
      have HS := Lib.hid hS
      have Hss := Lib.hid hSs
      clear hS hT hSs
      have hnext : entsB nm kd id (k + 1) = entsB nm kd id k ++ (UInt8.ofNat (kd k).toNat :: (S.data.toList ++ (id k).data.toList)) := by
        rw [entsB, entB, HS.out]
      have Hnx := Lib.hid hnext
      clear hnext
      have hlow := (H.out.1).later ((Below.refl wr.heap.size wr).alloc (Nat.le_refl _) (.cells #[.string (nm k), .int .i64 (kd k), .string (id k)] 55))
      have hbw2 := H.out.2.alloc H.out.2.size (.cells #[.string (nm k), .int .i64 (kd k), .string (id k)] 55)
      have hen := BlkIs.new wr 55 #[.string (nm k), .int .i64 (kd k), .string (id k)]
      rcases hkd with hkk | hkk
      · rw [hkk] at c1 hlow hbw2 hen Hnx
        have HL := Lib.hid (And.intro hlow (And.intro hbw2 hen))
        clear hlow hbw2 hen
        go_wp2_with fail
        refine (Bld.writeByte_keep wr.heap.size _ 55 w1.heap.size w1.heap.size _ 1 _ HL.out.1 (by have := Hl.out.2.1; simp only [List.length_cons, List.length_append, Oct.le32_length]; omega) (by simp only [World.size_alloc]; omega) HL.out.2.2 (by omega) (by decide)).mono ?_
        rintro e w5 ⟨rfl, h5, hb5, he5⟩
        have p0 : w5.cell? ⟨wr.heap.size, 0, none⟩ = some (.string (nm k)) := he5.cell 0
        have p2 : w5.cell? ⟨wr.heap.size, 2, none⟩ = some (.string (id k)) := he5.cell 2
        have hz5 := hb5.size
        have hlt5 := he5.lt
        have H5 := Lib.hid (And.intro h5 (And.intro (HL.out.2.1.trans (hb5.mono hw1)) he5))
        clear h5 hb5 he5 HL c0 c1 c2
        have hcat : ¬ (9223372036854775807 < S.size + (id k).size) := by omega
        go_upto_region 14 with (fail)
        go_region_law (first
          | (go_simp; go_at_call 58
             refine (HT.out _).mono ?_
             rintro e w6 ⟨rfl, hb6'⟩
             have hb6 : Below w5.heap.size w5 w6 := ((Below.refl w5.heap.size w5).drew).trans hb6'
             have q0 : w6.cell? ⟨wr.heap.size, 2, none⟩ = some (.string (id k)) := by rw [hb6.cell hlt5]; exact p2
             have H6 := Lib.hid (And.intro (H5.out.1.later hb6) (And.intro (H5.out.2.1.trans (hb6.mono H5.out.2.1.size)) hb6))
             clear hb6 hb6')
          | (go_simp; go_at_call 56
             refine (Bld.writeString w1.heap.size w1.heap.size _ (S ++ id k) _ H6.out.1 (by have := Hl.out.2.1; rw [ByteArray.size_append]; simp only [List.length_cons, List.length_append, List.length_nil, Oct.le32_length]; omega) (by have := H6.out.2.2.size; omega)).mono ?_
             rintro e w7 ⟨rfl, h7, hb7⟩
             have H7 := Lib.hid (And.intro h7 (And.intro (H6.out.2.1.trans (hb7.mono hw1)) (Nat.le_trans H6.out.2.2.size hb7.size)))
             clear h7 hb7))
        all_goals
          go_wp2_with fail
          refine ⟨⟨k + 1, rfl, hk1, ?_, H7.out.2.1, ?_⟩, ?_⟩
          · have := H7.out.1
            rw [Hnx.out, show UInt8.ofNat (1 : Int).toNat = 1 from rfl]
            simpa using this
          · have := H7.out.2.2; omega
          · simp [intOf]; omega
      · rw [hkk] at c1 hlow hbw2 hen Hnx
        have HL := Lib.hid (And.intro hlow (And.intro hbw2 hen))
        clear hlow hbw2 hen
        go_wp2_with fail
        refine (Bld.writeByte_keep wr.heap.size _ 55 w1.heap.size w1.heap.size _ 2 _ HL.out.1 (by have := Hl.out.2.1; simp only [List.length_cons, List.length_append, Oct.le32_length]; omega) (by simp only [World.size_alloc]; omega) HL.out.2.2 (by omega) (by decide)).mono ?_
        rintro e w5 ⟨rfl, h5, hb5, he5⟩
        have p0 : w5.cell? ⟨wr.heap.size, 0, none⟩ = some (.string (nm k)) := he5.cell 0
        have p2 : w5.cell? ⟨wr.heap.size, 2, none⟩ = some (.string (id k)) := he5.cell 2
        have hz5 := hb5.size
        have hlt5 := he5.lt
        have H5 := Lib.hid (And.intro h5 (And.intro (HL.out.2.1.trans (hb5.mono hw1)) he5))
        clear h5 hb5 he5 HL c0 c1 c2
        have hcat : ¬ (9223372036854775807 < S.size + (id k).size) := by omega
        go_upto_region 14 with (fail)
        go_region_law (first
          | (go_simp; go_at_call 58
             refine (HT.out _).mono ?_
             rintro e w6 ⟨rfl, hb6'⟩
             have hb6 : Below w5.heap.size w5 w6 := ((Below.refl w5.heap.size w5).drew).trans hb6'
             have q0 : w6.cell? ⟨wr.heap.size, 2, none⟩ = some (.string (id k)) := by rw [hb6.cell hlt5]; exact p2
             have H6 := Lib.hid (And.intro (H5.out.1.later hb6) (And.intro (H5.out.2.1.trans (hb6.mono H5.out.2.1.size)) hb6))
             clear hb6 hb6')
          | (go_simp; go_at_call 56
             refine (Bld.writeString w1.heap.size w1.heap.size _ (S ++ id k) _ H6.out.1 (by have := Hl.out.2.1; rw [ByteArray.size_append]; simp only [List.length_cons, List.length_append, List.length_nil, Oct.le32_length]; omega) (by have := H6.out.2.2.size; omega)).mono ?_
             rintro e w7 ⟨rfl, h7, hb7⟩
             have H7 := Lib.hid (And.intro h7 (And.intro (H6.out.2.1.trans (hb7.mono hw1)) (Nat.le_trans H6.out.2.2.size hb7.size)))
             clear h7 hb7))
        all_goals
          go_wp2_with fail
          refine ⟨⟨k + 1, rfl, hk1, ?_, H7.out.2.1, ?_⟩, ?_⟩
          · have := H7.out.1
            rw [Hnx.out, show UInt8.ofNat (2 : Int).toNat = 2 from rfl]
            simpa using this
          · have := H7.out.2.2; omega
          · simp [intOf]; omega
end Go.Proofs.Ytmdchfmcghiaeaa.Obj
