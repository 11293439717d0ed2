/- The reference's Encode of a tree, walked: the same bytes as the program's. Conditions: the entries are a tree's, their cells readable. -/
import Derived.Test.YtmdchfmcghiaeaaRefNum
import Derived.Test.YtmdchfmcghiaeaaEncSize
import Derived.Test.YtmdchfmcghiaeaaRGood
import Derived.Test.YtmdchfmcghiaeaaOne
namespace Go.Proofs.Ytmdchfmcghiaeaa.Obj
open Go.RowKit
/-- string([]byte{b}). -/
theorem conv_one (b : UInt8) (w : World) (g : Nat) (h : w.cell? ⟨g, 0, none⟩ = some (.int .u8 (b.toNat : Int))) : (convert 31 9 (.slice (some ⟨g, 0, none⟩) 1 1)).run Try.prog w = .ok (.string ⟨#[b]⟩) w := by
  refine run_convert_bytes_back w 31 9 5 ⟨g, 0, none⟩ 1 [b] Try.underlying31 Try.underlying5 Try.underlying9 fun j hj => ?_
  obtain rfl : j = 0 := by simpa using hj
  exact h
theorem kind_byte {kd : Int} (h : (kd == 1 || kd == 2) = true) : kd % 256 = ((UInt8.ofNat kd.toNat).toNat : Int) := by
  simp only [Bool.or_eq_true, beq_iff_eq] at h
  rcases h with rfl | rfl <;> rfl
theorem ents_step_length (nm : Nat → ByteArray) (kd : Nat → Int) (id : Nat → ByteArray) {n k : Nat} (h : entsOk nm kd id n = true) (hk : k < n) : (entB (nm k) (kd k) (id k)).length ≤ 292 ∧ (nm k).size ≤ 255 ∧ (id k).size = 32 ∧ (kd k == 1 || kd k == 2) = true := by
  have h1 := entsOk_at h hk
  unfold entOk at h1
  simp only [Bool.and_eq_true, beq_iff_eq] at h1
  obtain ⟨⟨q1, q2⟩, q3⟩ := h1
  have qn := nameOk_size q1
  have e1 : (nm k).data.toList.length = (nm k).size := rfl
  have e2 : (id k).data.toList.length = (id k).size := rfl
  refine ⟨?_, by omega, by omega, q2⟩
  unfold entB
  rw [List.length_cons, List.length_append, txt_len, e1, e2]
  omega
set_option maxRecDepth 100000 in
set_option maxHeartbeats 2000000 in
theorem renc_tree (d : ByteArray) (ao : Option Addr) (ne cap : Nat) (nm : Nat → ByteArray) (kd : Nat → Int) (id : Nat → ByteArray) (t : ByteArray) (ap : Option Addr) (np cp : Nat) (h : Int) (n : ByteArray) (w : World) (he : EntsAt w ao ne nm kd id)
    (hg : ∀ w1, Below w.heap.size w w1 → Calls Try.prog 32 #[obj 2 d (.slice ao ne cap) t (.slice ap np cp) h n] w1 fun e w' => e = .returned (.bool true) ∧ Below w1.heap.size w1 w') (hok : entsOk nm kd id ne = true) (hne : ne ≤ 256) :
    Calls Try.prog 31 #[obj 2 d (.slice ao ne cap) t (.slice ap np cp) h n] w fun e w' => e = .returned (.tuple #[.string ⟨(treeB ne nm kd id).toArray⟩, .int .i64 0]) ∧ Below w.heap.size w w' := by
  obtain ⟨R, hR⟩ : ∃ R : ByteArray, R = ⟨(treeB ne nm kd id).toArray⟩ := ⟨_, rfl⟩
  have hRl : R.data.toList = 2 :: (Oct.le32 ne ++ entsB nm kd id ne) := by rw [hR]; rfl
  rw [← hR]
  have HR := Lib.hid hRl
  clear hR hRl
  obtain ⟨N, hN⟩ : ∃ N : ByteArray, N = ⟨(Oct.le32 ne).toArray⟩ := ⟨_, rfl⟩
  have hN4 : N.size = 4 := by rw [hN]; rfl
  have hNn := Oct.ref_num ne
  rw [← hN] at hNn
  have HN := Lib.hid hNn
  have HNe := Lib.hid hN
  clear hN hNn
  obtain ⟨B2, hB2⟩ : ∃ B : ByteArray, B = ⟨#[2]⟩ := ⟨_, rfl⟩
  have hB21 : B2.size = 1 := by rw [hB2]; rfl
  have hcv2 : ∀ (w' : World) (g : Nat), w'.cell? ⟨g, 0, none⟩ = some (.int .u8 2) → (convert 31 9 (.slice (some ⟨g, 0, none⟩) 1 1)).run Try.prog w' = .ok (.string B2) w' := fun w' g hc => by rw [hB2]; exact conv_one 2 w' g hc
  have HB2 := Lib.hid hB2
  clear hB2
  have hmm : (ne : Int) % 4294967296 = (ne : Int) := by omega
  have hmw : IntKind.u32.wrap (ne : Int) = (ne : Int) := by rw [IntKind.wrap_u32]; omega
  have hb := (Below.refl w.heap.size w).alloc (Nat.le_refl _) (.cells #[.int .i64 2, .string d, .slice ao ne cap, .string t, .slice ap np cp, .int .i64 h, .string n] 34)
  have k1 := BlkIs.new w 34 #[.int .i64 2, .string d, .slice ao ne cap, .string t, .slice ap np cp, .int .i64 h, .string n]
  have H0 := Lib.hid (And.intro k1 hb)
  have HG := Lib.hid (hg _ hb)
  have HE := Lib.hid he
  have HOK := Lib.hid hok
  clear hb k1 hg he hok
  unfold obj at HG ⊢
  go_enter Try.func31, Try.ntmps31
  go_wp2_with fail
  refine HG.out.mono ?_
  rintro e w1 ⟨rfl, hb1⟩
  have H1 := Lib.hid (And.intro (H0.out.1.below hb1 H0.out.1.lt) (H0.out.2.trans (hb1.mono H0.out.2.size)))
  clear H0 HG hb1
  have c0 : w1.cell? ⟨w.heap.size, 0, none⟩ = some (.int .i64 2) := H1.out.1.cell 0
  have c2 : w1.cell? ⟨w.heap.size, 2, none⟩ = some (.slice ao ne cap) := H1.out.1.cell 2
  have hlt1 := H1.out.1.lt
  have hcat0 : ¬ (9223372036854775807 < B2.size + N.size) := by omega
  go_wp2_with fail
  refine (HN.out _).mono ?_
  rintro e w2 ⟨rfl, hb2⟩
  have hb2' := ((Below.refl w1.heap.size w1).alloc (Nat.le_refl _) (.cells #[.int .u8 2] 5)).trans (hb2.mono (by simp))
  have H2 := Lib.hid (And.intro (H1.out.1.below hb2' hlt1) (H1.out.2.trans (hb2'.mono H1.out.2.size)))
  clear hb2 hb2' c0 c2 H1 HN
  go_wp2_with fail
  go_loopw [4, 5] (fun v i wr => ∃ (j : Nat) (s : ByteArray), i = .int .i64 (j : Int) ∧ v = .string s ∧ j ≤ ne ∧ Hid (s.data.toList = 2 :: (Oct.le32 ne ++ entsB nm kd id j)) ∧ s.size ≤ 5 + j * 292 ∧ BlkIs wr w.heap.size 34 #[.int .i64 2, .string d, .slice ao ne cap, .string t, .slice ap np cp, .int .i64 h, .string n] ∧ Below w.heap.size w wr) (fun _ i _ => ((ne : Int) - intOf i).toNat)
  case atStart => exact ⟨0, B2 ++ N, rfl, rfl, by omega, Lib.hid (by rw [HB2.out, HNe.out]; simp [entsB]), by rw [ByteArray.size_append]; omega, H2.out.1, H2.out.2⟩
  case round =>
    obtain ⟨j, s, rfl, rfl, hj, hs, hsz, hblk, hbw⟩ := hrel
    have c2 : wr.cell? ⟨w.heap.size, 2, none⟩ = some (.slice ao ne cap) := hblk.cell 2
    have hltr := hblk.lt
    have H := Lib.hid (And.intro hblk hbw)
    clear hblk
    rcases Nat.lt_or_ge j ne with hj1 | hj1
    case inr =>
      have ji : (ne : Int) ≤ j := by omega
      obtain rfl : j = ne := by omega
      have hRs : R = s := by
        apply ByteArray.ext
        apply Array.ext'
        rw [HR.out, hs.out]
      subst hRs
      clear hbw
      go_wp2_with fail
      go_ret2
      exact ⟨rfl, H.out.2⟩
    case inl =>
      have ji : (j : Int) < ne := by omega
      obtain ⟨b, off, rfl, hbo, hcell⟩ := HE.out.2 (by omega)
      have p0 : wr.cell? ⟨b, off + j * 3, none⟩ = some (.string (nm j)) := by rw [hbw.cell hbo]; exact (hcell j hj1).1
      have p1 : wr.cell? ⟨b, off + j * 3 + 1, none⟩ = some (.int .i64 (kd j)) := by rw [hbw.cell hbo]; exact (hcell j hj1).2.1
      have p2 : wr.cell? ⟨b, off + j * 3 + 2, none⟩ = some (.string (id j)) := by rw [hbw.cell hbo]; exact (hcell j hj1).2.2
      obtain ⟨hl1, hl2, hl3, hl4⟩ := ents_step_length nm kd id HOK.out hj1
      have hent : entsB nm kd id (j + 1) = entsB nm kd id j ++ (UInt8.ofNat (kd j).toNat :: (Oct.txt (nm j).data.toList ++ (id j).data.toList)) := rfl
      have hkb := kind_byte hl4
      have hkb2 : IntKind.u8.wrap (kd j) = ((UInt8.ofNat (kd j).toNat).toNat : Int) := by rw [IntKind.wrap_u8]; exact hkb
      generalize hnj : nm j = nj at *
      generalize hkj : kd j = kj at *
      generalize hij : id j = ij at *
      obtain ⟨T, hT⟩ : ∃ T : ByteArray, T = ⟨(Oct.txt nj.data.toList).toArray⟩ := ⟨_, rfl⟩
      have hTl : T.data.toList = Oct.txt nj.data.toList := by rw [hT]
      have hTs : T.size = 4 + nj.size := by show T.data.toList.length = _; rw [hTl, txt_len]; rfl
      have hTc := fun w => Oct.ref_text nj w (by omega)
      rw [← hT] at hTc
      obtain ⟨B, hB⟩ : ∃ B : ByteArray, B = ⟨#[UInt8.ofNat kj.toNat]⟩ := ⟨_, rfl⟩
      have hB1 : B.size = 1 := by rw [hB]; rfl
      generalize hkn : UInt8.ofNat kj.toNat = kn at *
      have hcvj : ∀ (w' : World) (g : Nat), w'.cell? ⟨g, 0, none⟩ = some (.int .u8 (kn.toNat : Int)) → (convert 31 9 (.slice (some ⟨g, 0, none⟩) 1 1)).run Try.prog w' = .ok (.string B) w' := fun w' g hc => by rw [hB]; exact conv_one kn w' g hc
      have HX := Lib.hid (And.intro hent (And.intro hTl hB))
      have HT := Lib.hid hTc
      have hcat1 : ¬ (9223372036854775807 < s.size + B.size) := by omega
      have hcat2 : ¬ (9223372036854775807 < s.size + B.size + T.size) := by omega
      have hcat3 : ¬ (9223372036854775807 < s.size + B.size + T.size + ij.size) := by omega
      clear hcell hbw hent hT hTl hTc hB hkn hnj hkj hij hl1 hl4
      go_upto_region 12 with (fail)
      have kE := BlkIs.new wr 55 #[.string nj, .int .i64 kj, .string ij]
      have hbE := H.out.2.alloc H.out.2.size (.cells #[.string nj, .int .i64 kj, .string ij] 55)
      have kO := H.out.1.alloc (.cells #[.string nj, .int .i64 kj, .string ij] 55)
      obtain ⟨W, hW⟩ : ∃ W, W = wr.alloc (.cells #[.string nj, .int .i64 kj, .string ij] 55) := ⟨_, rfl⟩
      rw [← hW] at kE hbE kO ⊢
      have hWs := Lib.hid (show W.heap.size = wr.heap.size + 1 by rw [hW]; exact World.size_alloc _ _)
      have e0 : W.cell? ⟨wr.heap.size, 0, none⟩ = some (.string nj) := kE.cell 0
      have e1 : W.cell? ⟨wr.heap.size, 1, none⟩ = some (.int .i64 kj) := kE.cell 1
      have e2 : W.cell? ⟨wr.heap.size, 2, none⟩ = some (.string ij) := kE.cell 2
      have HW := Lib.hid (And.intro kE (And.intro hbE kO))
      have hWl := kE.lt
      clear hW kE hbE kO p0 p1 p2 c2
      go_region_held (fun w' => w'.cell? ⟨wr.heap.size, 0, none⟩ = some (.string nj) ∧ w'.cell? ⟨wr.heap.size, 1, none⟩ = some (.int .i64 kj) ∧ w'.cell? ⟨wr.heap.size, 2, none⟩ = some (.string ij))
        (first | go_keep | exact ⟨q0, q1, q2⟩)
        ((go_at_call 64; refine (HT.out _).mono ?_
          rintro e w9 ⟨rfl, hb9⟩
          have H9 : BlkIs w9 wr.heap.size 55 #[.string nj, .int .i64 kj, .string ij] ∧ Below w.heap.size w w9 ∧ BlkIs w9 w.heap.size 34 #[.int .i64 2, .string d, .slice (some ⟨b, off, none⟩) ne cap, .string t, .slice ap np cp, .int .i64 h, .string n] := by
            first
              | exact ⟨HW.out.1.drew.below hb9 HW.out.1.lt, HW.out.2.1.drew.trans (hb9.mono HW.out.2.1.size), HW.out.2.2.drew.below hb9 HW.out.2.2.lt⟩
              | exact ⟨(HW.out.1.drew.alloc _).below hb9 (HW.out.1.drew.alloc _).lt, (HW.out.2.1.drew.alloc HW.out.2.1.size _).trans (hb9.mono (HW.out.2.1.drew.alloc HW.out.2.1.size _).size), (HW.out.2.2.drew.alloc _).below hb9 (HW.out.2.2.drew.alloc _).lt⟩
          have q0 : w9.cell? ⟨wr.heap.size, 0, none⟩ = some (.string nj) := H9.1.cell 0
          have q1 : w9.cell? ⟨wr.heap.size, 1, none⟩ = some (.int .i64 kj) := H9.1.cell 1
          have q2 : w9.cell? ⟨wr.heap.size, 2, none⟩ = some (.string ij) := H9.1.cell 2
          try (have qx : w9.cell? ⟨W.heap.size, 0, none⟩ = some (.int .u8 (kn.toNat : Int)) := (hb9.cell (by simp [World.size_alloc])).trans ((BlkIs.new W.drew 5 #[.int .u8 (kn.toNat : Int)]).cell 0))
          have H9 := Lib.hid H9
          clear hb9))
      all_goals
        go_wp2_with fail
        first
          | refine ⟨⟨j + 1, s ++ B ++ T ++ ij, rfl, rfl, hj1, Lib.hid ?_, ?_, H9.out.2.2, H9.out.2.1⟩, ?_⟩
          | refine ⟨⟨j + 1, s ++ B ++ T ++ ij, rfl, rfl, hj1, Lib.hid ?_, ?_, H9.out.2.2.alloc _, H9.out.2.1.alloc H9.out.2.1.size _⟩, ?_⟩
        · have e3 : B.data.toList = [kn] := by rw [HX.out.2.2]
          rw [HX.out.1]
          simp [hs.out, HX.out.2.1, e3]
        · simp only [ByteArray.size_append]
          omega
        · simp [intOf]
          omega
/-- Encode of a blob. -/
theorem renc_blob (d : ByteArray) (ao : Option Addr) (ne cap : Nat) (t : ByteArray) (ap : Option Addr) (np cp : Nat) (h : Int) (n : ByteArray) (w : World)
    (hg : ∀ w1, Below w.heap.size w w1 → Calls Try.prog 32 #[obj 1 d (.slice ao ne cap) t (.slice ap np cp) h n] w1 fun e w' => e = .returned (.bool true) ∧ Below w1.heap.size w1 w') (hd : d.size ≤ 65536) :
    Calls Try.prog 31 #[obj 1 d (.slice ao ne cap) t (.slice ap np cp) h n] w fun e w' => e = .returned (.tuple #[.string ⟨(1 :: d.data.toList).toArray⟩, .int .i64 0]) ∧ Below w.heap.size w w' := by
  obtain ⟨B1, hB1⟩ : ∃ B : ByteArray, B = ⟨#[1]⟩ := ⟨_, rfl⟩
  have hB11 : B1.size = 1 := by rw [hB1]; rfl
  have hcv : ∀ (w' : World) (g : Nat), w'.cell? ⟨g, 0, none⟩ = some (.int .u8 1) → (convert 31 9 (.slice (some ⟨g, 0, none⟩) 1 1)).run Try.prog w' = .ok (.string B1) w' := fun w' g hc => by rw [hB1]; exact conv_one 1 w' g hc
  have hR : (⟨(1 :: d.data.toList).toArray⟩ : ByteArray) = B1 ++ d := by
    rw [hB1]
    apply ByteArray.ext
    apply Array.ext'
    simp
  rw [hR]
  clear hB1 hR
  have hb := (Below.refl w.heap.size w).alloc (Nat.le_refl _) (.cells #[.int .i64 1, .string d, .slice ao ne cap, .string t, .slice ap np cp, .int .i64 h, .string n] 34)
  have k1 := BlkIs.new w 34 #[.int .i64 1, .string d, .slice ao ne cap, .string t, .slice ap np cp, .int .i64 h, .string n]
  have H0 := Lib.hid (And.intro k1 hb)
  have HG := Lib.hid (hg _ hb)
  have hcat : ¬ (9223372036854775807 < B1.size + d.size) := by omega
  clear hb k1 hg
  unfold obj at HG ⊢
  go_enter Try.func31, Try.ntmps31
  go_wp2_with fail
  refine HG.out.mono ?_
  rintro e w1 ⟨rfl, hb1⟩
  have H1 := Lib.hid (And.intro (H0.out.1.below hb1 H0.out.1.lt) (H0.out.2.trans (hb1.mono H0.out.2.size)))
  have c0 : w1.cell? ⟨w.heap.size, 0, none⟩ = some (.int .i64 1) := H1.out.1.cell 0
  have c1 : w1.cell? ⟨w.heap.size, 1, none⟩ = some (.string d) := H1.out.1.cell 1
  have hlt1 := H1.out.1.lt
  clear H0 HG hb1
  go_wp2_with fail
  go_ret2
  exact ⟨rfl, H1.out.2.alloc H1.out.2.size _⟩
/-- Encode of what can't be. -/
theorem renc_bad (k : Int) (d : ByteArray) (ao : Option Addr) (ne cap : Nat) (t : ByteArray) (ap : Option Addr) (np cp : Nat) (h : Int) (n : ByteArray) (w : World)
    (hg : ∀ w1, Below w.heap.size w w1 → Calls Try.prog 32 #[obj k d (.slice ao ne cap) t (.slice ap np cp) h n] w1 fun e w' => e = .returned (.bool false) ∧ Below w1.heap.size w1 w') :
    Calls Try.prog 31 #[obj k d (.slice ao ne cap) t (.slice ap np cp) h n] w fun e w' => e = .returned (.tuple #[.string ⟨#[]⟩, .int .i64 1]) ∧ Below w.heap.size w w' := by
  have hb := (Below.refl w.heap.size w).alloc (Nat.le_refl _) (.cells #[.int .i64 k, .string d, .slice ao ne cap, .string t, .slice ap np cp, .int .i64 h, .string n] 34)
  have H0 := Lib.hid hb
  have HG := Lib.hid (hg _ hb)
  clear hb hg
  unfold obj at HG ⊢
  go_enter Try.func31, Try.ntmps31
  go_wp2_with fail
  refine HG.out.mono ?_
  rintro e w1 ⟨rfl, hb1⟩
  have H1 := Lib.hid (H0.out.trans (hb1.mono H0.out.size))
  clear H0 HG hb1
  go_wp2_with fail
  go_ret2
  exact ⟨rfl, H1.out⟩
end Go.Proofs.Ytmdchfmcghiaeaa.Obj
