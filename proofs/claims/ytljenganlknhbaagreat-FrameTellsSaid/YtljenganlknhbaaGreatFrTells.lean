/- The law FrameTells, walked: turned bits within 32 that stand together are told; cut off or longer, a message is refused. Printed by gen_frtells.py. (Layer 19.) -/
import Derived.Test.YtljenganlknhbaaGreatFrV
import Derived.Test.YtljenganlknhbaaGreatFrX
import Derived.Deep.CutRange
namespace Go.Proofs.YtljenganlknhbaaGreat.Fr
set_option linter.unusedVariables false
set_option linter.unusedSimpArgs false
open Go.RowKit Go.Lib Oct
theorem SlIs.put1 {w : World} {base : Nat} {e : TypeId} {g off n cap : Nat} {xs : List Value} (h : SlIs w base e 1 (.slice (some ⟨g, off, none⟩) n cap) n xs) (i : Nat) (hi : i < n) (u : Value) :
    SlIs (w.setCell ⟨g, off + i, none⟩ u) base e 1 (.slice (some ⟨g, off, none⟩) n cap) n (xs.set i u) := by
  have hl : xs.length = n := by simpa using h.1
  have hc := h.capLe
  have := SlIs.puts h i n [u] (xs.set i u) hc (by simp; omega) (by simp [hl]) (fun j hj hj2 => ?_) (fun j hj h1 h2 => ?_)
  · exact this
  · refine ⟨hj, ?_⟩
    rw [List.getElem?_set_ne (by simp at hj2; omega)]
  · obtain rfl : j = i := by simp at h2; omega
    rw [List.getElem?_set_self (by omega), Nat.sub_self]; rfl
theorem pair_num {α β : Type} {x : α × β} {n : α} (h : x.1 = n) : x = (n, x.2) := by
  subst h
  rfl
theorem sl_spot {w : World} {base n cap g off : Nat} {e : TypeId} {xs : List Value} (h : SlIs w base e 1 (.slice (some ⟨g, off, none⟩) n cap) n xs) (hn : 0 < n) : base ≤ g ∧ (∀ j, j < xs.length → w.cell? ⟨g, off + j, none⟩ = xs[j]?) ∧ (∀ j, j < xs.length → w.frozen? ⟨g, off + j, none⟩ = false) := by
  obtain ⟨g', off', cap', hv, h1, -, -, -, h2, h3⟩ := h.at_ hn
  injection hv with e1 e2 e3
  injection e1 with e1
  injection e1 with e1 e4
  subst e1 e4
  exact ⟨h1, h2, h3⟩
set_option maxRecDepth 100000 in
set_option maxHeartbeats 8000000 in
theorem tells_any (m : MsgR) (at_ bits : Int) (w : World) (h : m.Reads w) (hz : m.Sized) (hw1 : (Lit.int .i64 at_).wf = true) (hw2 : (Lit.int .u32 bits).wf = true) : Calls Tryz.prog 6 #[aMsg m, .int .i64 at_, .int .u32 bits] w fun e w' => e = .returned (.bool true) ∧ Below w.heap.size w w' := by
  obtain ⟨akk, asc, ads, ase, ast, ao1, an1, af1, ao2, an2, af2, ao3, an3, af3, ao4, an4, af4, ao5, an5, af5, ao6, an6, af6, ao7, an7, af7, hA⟩ := MsgR.agg h
  have hbt : 0 ≤ bits ∧ bits < 4294967296 := by
    simp [Lit.wf, IntKind.min, IntKind.max, IntKind.signed, IntKind.bits] at hw2
    omega
  obtain ⟨bt, rfl⟩ := Int.eq_ofNat_of_zero_le hbt.1
  have hbt2 : bt < 4294967296 := by omega
  have EC := enc_cases m
  obtain ⟨W1, hW1⟩ : ∃ W1, W1 = w.alloc (.cells #[.int .i64 akk, .int .i64 asc, .int .i64 ads, .int .i64 ase, .int .i64 ast, .slice ao1 an1 af1, .slice ao2 an2 af2, .slice ao3 an3 af3, .slice ao4 an4 af4, .slice ao5 an5 af5, .slice ao6 an6 af6, .slice ao7 an7 af7] 30) := ⟨_, rfl⟩
  have hb1 : Below w.heap.size w W1 := by rw [hW1]; exact (Below.refl _ _).alloc (Nat.le_refl _) _
  have k1 : BlkIs W1 w.heap.size 30 #[.int .i64 akk, .int .i64 asc, .int .i64 ads, .int .i64 ase, .int .i64 ast, .slice ao1 an1 af1, .slice ao2 an2 af2, .slice ao3 an3 af3, .slice ao4 an4 af4, .slice ao5 an5 af5, .slice ao6 an6 af6, .slice ao7 an7 af7] := by rw [hW1]; exact BlkIs.new _ _ _
  have hr := h.later hb1
  have GR := Lib.hid (fun X : LaterOf W1 => great_any m X.w (hr.later X.h) hz)
  have HEC := Lib.hid (fun hs => (EC hs).imp (fun p => And.intro p.1 (fun X : LaterOf W1 => p.2 X.w (hr.later X.h))) (fun p => And.intro p.1 (fun X : LaterOf W1 => p.2 X.w (hr.later X.h))))
  have u0 : ∀ X : LaterOf W1, X.w.cell? ⟨w.heap.size, 0, none⟩ = some (.int .i64 akk) := fun X => (X.blk k1).cell 0
  have u1 : ∀ X : LaterOf W1, X.w.cell? ⟨w.heap.size, 1, none⟩ = some (.int .i64 asc) := fun X => (X.blk k1).cell 1
  have u2 : ∀ X : LaterOf W1, X.w.cell? ⟨w.heap.size, 2, none⟩ = some (.int .i64 ads) := fun X => (X.blk k1).cell 2
  have u3 : ∀ X : LaterOf W1, X.w.cell? ⟨w.heap.size, 3, none⟩ = some (.int .i64 ase) := fun X => (X.blk k1).cell 3
  have u4 : ∀ X : LaterOf W1, X.w.cell? ⟨w.heap.size, 4, none⟩ = some (.int .i64 ast) := fun X => (X.blk k1).cell 4
  have u5 : ∀ X : LaterOf W1, X.w.cell? ⟨w.heap.size, 5, none⟩ = some (.slice ao1 an1 af1) := fun X => (X.blk k1).cell 5
  have u6 : ∀ X : LaterOf W1, X.w.cell? ⟨w.heap.size, 6, none⟩ = some (.slice ao2 an2 af2) := fun X => (X.blk k1).cell 6
  have u7 : ∀ X : LaterOf W1, X.w.cell? ⟨w.heap.size, 7, none⟩ = some (.slice ao3 an3 af3) := fun X => (X.blk k1).cell 7
  have u8 : ∀ X : LaterOf W1, X.w.cell? ⟨w.heap.size, 8, none⟩ = some (.slice ao4 an4 af4) := fun X => (X.blk k1).cell 8
  have u9 : ∀ X : LaterOf W1, X.w.cell? ⟨w.heap.size, 9, none⟩ = some (.slice ao5 an5 af5) := fun X => (X.blk k1).cell 9
  have u10 : ∀ X : LaterOf W1, X.w.cell? ⟨w.heap.size, 10, none⟩ = some (.slice ao6 an6 af6) := fun X => (X.blk k1).cell 10
  have u11 : ∀ X : LaterOf W1, X.w.cell? ⟨w.heap.size, 11, none⟩ = some (.slice ao7 an7 af7) := fun X => (X.blk k1).cell 11
  have HB := Lib.hid (fun X : LaterOf W1 => hb1.trans (X.h.mono hb1.size))
  have HW := Lib.hid hW1
  have HBT := Lib.hid hbt2
  rw [hA] at GR HEC ⊢
  clear EC hA h hr k1 hb1 hW1 hz hbt hbt2 hw1 hw2
  go_enter Tryz.func6, Tryz.ntmps6
  go_wp2_with fail
  rw [← HW.out]
  clear HW
  obtain ⟨X, hX⟩ := later_at W1
  rw [hX]
  refine (LaterOf.call X (awake_any X.w)).mono ?_
  clear hX
  rintro e _ ⟨rfl, X, rfl⟩
  go_wp2_with fail
  refine (GR.out X).mono ?_
  rintro e w' ⟨⟨v, rfl, hlow⟩, hb⟩
  obtain ⟨X, rfl⟩ := lat_next X hb
  clear hb GR
  cases v
  case true =>
    clear hlow
    go_wp2_with fail
    go_ret
    exact ⟨rfl, HB.out X⟩
  have hs := Lib.hid (hlow rfl)
  clear hlow
  rcases HEC.out hs.out with ⟨hg, EN⟩ | ⟨hg, EN⟩
  case inl =>
    have EN := Lib.hid EN
    clear hg HEC
    go_wp2_with fail
    refine (LaterOf.call X (EN.out X)).mono ?_
    rintro e _ ⟨rfl, X, rfl⟩
    go_wp2_with fail
    go_ret
    exact ⟨rfl, HB.out X⟩
  obtain ⟨S, hS⟩ : ∃ S, S = encM m.msg := ⟨_, rfl⟩
  have hzS : 25 ≤ S.size ∧ S.size ≤ 2200025 := by
    have := enBody_size hg
    rw [hS]
    unfold encM frameB
    simp only [ByteArray.size_append, Mk.enNum_size]
    omega
  have PL := fun (p r : Nat) (hr : r < 8) (hp : (p = 4 ∧ r = 0) ∨ (8 ≤ p ∧ p + 5 ≤ (encM m.msg).size)) => tells_plain (bits := bt) hg HBT.out hr hp
  rw [← hS] at EN PL
  have EN := Lib.hid EN
  have PL := Lib.hid PL
  have HS := Lib.hid hzS
  clear hg HEC hS hzS
  go_wp2_with fail
  refine (LaterOf.call X (EN.out X)).mono ?_
  rintro e _ ⟨rfl, X, rfl⟩
  clear EN u0 u1 u2 u3 u4 u5 u6 u7 u8 u9 u10 u11
  obtain ⟨d, hd⟩ : ∃ d : Nat, d = S.size - 12 := ⟨_, rfl⟩
  obtain ⟨D, hD⟩ : ∃ D : Nat, D = 8 * d := ⟨_, rfl⟩
  obtain ⟨E, hE, hEe⟩ : ∃ E : Nat, E < D ∧ (IntKind.u64.wrap at_).tmod (D : Int) = (E : Int) := by
    have hz := HS.out
    have ha : 0 ≤ IntKind.u64.wrap at_ := by rw [IntKind.wrap_u64]; omega
    have h1 := Int.emod_lt_of_pos (IntKind.u64.wrap at_) (show (0 : Int) < D by omega)
    have h2 := Int.emod_nonneg (IntKind.u64.wrap at_) (show (D : Int) ≠ 0 by omega)
    refine ⟨((IntKind.u64.wrap at_).tmod (D : Int)).toNat, ?_, ?_⟩
    · rw [Int.tmod_eq_emod_of_nonneg ha]; omega
    · rw [Int.tmod_eq_emod_of_nonneg ha]; omega
  obtain ⟨K, hK⟩ : ∃ K : Nat, K = 64 + E := ⟨_, rfl⟩
  have HD := Lib.hid (show K = 64 + E ∧ E < 8 * (S.size - 12) by omega)
  have f1 : wrap64 ((S.size : Int) - 12) = (d : Int) := by
    have hz := HS.out
    rw [IntWalk.wrap64_in _ (by omega)]
    omega
  have f2 : wrap64 (8 * (d : Int)) = (D : Int) := by
    have hz := HS.out
    rw [IntWalk.wrap64_in _ (by omega)]
    omega
  have f3 : IntKind.u64.wrap (D : Int) = (D : Int) := by
    have hz := HS.out
    rw [IntKind.wrap_u64]
    omega
  have f4 : ¬ D = 0 := by have hz := HS.out; omega
  have f5 : wrap64 (E : Int) = (E : Int) := by have hz := HS.out; exact IntWalk.wrap64_in _ (by omega)
  have f6 : wrap64 (64 + (E : Int)) = (K : Int) := by
    have hz := HS.out
    rw [IntWalk.wrap64_in _ (by omega)]
    omega
  clear hd hD hE hK
  go_upto_if 40 with (fail)
  go_cut [9] from 41 to 42 (fun y9 wx => ∃ k p r : Nat, y9 = .int .i64 (k : Int) ∧ wx = X.w ∧ Hid (k = 8 * p + r ∧ r < 8 ∧ ((p = 4 ∧ r = 0) ∨ (8 ≤ p ∧ p + 5 ≤ S.size))))
  case first =>
    by_cases hm : at_.tmod 5 = 0
    · have hm2 : (at_.tmod 5 == 0) = true := by simpa using hm
      go_wp2_with fail
      go_meet
      case rel => exact ⟨32, 4, 0, rfl, rfl, Lib.hid ⟨rfl, by decide, .inl ⟨rfl, rfl⟩⟩⟩
    · have hm2 : (at_.tmod 5 == 0) = false := by simpa using hm
      go_wp2_with fail
      go_meet
      case rel => exact ⟨K, K / 8, K % 8, by rw [f6], rfl, Lib.hid ⟨by omega, by omega, .inr (by have := HD.out; have := HS.out; omega)⟩⟩
  case rest =>
    obtain ⟨k, p, r, rfl, rfl, HK⟩ := hcut
    clear f1 f2 f3 f4 f5 f6 hEe
    obtain ⟨ao, cap, w3, hrun, hsl, hg3⟩ := run_bytes_sl (P := Tryz.prog) X.w 9 43 5 S Tryz.underlying9 Tryz.underlying43 Tryz.underlying5 (by have := HS.out; unfold maxLen; omega)
    have hb3 : Below X.w.heap.size X.w w3 := (Below.refl _ _).grown (row := none) hg3 (Nat.le_refl _) (fun k hk => by cases hk)
    have H3 := Lib.hid (And.intro hsl (hb3))
    clear hsl hb3 hg3
    have g1 : (k : Int).tmod 8 = (r : Int) := by
      have := HK.out
      rw [Int.tmod_eq_emod_of_nonneg (by omega)]
      omega
    have g2 : (k : Int).tdiv 8 = (p : Int) := by
      have := HK.out
      rw [Int.tdiv_eq_ediv_of_nonneg (by omega)]
      omega
    obtain ⟨Bs, hBs⟩ : ∃ Bs, Bs = bt * 2 ^ r := ⟨_, rfl⟩
    have hBl : Bs < 1099511627776 := by
      rw [hBs]
      have h1 : 2 ^ r ≤ 2 ^ 7 := Nat.pow_le_pow_right (by decide) (by have := HK.out; omega)
      have h2 := Nat.mul_le_mul_left bt h1
      have h3 := HBT.out
      omega
    have g3 : IntKind.u64.wrap (IntKind.u64.wrap (bt : Int) * 2 ^ min r 64) = (Bs : Int) := by
      have h3 := HBT.out
      have e1 : IntKind.u64.wrap (bt : Int) = (bt : Int) := by rw [IntKind.wrap_u64]; omega
      have e2 : min r 64 = r := by have := HK.out; omega
      have e3 : (bt : Int) * 2 ^ r = (Bs : Int) := by rw [hBs]; simp
      rw [e1, e2, e3, IntKind.wrap_u64]
      omega
    have hSl : S.data.toList.length = S.size := by rw [Array.length_toList]; rfl
    have hSz := HS.out
    obtain ⟨g, off, rfl⟩ : ∃ g off, ao = some ⟨g, off, none⟩ := by
      obtain ⟨g, off, cap', hv, -⟩ := H3.out.1.at_ (by omega)
      injection hv with e1 e2 e3
      exact ⟨g, off, e1⟩
    obtain ⟨L, hL⟩ : ∃ L, L = S.data.toList := ⟨_, rfl⟩
    have HSL := Lib.hid (show L.length = S.size ∧ p + 5 ≤ S.size ∧ Bs = bt * 2 ^ r ∧ L = S.data.toList from ⟨by rw [hL]; exact hSl, by have := HK.out; omega, hBs, hL⟩)
    have H4 := Lib.hid (show SlIs w3 X.w.heap.size 5 1 (.slice (some ⟨g, off, none⟩) S.size cap) S.size (bcells (turned L p Bs 0)) ∧ Below X.w.heap.size X.w w3 from ⟨by rw [turned_zero, hL]; exact H3.out.1, H3.out.2⟩)
    clear hSl hL hBs H3
    go_wp2_with fail
    clear g3
    go_loopw [12] (fun i wr => ∃ j : Nat, i = .int .i64 (j : Int) ∧ j ≤ 5 ∧ Hid (SlIs wr X.w.heap.size 5 1 (.slice (some ⟨g, off, none⟩) S.size cap) S.size (bcells (turned L p Bs j)) ∧ Below X.w.heap.size X.w wr)) (fun i _ => 5 - (RowKit.intOf i).toNat)
    case atStart => exact ⟨0, rfl, by omega, H4⟩
    case round =>
      clear H4
      obtain ⟨j, rfl, hj5, HH⟩ := hrel
      rcases Nat.lt_or_ge j 5 with hlt | hge
      · have ji : (j : Int) < 5 := by omega
        have hpj : p + j < L.length := by have := HSL.out; omega
        have hn : 0 < S.size := by omega
        obtain ⟨hbg, hcells, hfree⟩ := sl_spot HH.out.1 hn
        have hxl : (bcells (turned L p Bs j)).length = S.size := by rw [bcells_length, turned_length]; exact HSL.out.1
        obtain ⟨x, hx⟩ : ∃ x, x = L[p + j] := ⟨_, rfl⟩
        have c0 : wr.cell? ⟨g, off + (p + j), none⟩ = some (.int .u8 (x.toNat : Int)) := by
          rw [hcells (p + j) (by rw [hxl]; have := HSL.out; omega)]
          show ((turned L p Bs j).map _)[p + j]? = _
          rw [List.getElem?_map, turned_at L p Bs j hpj, hx]
          rfl
        have z0 : wr.frozen? ⟨g, off + (p + j), none⟩ = false := hfree (p + j) (by rw [hxl]; have := HSL.out; omega)
        have hpi : (p : Int) + (j : Int) < S.size := by have := HSL.out; omega
        have w0 : IntKind.i64.wrap (p : Int) = (p : Int) := IntWalk.i64_in _ (by omega)
        have w1 : IntKind.i64.wrap ((p : Int) + (j : Int)) = ((p + j : Nat) : Int) := by
          rw [IntWalk.i64_in _ (by omega)]
          omega
        have hpj2 : p + j < S.size := by have := HSL.out; omega
        clear hcells hfree hxl hn
        go_wp2_with fail
        have hx2 : L[p + j] = x := hx.symm
        have hbit : bits .xor .u8 (x.toNat : Int) ((Bs : Int) / 2 ^ (8 * j) % 256) = ((x ^^^ UInt8.ofNat (Bs / 2 ^ (8 * j))).toNat : Int) := by
          have e : ((Bs : Int) / 2 ^ (8 * j) % 256) = ((UInt8.ofNat (Bs / 2 ^ (8 * j))).toNat : Int) := by
            rw [UInt8.toNat_ofNat']
            simp
          rw [e, UInt8.toNat_xor]
          exact u8_xor_nat _ _ x.toNat_lt (UInt8.toNat_lt _)
        have hset := turned_succ L p Bs j hpj
        rw [hx2] at hset
        have HH6 := Lib.hid (show SlIs (wr.setCell ⟨g, off + (p + j), none⟩ (.int .u8 ((x ^^^ UInt8.ofNat (Bs / 2 ^ (8 * j))).toNat : Int))) X.w.heap.size 5 1 (.slice (some ⟨g, off, none⟩) S.size cap) S.size (bcells (turned L p Bs (j + 1))) ∧ Below X.w.heap.size X.w (wr.setCell ⟨g, off + (p + j), none⟩ (.int .u8 ((x ^^^ UInt8.ofNat (Bs / 2 ^ (8 * j))).toNat : Int))) from ⟨by
          rw [hset]
          have := SlIs.put1 HH.out.1 (p + j) hpj2 (.int .u8 ((x ^^^ UInt8.ofNat (Bs / 2 ^ (8 * j))).toNat : Int))
          unfold bcells at this ⊢
          rw [List.map_set]
          exact this, HH.out.2.setCell hbg _⟩)
        have HBI := Lib.hid hbit
        clear hset hx hbg hx2 hbit
        go_region
        rw [HBI.out]
        obtain ⟨w6, hw6⟩ : ∃ W, W = (wr.setCell ⟨g, off + (p + j), none⟩ (.int .u8 ((x ^^^ UInt8.ofNat (Bs / 2 ^ (8 * j))).toNat : Int))).drew := ⟨_, rfl⟩
        rw [← hw6]
        have H7 := Lib.hid (show SlIs w6 X.w.heap.size 5 1 (.slice (some ⟨g, off, none⟩) S.size cap) S.size (bcells (turned L p Bs (j + 1))) ∧ Below X.w.heap.size X.w w6 from by rw [hw6]; exact ⟨HH6.out.1, bl_drew HH6.out.2⟩)
        clear c0 z0 w0 w1 hw6 HH6 HH HBI
        go_wp2_with fail
        exact ⟨⟨j + 1, by simp, by omega, H7⟩, by simp [RowKit.intOf]; omega⟩
      · have ji : decide (j < 5) = false := decide_eq_false (by omega)
        have hj : j = 5 := by omega
        have ji2 : decide ((j : Int) < 5) = false := decide_eq_false (by omega)
        obtain ⟨P1, P2, P3⟩ := PL.out p r HK.out.2.1 HK.out.2.2
        obtain ⟨T, hT⟩ : ∃ T : ByteArray, T = ⟨(turned L p Bs j).toArray⟩ := ⟨_, rfl⟩
        have hTz : T.size = S.size := by
          rw [hT]
          show (turned L p Bs j).toArray.size = _
          rw [List.size_toArray, turned_length]
          exact HSL.out.1
        have htxt : (convert 43 9 (.slice (some ⟨g, off, none⟩) S.size cap)).run Tryz.prog wr = .ok (.string T) wr := by
          rw [hT]
          exact SlIs.text Tryz.underlying43 Tryz.underlying5 Tryz.underlying9 HH.out.1
        have P1 : (decM T).1 = (if bt = 0 then 0 else 20) := by
          rw [hT, hj, HSL.out.2.2.2, HSL.out.2.2.1]
          exact P1
        obtain ⟨q1, hq1⟩ : ∃ q : Int, q = if bt = 0 then 0 else 20 := ⟨_, rfl⟩
        have D1 := Lib.hid (fun W => dec_to T W (by omega) (pair_num (x := decM T) (n := q1) (by rw [P1, hq1])))
        have hez : (S.extract 0 p).size ≤ 1073741824 := by rw [ByteArray.size_extract]; omega
        have D2 := Lib.hid (fun W => dec_to (S.extract 0 p) W hez (pair_num (x := decM (S.extract 0 p)) (n := 3) P2))
        obtain ⟨S2, hS2⟩ : ∃ S2 : ByteArray, S2 = S ++ ⟨#[120]⟩ := ⟨_, rfl⟩
        rw [← hS2] at P3
        have hzz : S2.size = S.size + 1 := by rw [hS2, ByteArray.size_append]; rfl
        have D3 := Lib.hid (fun W => dec_to S2 W (by omega) (pair_num (x := decM S2) (n := 3) P3))
        have HS2 := Lib.hid hS2
        have y1 : ¬ (9223372036854775807 < S.size + 1) := by omega
        have y2 : ¬ (9223372036854775807 < S.size + (⟨#[120]⟩ : ByteArray).size) := by show ¬ (9223372036854775807 < S.size + 1); omega
        have kle : p ≤ S.size := by have := HSL.out; omega
        have kli : (p : Int) ≤ (S.size : Int) := by omega
        clear P1 P2 P3 hT hTz hez hzz hj hS2
        by_cases hb0 : bt = 0
        · have hq : q1 = 0 := by rw [hq1, if_pos hb0]
          subst hb0
          subst hq
          clear hq1
          go_wp2_with fail
          refine (D1.out _).mono ?_
          rintro e w4 ⟨x, rfl, -, -, -, hb⟩
          have H4 := Lib.hid (HH.out.2.trans (hb.mono HH.out.2.size))
          obtain ⟨xa, hxa⟩ : ∃ v, v = aMsg x := ⟨_, rfl⟩
          rw [← hxa]
          clear hb D1 HH htxt hxa
          go_wp2_with fail
          refine (D2.out _).mono ?_
          rintro e w5 ⟨x2, he, -, hxr, -, hb⟩
          have H5 := Lib.hid (H4.out.trans (hb.mono H4.out.size))
          obtain ⟨xkk, xsc, xds, xse, xst, xo1, xn1, xf1, xo2, xn2, xf2, xo3, xn3, xf3, xo4, xn4, xf4, xo5, xn5, xf5, xo6, xn6, xf6, xo7, xn7, xf7, hAx⟩ := MsgR.agg hxr
          rw [hAx] at he
          subst he
          clear hb D2 hAx hxr H4
          go_wp2_with fail
          obtain ⟨w6, hw6⟩ : ∃ W, W = w5.alloc (.cells #[.int .i64 xkk, .int .i64 xsc, .int .i64 xds, .int .i64 xse, .int .i64 xst, .slice xo1 xn1 xf1, .slice xo2 xn2 xf2, .slice xo3 xn3 xf3, .slice xo4 xn4 xf4, .slice xo5 xn5 xf5, .slice xo6 xn6 xf6, .slice xo7 xn7 xf7] 30) := ⟨_, rfl⟩
          have H6 := Lib.hid (show Below X.w.heap.size X.w w6 by rw [hw6]; exact H5.out.alloc H5.out.size _)
          rw [← hw6]
          clear hw6 H5
          rw [← HS2.out]
          refine (D3.out _).mono ?_
          rintro e w7 ⟨x3, he, -, hxr, -, hb⟩
          have H7 := Lib.hid (H6.out.trans (hb.mono H6.out.size))
          obtain ⟨ykk, ysc, yds, yse, yst, yo1, yn1, yf1, yo2, yn2, yf2, yo3, yn3, yf3, yo4, yn4, yf4, yo5, yn5, yf5, yo6, yn6, yf6, yo7, yn7, yf7, hAx⟩ := MsgR.agg hxr
          rw [hAx] at he
          subst he
          clear hb D3 hAx hxr H6
          go_wp2_with fail
          go_ret
          exact ⟨rfl, (HB.out X).trans ((H7.out.alloc H7.out.size _).mono (HB.out X).size)⟩
        · have hq : q1 = 20 := by rw [hq1, if_neg hb0]
          have n1 : ((bt : Int) == 0) = false := by simpa using hb0
          have n2 : ((bt : Int) != 0) = true := by simpa using hb0
          subst hq
          clear hq1
          go_wp2_with fail
          refine (D1.out _).mono ?_
          rintro e w4 ⟨x, rfl, -, -, -, hb⟩
          have H4 := Lib.hid (HH.out.2.trans (hb.mono HH.out.2.size))
          obtain ⟨xa, hxa⟩ : ∃ v, v = aMsg x := ⟨_, rfl⟩
          rw [← hxa]
          clear hb D1 HH htxt hxa
          go_wp2_with fail
          refine (D2.out _).mono ?_
          rintro e w5 ⟨x2, he, -, hxr, -, hb⟩
          have H5 := Lib.hid (H4.out.trans (hb.mono H4.out.size))
          obtain ⟨xkk, xsc, xds, xse, xst, xo1, xn1, xf1, xo2, xn2, xf2, xo3, xn3, xf3, xo4, xn4, xf4, xo5, xn5, xf5, xo6, xn6, xf6, xo7, xn7, xf7, hAx⟩ := MsgR.agg hxr
          rw [hAx] at he
          subst he
          clear hb D2 hAx hxr H4
          go_wp2_with fail
          obtain ⟨w6, hw6⟩ : ∃ W, W = w5.alloc (.cells #[.int .i64 xkk, .int .i64 xsc, .int .i64 xds, .int .i64 xse, .int .i64 xst, .slice xo1 xn1 xf1, .slice xo2 xn2 xf2, .slice xo3 xn3 xf3, .slice xo4 xn4 xf4, .slice xo5 xn5 xf5, .slice xo6 xn6 xf6, .slice xo7 xn7 xf7] 30) := ⟨_, rfl⟩
          have H6 := Lib.hid (show Below X.w.heap.size X.w w6 by rw [hw6]; exact H5.out.alloc H5.out.size _)
          rw [← hw6]
          clear hw6 H5
          rw [← HS2.out]
          refine (D3.out _).mono ?_
          rintro e w7 ⟨x3, he, -, hxr, -, hb⟩
          have H7 := Lib.hid (H6.out.trans (hb.mono H6.out.size))
          obtain ⟨ykk, ysc, yds, yse, yst, yo1, yn1, yf1, yo2, yn2, yf2, yo3, yn3, yf3, yo4, yn4, yf4, yo5, yn5, yf5, yo6, yn6, yf6, yo7, yn7, yf7, hAx⟩ := MsgR.agg hxr
          rw [hAx] at he
          subst he
          clear hb D3 hAx hxr H6
          go_wp2_with fail
          go_ret
          exact ⟨rfl, (HB.out X).trans ((H7.out.alloc H7.out.size _).mono (HB.out X).size)⟩
end Go.Proofs.YtljenganlknhbaaGreat.Fr
