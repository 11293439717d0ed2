/- The reference's items (pack), walked. (Layer 07.) -/
import Derived.Test.YtabgpleiobpeoaaPack8
import Derived.Test.YtabgpleiobpeoaaPack7
namespace Go.Proofs.Ytabgpleiobpeoaa.Pak
set_option linter.unusedVariables false
open Go.RowKit Go.Sort Go.Lib
open Oct (le32 val takeR Rd Moved RRd)
theorem rnum_at (s : ByteArray) (k : Nat) (i : Int) (w : World) (e : i = (k : Nat)) (h : k + 4 ≤ s.size) (hs : s.size ≤ 140737488355328) :
    Calls Try.prog 33 #[.string s, .int .i64 i] w fun e w' => e = .returned (.int .i64 ((nAt s.data.toList k : Nat) : Int)) ∧ Below w.heap.size w w' := by
  rw [e]; exact rnum_any s k w h hs
/-- What the reference's items answers. -/
def RItemsOut (l : List UInt8) (n : Nat) (w w' : World) (e : Ending) : Prop :=
  (¬ Shaped l ∧ (∃ v, e = .returned (.tuple #[v, .bool false])) ∧ Below w.heap.size w w') ∨
  (Shaped l ∧ ∃ ao cap, e = .returned (.tuple #[.slice ao n cap, .bool true]) ∧ ItemsAt w' ao (readK l n) ∧ Below w.heap.size w w')
theorem mg_list : (⟨#[114, 101, 108, 105, 99, 48, 48, 49]⟩ : ByteArray).toList = [114, 101, 108, 105, 99, 48, 48, 49] := by rw [ByteArray.toList_eq]
theorem magic_iff (s : ByteArray) (h : 8 ≤ s.size) : s.extract 0 8 = ⟨#[114, 101, 108, 105, 99, 48, 48, 49]⟩ ↔ s.data.toList.take 8 = magic := by
  constructor
  · intro e
    have := congrArg (fun x : ByteArray => x.data.toList) e
    simpa [ext_list, magic] using this
  · intro e
    apply arr_list
    rw [ext_list, List.drop_zero]
    exact e
theorem readK_get (l : List UInt8) (n i : Nat) (h : i < (readK l n).length) : (readK l n)[i] = (⟨(idAt l i).toArray⟩, ⟨(dataAt l i).toArray⟩) := by simp [readK]
theorem readK_ids (l : List UInt8) (n : Nat) : (readK l n).map (·.1) = idsOf l n := by simp [readK, idsOf]
set_option maxRecDepth 100000 in
set_option maxHeartbeats 2000000 in
theorem ritems_any (s : ByteArray) (w : World) (h : 1112 ≤ s.size) (hs : s.size ≤ 4194304) :
    Calls Try.prog 31 #[.string s] w fun e w' => RItemsOut s.data.toList (many s.data.toList) w w' e := by
  have N := Lib.hid (rnum_at s 8 8 w rfl (by omega) (by omega))
  obtain ⟨l, hl⟩ : ∃ l, l = s.data.toList := ⟨_, rfl⟩
  obtain ⟨n, hn⟩ : ∃ n, n = many l := ⟨_, rfl⟩
  have hlt : n < 4294967296 := by rw [hn]; exact nAt_lt _ _
  have hlen : l.length = s.size := by rw [hl, Array.length_toList]; rfl
  rw [← hl, show nAt l 8 = n from hn.symm] at N
  rw [← hl, ← hn]
  have HN := Lib.hid (And.intro hl (And.intro hn hlen))
  have hH : Headed l ↔ (s.extract 0 8 = ⟨#[114, 101, 108, 105, 99, 48, 48, 49]⟩ ∧ 1 ≤ n ∧ n ≤ 1024 ∧ 1036 + 44 * n + 32 ≤ s.size) := by
    rw [magic_iff s (by omega), ← hl]
    constructor
    · intro h
      exact ⟨h.magic, by rw [hn]; exact h.one, by rw [hn]; exact h.most, by rw [hn, ← hlen]; exact h.fits⟩
    · rintro ⟨a, b, c, d⟩
      exact ⟨a, by rw [← hn]; exact b, by rw [← hn]; exact c, by rw [← hn, hlen]; exact d⟩
  have HH := Lib.hid hH
  clear hl hn hlen hH
  by_cases hm : s.extract 0 8 = ⟨#[114, 101, 108, 105, 99, 48, 48, 49]⟩
  case neg =>
    have hz : ((s.extract 0 8).toList == [114, 101, 108, 105, 99, 48, 48, 49]) = false := by have := ne_list hm; rwa [mg_list] at this
    have HM := Lib.hid hm
    clear hm
    go_enter Try.func31, Try.ntmps31
    go_wp2_with fail
    refine N.out.mono ?_
    rintro e w1 ⟨rfl, hb1⟩
    have H1 := Lib.hid hb1
    clear hb1 N
    go_wp2_with fail
    refine bodyPost_ret (v := .tuple #[.slice none 0 0, .bool false]) (by simp [results, Try.results31, go_sem]) rfl ?_
    exact Or.inl ⟨fun h => HM.out (HH.out.1 h.head).1, ⟨_, rfl⟩, H1.out⟩
  have hz : ((s.extract 0 8).toList == [114, 101, 108, 105, 99, 48, 48, 49]) = true := by have := eq_list hm; rwa [mg_list] at this
  have HM := Lib.hid hm
  clear hm
  by_cases h1 : 1 ≤ n ∧ n ≤ 1024 ∧ 1036 + 44 * n + 32 ≤ s.size
  case neg =>
    have HF := Lib.hid (show ¬ Headed l from fun h => h1 (HH.out.1 h).2)
    rcases Nat.lt_or_ge n 1 with a1 | a1
    · have d1 : decide ((n : Int) < 1) = true := decide_eq_true (by omega)
      clear h1
      go_enter Try.func31, Try.ntmps31
      go_wp2_with fail
      refine N.out.mono ?_
      rintro e w1 ⟨rfl, hb1⟩
      have H1 := Lib.hid hb1
      clear hb1 N
      go_wp2_with fail
      refine bodyPost_ret (v := .tuple #[.slice none 0 0, .bool false]) (by simp [results, Try.results31, go_sem]) rfl ?_
      exact Or.inl ⟨fun h => HF.out h.head, ⟨_, rfl⟩, H1.out⟩
    have d1 : decide ((n : Int) < 1) = false := decide_eq_false (by omega)
    rcases Nat.lt_or_ge 1024 n with a2 | a2
    · have d2 : decide ((1024 : Int) < n) = true := decide_eq_true (by omega)
      clear h1
      go_enter Try.func31, Try.ntmps31
      go_wp2_with fail
      refine N.out.mono ?_
      rintro e w1 ⟨rfl, hb1⟩
      have H1 := Lib.hid hb1
      clear hb1 N
      go_wp2_with fail
      refine bodyPost_ret (v := .tuple #[.slice none 0 0, .bool false]) (by simp [results, Try.results31, go_sem]) rfl ?_
      exact Or.inl ⟨fun h => HF.out h.head, ⟨_, rfl⟩, H1.out⟩
    have d2 : decide ((1024 : Int) < n) = false := decide_eq_false (by omega)
    have d3 : decide ((s.size : Int) - 32 < 1036 + 44 * (n : Int)) = true := decide_eq_true (by omega)
    clear h1
    go_enter Try.func31, Try.ntmps31
    go_wp2_with fail
    refine N.out.mono ?_
    rintro e w1 ⟨rfl, hb1⟩
    have H1 := Lib.hid hb1
    clear hb1 N
    go_wp2_with fail
    refine bodyPost_ret (v := .tuple #[.slice none 0 0, .bool false]) (by simp [results, Try.results31, go_sem]) rfl ?_
    exact Or.inl ⟨fun h => HF.out h.head, ⟨_, rfl⟩, H1.out⟩
  obtain ⟨a1, a2, a3⟩ := h1
  have HD := Lib.hid (HH.out.2 ⟨HM.out, a1, a2, a3⟩)
  have d1 : decide ((n : Int) < 1) = false := decide_eq_false (by omega)
  have d2 : decide ((1024 : Int) < n) = false := decide_eq_false (by omega)
  have d3 : decide ((s.size : Int) - 32 < 1036 + 44 * (n : Int)) = false := decide_eq_false (by omega)
  go_enter Try.func31, Try.ntmps31
  go_wp2_with fail
  refine N.out.mono ?_
  rintro e w1 ⟨rfl, hb1⟩
  have H1 := Lib.hid hb1
  clear hb1 N
  go_wp2_with fail
  have H2 := Lib.hid (show ∃ W, W = w1.alloc (.cells #[] 34) ∧ SlIs W w1.heap.size 34 2 (.slice (some ⟨w1.heap.size, 0, none⟩) 0 0) 0 (icells (readK l 0)) ∧ Below w1.heap.size w1 W from
    ⟨_, rfl, SlIs.made (BlkIs.new _ _ _) (Nat.le_refl _) rfl (by decide), (Below.refl _ _).alloc (Nat.le_refl _) _⟩)
  obtain ⟨W1, hW1, H2⟩ := H2.out
  rw [← hW1]
  have H2 := Lib.hid H2
  clear hW1
  go_loopw [7, 8, 9] (fun va sa i wr => ∃ k : Nat, i = .int .i64 (k : Int) ∧ k ≤ n ∧ sa = .int .i64 ((sumTo l k : Nat) : Int) ∧ 1036 + 44 * n + sumTo l k + 32 ≤ s.size ∧ Hid (Upto l k ∧ SlIs wr w1.heap.size 34 2 va k (icells (readK l k)) ∧ Below w1.heap.size w1 wr)) (fun _ _ i _ => ((n : Int) - intOf i).toNat)
  case atStart => exact ⟨0, rfl, by omega, rfl, a3, Lib.hid ⟨⟨fun i h => by omega, fun i h => by omega, fun i h => by omega⟩, H2.out⟩⟩
  case round =>
    obtain ⟨k, rfl, hk, rfl, hfit, HR⟩ := hrel
    have hbw := HR.out.2.2.size
    obtain ⟨ao2, cap2, hv2, hnc2, hcm2, hao2⟩ := HR.out.2.1.form
    subst hv2
    obtain ⟨sm, hsm⟩ : ∃ sm, sm = sumTo l k := ⟨_, rfl⟩
    rw [← hsm] at hfit ⊢
    rcases Nat.lt_or_ge k n with hk1 | hk1
    · have ki : (k : Int) < n := by omega
      obtain ⟨at_, hat⟩ : ∃ a, a = atAt l k := ⟨_, rfl⟩
      obtain ⟨sz, hsz⟩ : ∃ a, a = szAt l k := ⟨_, rfl⟩
      have hszl : sz < 4294967296 := by rw [hsz]; exact nAt_lt _ _
      have hatl : at_ < 4294967296 := by rw [hat]; exact nAt_lt _ _
      have N36 := Lib.hid (fun w => rnum_at s (1036 + 44 * k + 36) (1036 + 44 * (k : Int) + 36) w (by omega) (by omega) (by omega))
      have N32 := Lib.hid (fun w => rnum_at s (1036 + 44 * k + 32) (1036 + 44 * (k : Int) + 32) w (by omega) (by omega) (by omega))
      rw [← HN.out.1, show nAt l (1036 + 44 * k + 36) = sz from hsz.symm] at N36
      rw [← HN.out.1, show nAt l (1036 + 44 * k + 32) = at_ from hat.symm] at N32
      have HE := Lib.hid (And.intro hsm (And.intro hat hsz))
      clear hsm hat hsz
      go_wp2_with fail
      refine (N36.out _).mono ?_
      rintro e w2 ⟨rfl, hb2⟩
      have H2 := Lib.hid hb2
      clear hb2 N36
      go_wp2_with fail
      refine (N32.out _).mono ?_
      rintro e w3 ⟨rfl, hb3⟩
      have H3 := Lib.hid (show SlIs w3 w1.heap.size 34 2 (.slice ao2 k cap2) k (icells (readK l k)) ∧ Below w1.heap.size w1 w3 from
        ⟨HR.out.2.1.later (H2.out.trans (hb3.mono H2.out.size)), (HR.out.2.2.trans (H2.out.mono hbw)).trans (hb3.mono (Nat.le_trans hbw H2.out.size))⟩)
      have hb3s := H3.out.2.size
      clear hb3 N32 H2
      by_cases hA : at_ = sm
      case neg =>
        have e1 : ((at_ : Int) != (sm : Int)) = true := by simp; omega
        have HA := Lib.hid hA
        clear hA
        go_wp2_with fail
        refine bodyPost_ret (v := .tuple #[.slice none 0 0, .bool false]) (by simp [results, Try.results31, go_sem]) rfl ?_
        exact Or.inl ⟨fun h => HA.out (by rw [HE.out.2.1, HE.out.1]; exact h.ats k (by rw [← HN.out.2.1]; exact hk1)), ⟨_, rfl⟩, H1.out.trans (H3.out.2.mono H1.out.size)⟩
      subst hA
      have e1 : ((at_ : Int) != (at_ : Int)) = false := by simp
      by_cases hB : sz ≤ 131072
      case neg =>
        have e2 : decide ((131072 : Int) < sz) = true := decide_eq_true (by omega)
        have HB := Lib.hid hB
        clear hB
        go_wp2_with fail
        refine bodyPost_ret (v := .tuple #[.slice none 0 0, .bool false]) (by simp [results, Try.results31, go_sem]) rfl ?_
        exact Or.inl ⟨fun h => HB.out (by rw [HE.out.2.2]; exact h.szs k (by rw [← HN.out.2.1]; exact hk1)), ⟨_, rfl⟩, H1.out.trans (H3.out.2.mono H1.out.size)⟩
      have e2 : decide ((131072 : Int) < sz) = false := decide_eq_false (by omega)
      by_cases hC : 1036 + 44 * n + at_ + sz + 32 ≤ s.size
      case neg =>
        have e3 : decide ((s.size : Int) - 32 < 1036 + 44 * (n : Int) + at_ + sz) = true := decide_eq_true (by omega)
        have HC := Lib.hid hC
        clear hC
        go_wp2_with fail
        refine bodyPost_ret (v := .tuple #[.slice none 0 0, .bool false]) (by simp [results, Try.results31, go_sem]) rfl ?_
        exact Or.inl ⟨fun h => HC.out (by
          have hw := h.whole
          rw [← HN.out.2.1, HN.out.2.2] at hw
          have hm := sumTo_mono l (show k + 1 ≤ n from hk1)
          have e : sumTo l (k + 1) = at_ + sz := by rw [HE.out.1, HE.out.2.2]; rfl
          omega), ⟨_, rfl⟩, H1.out.trans (H3.out.2.mono H1.out.size)⟩
      have e3 : decide ((s.size : Int) - 32 < 1036 + 44 * (n : Int) + at_ + sz) = false := decide_eq_false (by omega)
      go_wp2_with fail
      have f1 : 1036 + 44 * (k : Int) + 32 ≤ s.size := by omega
      have f2 : 1036 + 44 * (n : Int) + at_ + sz ≤ s.size := by omega
      have g1 : IntKind.i64.wrap (1036 + 44 * (k : Int) + 32) = 1036 + 44 * k + 32 := IntWalk.i64_in _ (by omega)
      have g2 : IntKind.i64.wrap (1036 + 44 * (n : Int) + at_) = 1036 + 44 * n + at_ := IntWalk.i64_in _ (by omega)
      have g3 : IntKind.i64.wrap (1036 + 44 * (n : Int) + at_ + sz) = 1036 + 44 * n + at_ + sz := IntWalk.i64_in _ (by omega)
      have HI := Lib.hid (show icells (readK l k) ++ encI (s.extract (1036 + 44 * k) (1036 + 44 * k + 32), s.extract (1036 + 44 * n + at_) (1036 + 44 * n + at_ + sz)) = icells (readK l (k + 1)) from by
        have hid2 : s.extract (1036 + 44 * k) (1036 + 44 * k + 32) = ⟨(idAt l k).toArray⟩ := by
          apply arr_list
          rw [ext_list, ← HN.out.1, Nat.add_sub_cancel_left]
          rfl
        have hd2 : s.extract (1036 + 44 * n + at_) (1036 + 44 * n + at_ + sz) = ⟨(dataAt l k).toArray⟩ := by
          apply arr_list
          rw [ext_list, ← HN.out.1, Nat.add_sub_cancel_left]
          unfold dataAt
          rw [← HN.out.2.1, ← HE.out.1, ← HE.out.2.2]
        rw [icells_snoc, ← readK_snoc, hid2, hd2])
      have hss := Lib.hid (show sumTo l (k + 1) = at_ + sz from by rw [HE.out.1, HE.out.2.2]; rfl)
      have HB := Lib.hid hB
      have HC := Lib.hid hC
      clear hB hC e1 e2 e3
      have hdr : w3.drew.heap.size = w3.heap.size := rfl
      have p1 : 0 ≤ 1036 + 44 * (k : Int) := by omega
      have p2 : 0 ≤ 1036 + 44 * (k : Int) + 32 := by omega
      have p3 : 1036 + 44 * (k : Int) ≤ 1036 + 44 * (k : Int) + 32 := by omega
      have p4 : (1036 + 44 * (k : Int)).toNat = 1036 + 44 * k := by omega
      have p5 : (1036 + 44 * (k : Int) + 32).toNat = 1036 + 44 * k + 32 := by omega
      have p6 : 0 ≤ 1036 + 44 * (n : Int) + at_ := by omega
      have p7 : 0 ≤ 1036 + 44 * (n : Int) + at_ + sz := by omega
      have p8 : 1036 + 44 * (n : Int) + at_ ≤ 1036 + 44 * (n : Int) + at_ + sz := by omega
      have p9 : (1036 + 44 * (n : Int) + at_).toNat = 1036 + 44 * n + at_ := by omega
      have p10 : (1036 + 44 * (n : Int) + at_ + sz).toNat = 1036 + 44 * n + at_ + sz := by omega
      go_region_law (first
          | (refine step_append_sl rfl _ _ _ 28 (by rfl) el_item (base := w1.heap.size) (.slice ao2 k cap2) k (icells (readK l k)) (by rfl) (H3.out.1.drew.alloc _) _ 1 (encI (s.extract (1036 + 44 * k) (1036 + 44 * k + 32), s.extract (1036 + 44 * n + at_) (1036 + 44 * n + at_ + sz))) (by rfl) (SrcIs.own Try.underlying28 (SlIs.made (base := 0) (BlkIs.new w3.drew _ _) (Nat.zero_le _) rfl (by decide))) (enc_one _) (by unfold maxLen; omega) (by omega) (Nat.le_trans hb3s (by simp)) ?_
             intro v9 w9 hs1 hg1 hat1
             have hb9 := (H3.out.2.drew.alloc hb3s (.cells #[.string (s.extract (1036 + 44 * k) (1036 + 44 * k + 32)), .string (s.extract (1036 + 44 * n + at_) (1036 + 44 * n + at_ + sz))] 34)).grown hg1 (Nat.le_trans hb3s (by simp)) fun j hj => (H3.out.1.lt j hj).1
             rw [HI.out] at hs1
             have H9 := Lib.hid (And.intro hs1 hb9)
             clear hs1 hb9 hg1 hat1))
      all_goals clear g1 g2 g3 f1 f2 p1 p2 p3 p4 p5 p6 p7 p8 p9 p10
      go_wp2_with fail
      have HI9 := H9.out.1
      rw [show SlIs w9 w1.heap.size 34 2 v9 (k + 1) (icells (readK l (k + 1))) = SlIs w9 w1.heap.size 34 2 v9 (readK l (k + 1)).length (icells (readK l (k + 1))) from by rw [readK_length]] at HI9
      obtain ⟨ao9, cap9, hv9, hIA⟩ := ItemsAt.own HI9
      obtain ⟨m, hm⟩ : ∃ m, m = (readK l (k + 1)).length := ⟨_, rfl⟩
      have hmk : m = k + 1 := by rw [hm, readK_length]
      obtain ⟨b, off, rfl, hlt9, hcell⟩ := hIA.2 (by rw [← hm]; omega)
      rw [← hm] at hv9
      subst hv9
      have km : (k : Int) < m := by omega
      rcases Nat.eq_zero_or_pos k with hk0 | hk0
      · have d4 : decide (0 < k) = false := decide_eq_false (by omega)
        have HK0 := Lib.hid hk0
        clear hk0 HI9 hcell hIA hm
        go_quiet (fail)
        clear d4
        go_wp2_with fail
        refine ⟨⟨k + 1, rfl, hk1, by rw [hss.out]; rfl, by rw [hss.out]; have := HC.out; omega, Lib.hid ⟨HR.out.1.step (by rw [← HE.out.2.1, HE.out.1]) (by rw [← HE.out.2.2]; exact HB.out) (fun j hj => by have := HK0.out; omega), H9.out.1.drewN _, below_drewN H9.out.2 _⟩⟩, ?_⟩
        simp [intOf]
        omega
      · obtain ⟨j, hj⟩ : ∃ j, k = j + 1 := ⟨k - 1, by omega⟩
        have d4 : decide (0 < k) = true := decide_eq_true (by omega)
        have y1 : w9.cell? ⟨b, off + j * 2, none⟩ = some (.string ⟨(idAt l j).toArray⟩) := by rw [(hcell j (by rw [← hm]; omega)).1, readK_get]
        have y2 : w9.cell? ⟨b, off + k * 2, none⟩ = some (.string ⟨(idAt l k).toArray⟩) := by rw [(hcell k (by rw [← hm]; omega)).1, readK_get]
        obtain ⟨x1, hx1⟩ : ∃ x : ByteArray, x = ⟨(idAt l j).toArray⟩ := ⟨_, rfl⟩
        obtain ⟨x2, hx2⟩ : ∃ x : ByteArray, x = ⟨(idAt l k).toArray⟩ := ⟨_, rfl⟩
        rw [← hx1] at y1
        rw [← hx2] at y2
        have hll : Op.bytesLess x1.toList x2.toList = decide (idAt l j < idAt l k) := by rw [less_list, hx1, hx2]
        have q1 : (k : Int) - 1 = (j : Int) := by omega
        have q2 : IntKind.i64.wrap ((k : Int) - 1) = (j : Int) := by rw [q1]; exact IntWalk.i64_in _ (by omega)
        have jm : (j : Int) < m := by omega
        have HJ := Lib.hid hj
        clear hj hk0 hx1 hx2 HI9 hcell hIA hm
        by_cases hO : idAt l j < idAt l k
        · rw [decide_eq_true hO] at hll
          have HO := Lib.hid hO
          clear hO
          go_quiet (fail)
          clear d4 q1 q2 hll jm
          go_wp2_with fail
          refine ⟨⟨k + 1, rfl, hk1, by rw [hss.out]; rfl, by rw [hss.out]; have := HC.out; omega, Lib.hid ⟨HR.out.1.step (by rw [← HE.out.2.1, HE.out.1]) (by rw [← HE.out.2.2]; exact HB.out) (fun i hi => by have e1 := HJ.out; (have e2 : i = j := (by omega)); rw [e2]; exact HO.out), H9.out.1.drewN _, below_drewN H9.out.2 _⟩⟩, ?_⟩
          simp [intOf]
          omega
        · rw [decide_eq_false hO] at hll
          have HO := Lib.hid hO
          clear hO
          go_quiet (fail)
          clear d4 q1 q2 hll jm
          go_wp2_with fail
          refine bodyPost_ret (v := .tuple #[.slice none 0 0, .bool false]) (by simp [results, Try.results31, go_sem]) rfl ?_
          exact Or.inl ⟨fun h => HO.out (by have hr := h.rise j (by rw [← HN.out.2.1, ← HJ.out]; exact hk1); rw [← HJ.out] at hr; exact hr), ⟨_, rfl⟩, H1.out.trans ((below_drewN H9.out.2 _).mono H1.out.size)⟩
    · have hkn : n = k := by omega
      subst hkn
      have ki : decide ((n : Int) < n) = false := by simp
      have hHI := HR.out.2.1
      rw [show SlIs wr w1.heap.size 34 2 (.slice ao2 n cap2) n (icells (readK l n)) = SlIs wr w1.heap.size 34 2 (.slice ao2 n cap2) (readK l n).length (icells (readK l n)) from by rw [readK_length]] at hHI
      obtain ⟨ao3, cap3, hv3, hIA⟩ := ItemsAt.own hHI
      injection hv3 with e1 e2 e3
      subst e1 e3
      have F := Lib.hid (fun (b : Nat) (hb : b < 256) w' (hbw' : Below wr.heap.size wr w') => rfan_any ao2 cap2 (readK l n) b w' (hIA.later hbw') (fun x hx => by
        obtain ⟨i, hi, rfl⟩ := List.mem_map.1 hx
        have := idAt_size l i (by rw [HN.out.2.2]; have := List.mem_range.1 hi; omega)
        show 0 < (idAt l i).length
        omega) hb (by rw [readK_length]; omega))
      rw [readK_length, readK_ids] at F
      have N := Lib.hid (fun (b : Nat) (hb : b < 256) w' => rnum_at s (12 + 4 * b) (12 + 4 * (b : Int)) w' (by omega) (by omega) (by omega))
      rw [← HN.out.1] at N
      have HIA := Lib.hid hIA
      have HSM := Lib.hid hsm
      clear hIA hHI e2 hsm
      go_wp2_with fail
      go_loopw [12] (fun i wv => ∃ b : Nat, i = .int .i64 (b : Int) ∧ b ≤ 256 ∧ Hid ((∀ c, c < b → nAt l (12 + 4 * c) = fanN (idsOf l n) c) ∧ Below wr.heap.size wr wv)) (fun i _ => ((256 : Int) - intOf i).toNat)
      case atStart => exact ⟨0, rfl, by omega, Lib.hid ⟨fun c h => by omega, Below.refl _ _⟩⟩
      case round =>
        obtain ⟨b, rfl, hb, HB⟩ := hrel
        rcases Nat.lt_or_ge b 256 with hb1 | hb1
        · have kb : (b : Int) < 256 := by omega
          have NB := Lib.hid (N.out b hb1 wr)
          have FB := Lib.hid (F.out b hb1)
          obtain ⟨x, hx⟩ : ∃ x, x = nAt l (12 + 4 * b) := ⟨_, rfl⟩
          obtain ⟨f, hf⟩ : ∃ f, f = fanN (idsOf l n) b := ⟨_, rfl⟩
          rw [← hx] at NB
          rw [← hf] at FB
          have HX := Lib.hid (And.intro hx hf)
          clear hx hf
          go_wp2_with fail
          refine NB.out.mono ?_
          rintro e w5 ⟨rfl, hb5⟩
          have H5 := Lib.hid (HB.out.2.trans (hb5.mono HB.out.2.size))
          clear hb5 NB
          go_wp2_with fail
          refine (FB.out w5 H5.out).mono ?_
          rintro e w6 ⟨rfl, rfl⟩
          clear FB
          by_cases hxf : x = f
          · subst hxf
            have d5 : ((x : Int) != (x : Int)) = false := by simp
            go_wp2_with fail
            refine ⟨⟨b + 1, rfl, hb1, Lib.hid ⟨fun c hc => ?_, H5.out⟩⟩, ?_⟩
            · rcases Nat.lt_or_ge c b with h3 | h3
              · exact HB.out.1 c h3
              · obtain rfl : c = b := by omega
                rw [← HX.out.1, ← HX.out.2]
            · simp [intOf]
              omega
          · have d5 : ((x : Int) != (f : Int)) = true := by simp; omega
            have HF := Lib.hid hxf
            clear hxf
            go_wp2_with fail
            refine bodyPost_ret (v := .tuple #[.slice none 0 0, .bool false]) (by simp [results, Try.results31, go_sem]) rfl ?_
            exact Or.inl ⟨fun h => HF.out (by have hq := h.fan b hb1; rw [← HN.out.2.1] at hq; rw [HX.out.1, HX.out.2]; exact hq), ⟨_, rfl⟩, H1.out.trans ((HR.out.2.2.trans (H5.out.mono hbw)).mono H1.out.size)⟩
        · have kb : (256 : Int) ≤ (b : Int) := by omega
          obtain rfl : b = 256 := by omega
          by_cases hw : 1036 + 44 * n + sm + 32 = s.size
          · have d5 : ((1036 + 44 * (n : Int) + sm) == (s.size : Int) - 32) = true := by simp; omega
            have HW := Lib.hid hw
            clear hw
            go_wp2_with fail
            refine bodyPost_ret (v := .tuple #[.slice ao2 n cap2, .bool true]) (by simp [results, Try.results31, go_sem]) rfl ?_
            refine Or.inr ⟨⟨HD.out, by rw [← HN.out.2.1]; exact HR.out.1.ats, by rw [← HN.out.2.1]; exact HR.out.1.szs, by rw [← HN.out.2.1]; exact HR.out.1.rise, by rw [← HN.out.2.1, HN.out.2.2, ← HSM.out]; exact HW.out, by rw [← HN.out.2.1]; exact HB.out.1⟩, ao2, cap2, rfl, HIA.out.later HB.out.2, H1.out.trans ((HR.out.2.2.trans (HB.out.2.mono hbw)).mono H1.out.size)⟩
          · have d5 : ((1036 + 44 * (n : Int) + sm) == (s.size : Int) - 32) = false := by simp; omega
            have HW := Lib.hid hw
            clear hw
            go_wp2_with fail
            refine bodyPost_ret (v := .tuple #[.slice ao2 n cap2, .bool false]) (by simp [results, Try.results31, go_sem]) rfl ?_
            exact Or.inl ⟨fun h => HW.out (by have hq := h.whole; rw [← HN.out.2.1, HN.out.2.2, ← HSM.out] at hq; exact hq), ⟨_, rfl⟩, H1.out.trans ((HR.out.2.2.trans (HB.out.2.mono hbw)).mono H1.out.size)⟩
end Go.Proofs.Ytabgpleiobpeoaa.Pak
