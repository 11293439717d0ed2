/- pack.shaped, walked: whether a pack's form is right, and its entries. Conditions: from 1112 to 4,194,304 bytes. (Layer 07.) -/
import Derived.Test.YtabgpleiobpeoaaPackFan
import Derived.Laws.Cover1
import Derived.IntWalk
namespace Go.Proofs.Ytabgpleiobpeoaa.Pak
set_option linter.unusedVariables false
open Go.RowKit Go.Sort Go.Lib
open Oct (le32 val takeR Rd Moved)
def ecellsAt (s : List UInt8) (n : Nat) : List Value := (List.range n).flatMap fun i => (entryV s i).toList
theorem ecellsAt_snoc (s : List UInt8) (n : Nat) : ecellsAt s n ++ (entryV s n).toList = ecellsAt s (n + 1) := by
  unfold ecellsAt
  rw [List.range_succ, List.flatMap_append]
  simp
theorem ecellsAt_length (s : List UInt8) : ∀ n, (ecellsAt s n).length = n * 4
  | 0 => rfl
  | n + 1 => by rw [← ecellsAt_snoc, List.length_append, ecellsAt_length s n]; show n * 4 + 4 = _; omega
theorem ecellsAt_get (s : List UInt8) (i c : Nat) (hc : c < 4) : ∀ n, i < n → (ecellsAt s n)[i * 4 + c]? = (entryV s i)[c]?
  | 0, h => absurd h (Nat.not_lt_zero _)
  | n + 1, h => by
    have hl := ecellsAt_length s n
    rw [← ecellsAt_snoc]
    rcases Nat.lt_or_ge i n with h1 | h1
    · rw [List.getElem?_append_left (by omega), ecellsAt_get s i c hc n h1]
    · obtain rfl : i = n := by omega
      rw [List.getElem?_append_right (by omega), hl, Nat.add_sub_cancel_left, Array.getElem?_toList]
theorem el_entry : ElemOk Try.prog 62 66 4 40 := ElemOk.mk' (z := .agg #[.string ⟨#[]⟩, .int .i64 0, .int .i64 0, .int .u32 0]) Try.underlying62 (by kernel_rfl) rfl
theorem entry_one (s : List UInt8) (i : Nat) : ∀ u ∈ (entryV s i).toList, u.oneCell' = true := by
  intro u hu
  simp [entryV] at hu
  rcases hu with rfl | rfl | rfl | rfl <;> rfl
/-- Slices of unlike types lie apart. -/
theorem sl_ne {w : World} {b1 b2 : Nat} {e1 e2 : TypeId} {s1 s2 n1 n2 : Nat} {v1 v2 : Value} {x1 x2 : List Value} (h1 : SlIs w b1 e1 s1 v1 n1 x1) (h2 : SlIs w b2 e2 s2 v2 n2 x2) (hne : e1 ≠ e2) : v1.ownBlock = none ∨ v1.ownBlock ≠ v2.ownBlock := by
  rcases h1.2 with ⟨rfl, _⟩ | ⟨g, off, cap, cur, rfl, _, ⟨fr, hh, _⟩, _⟩
  · exact Or.inl rfl
  · refine Or.inr fun e => ?_
    rcases h2.2 with ⟨rfl, _⟩ | ⟨g', off', cap', cur', rfl, _, ⟨fr', hh', _⟩, _⟩
    · cases e
    · have : g = g' := by simpa [Value.ownBlock] using e
      subst this
      rw [hh] at hh'
      injection hh' with hh'
      injection hh' with _ e2 _
      exact hne e2
/-- The index's entries where they lie. -/
def EntriesAt (w : World) (ao : Option Addr) (n : Nat) (s : List UInt8) : Prop :=
  0 < n → ∃ b off, ao = some ⟨b, off, none⟩ ∧ b < w.heap.size ∧ ∀ i, i < n → ∀ c, c < 4 → w.cell? ⟨b, off + i * 4 + c, none⟩ = (entryV s i)[c]?
theorem EntriesAt.later {w w' : World} {ao : Option Addr} {n : Nat} {s : List UInt8} (h : EntriesAt w ao n s) (hb : Below w.heap.size w w') : EntriesAt w' ao n s := fun hn => by
  obtain ⟨b, off, ha, hlt, hc⟩ := h hn
  exact ⟨b, off, ha, Nat.lt_of_lt_of_le hlt hb.size, fun i hi c hcc => by rw [hb.cell hlt]; exact hc i hi c hcc⟩
theorem EntriesAt.own {w : World} {base : Nat} {e : TypeId} {v : Value} {n : Nat} {s : List UInt8} (h : SlIs w base e 4 v n (ecellsAt s n)) : ∃ ao cap, v = .slice ao n cap ∧ EntriesAt w ao n s := by
  obtain ⟨ao, cap, hv, h1, h2, h3⟩ := h.form
  refine ⟨ao, cap, hv, fun hn => ?_⟩
  obtain ⟨g, off, cap', hv', hg, hlt, hc, hm, hcell, _⟩ := h.at_ hn
  rw [hv] at hv'
  injection hv' with e1 e2 e3
  refine ⟨g, off, e1, hlt, fun i hi c hcc => ?_⟩
  have hl := ecellsAt_length s n
  rw [Nat.add_assoc, hcell (i * 4 + c) (by omega), ecellsAt_get s i c hcc n hi]
theorem idsOf_snoc (s : List UInt8) (n : Nat) : scells (idsOf s n) ++ [.string ⟨(idAt s n).toArray⟩] = scells (idsOf s (n + 1)) := by
  unfold scells idsOf
  rw [List.range_succ, List.map_append, List.map_append]
  rfl
theorem idsOf_length (s : List UInt8) (n : Nat) : (idsOf s n).length = n := by simp [idsOf]
theorem idsOf_get (s : List UInt8) (n i : Nat) (h : i < (idsOf s n).length) : (idsOf s n)[i] = ⟨(idAt s i).toArray⟩ := by simp [idsOf]
theorem idAt_size (s : List UInt8) (i : Nat) (h : 1036 + 44 * i + 44 ≤ s.length) : (idAt s i).length = 32 := by
  unfold idAt
  rw [List.length_take, List.length_drop]
  omega
/-- What the rounds of shaped have found right. -/
structure Upto (s : List UInt8) (k : Nat) : Prop where
  ats : ∀ i, i < k → atAt s i = sumTo s i
  szs : ∀ i, i < k → szAt s i ≤ 131072
  rise : ∀ i, i + 1 < k → idAt s i < idAt s (i + 1)
theorem Upto.sum {s : List UInt8} : ∀ {k : Nat}, Upto s k → sumTo s k ≤ 131072 * k
  | 0, _ => Nat.zero_le _
  | k + 1, h => by
    have ih := Upto.sum (k := k) ⟨fun i hi => h.ats i (by omega), fun i hi => h.szs i (by omega), fun i hi => h.rise i (by omega)⟩
    have := h.szs k (by omega)
    unfold sumTo
    omega
theorem Upto.step {s : List UInt8} {k : Nat} (h : Upto s k) (h1 : atAt s k = sumTo s k) (h2 : szAt s k ≤ 131072) (h3 : ∀ j, j + 1 = k → idAt s j < idAt s k) : Upto s (k + 1) where
  ats i hi := by
    rcases Nat.lt_or_ge i k with h4 | h4
    · exact h.ats i h4
    · obtain rfl : i = k := by omega
      exact h1
  szs i hi := by
    rcases Nat.lt_or_ge i k with h4 | h4
    · exact h.szs i h4
    · obtain rfl : i = k := by omega
      exact h2
  rise i hi := by
    rcases Nat.lt_or_ge (i + 1) k with h4 | h4
    · exact h.rise i h4
    · obtain rfl : k = i + 1 := by omega
      exact h3 i rfl
theorem size_drewN (w : World) (n : Nat) : (w.drewN n).heap.size = w.heap.size := rfl
theorem less_list (S T : ByteArray) : Op.bytesLess S.toList T.toList = decide (S.data.toList < T.data.toList) := by
  rw [Go.Proofs.bytesLess_eq, ByteArray.toList_eq, ByteArray.toList_eq]
/-- What shaped answers. -/
def ShapedOut (s : ByteArray) (w w' : World) (e : Ending) : Prop :=
  (¬ Shaped s.data.toList ∧ (∃ v1 v2, e = .returned (.tuple #[v1, v2, .bool false])) ∧ Below w.heap.size w w') ∨
  (Shaped s.data.toList ∧ ∃ ao cap, e = .returned (.tuple #[.slice ao (many s.data.toList) cap, .string (s.extract (1036 + many s.data.toList * 44) (s.size - 32)), .bool true]) ∧ EntriesAt w' ao (many s.data.toList) s.data.toList ∧ Below w.heap.size w w')
set_option maxRecDepth 100000 in
set_option maxHeartbeats 2000000 in
theorem shaped_any (s : ByteArray) (w : World) (h : 1112 ≤ s.size) (hs : s.size ≤ 4194304) :
    Calls Try.prog 30 #[.string s] w fun e w' => ShapedOut s w w' e := by
  have C := Lib.hid (count_any s w h (by omega))
  by_cases hh : Headed s.data.toList
  case neg =>
    rw [holds_false hh] at C
    have HH := Lib.hid hh
    clear hh
    go_enter Try.func30, Try.ntmps30
    go_wp2_with fail
    refine C.out.mono ?_
    rintro e w1 ⟨rfl, hb1⟩
    have H1 := Lib.hid hb1
    clear hb1 C
    go_wp2_with fail
    refine bodyPost_ret (v := .tuple #[.slice none 0 0, .string ⟨#[]⟩, .bool false]) (by simp [results, Try.results30, go_sem]) rfl ?_
    exact Or.inl ⟨fun h => HH.out h.head, ⟨_, _, rfl⟩, H1.out⟩
  rw [holds_true hh] at C
  have hsl : s.data.toList.length = s.size := by rw [Array.length_toList]; rfl
  obtain ⟨n, hn⟩ : ∃ n, n = many s.data.toList := ⟨_, rfl⟩
  have hn1 : n ≤ 1024 := by rw [hn]; exact hh.most
  have hn0 : 1 ≤ n := by rw [hn]; exact hh.one
  have hfit : 1036 + 44 * n + 32 ≤ s.size := by rw [hn, ← hsl]; exact hh.fits
  rw [← hn] at C
  have HN := Lib.hid (And.intro hn (And.intro hh hsl))
  have E := Lib.hid (fun i (hi : i < n) w => entryAt_any s i w (by omega) (by omega) (by omega))
  clear hn hh hsl
  have k1 : 1036 + (n : Int) * 44 ≤ (s.size : Int) - 32 := by omega
  have k2 : (1112 : Int) ≤ s.size := by omega
  go_enter Try.func30, Try.ntmps30
  go_wp2_with fail
  refine C.out.mono ?_
  rintro e w1 ⟨rfl, hb1⟩
  have H1 := Lib.hid hb1
  clear hb1 C
  go_wp2_with fail
  obtain ⟨D, hD⟩ : ∃ D, D = s.extract (1036 + n * 44) (s.size - 32) := ⟨_, rfl⟩
  rw [← hD]
  have hDs : D.size + (1036 + 44 * n + 32) = s.size := by rw [hD, ByteArray.size_extract]; omega
  have HDD := Lib.hid hD
  clear hD k1 k2
  obtain ⟨l, hl⟩ : ∃ l, l = s.data.toList := ⟨_, rfl⟩
  have E := Lib.hid (show ∀ i, i < n → ∀ w, Calls Try.prog 40 #[.string s, .int .i64 (i : Int)] w fun e w' => e = .returned (.agg (entryV l i)) ∧ Below w.heap.size w w' from by rw [hl]; exact E.out)
  have HLL := Lib.hid hl
  have hlen : l.length = s.size := by rw [hl]; exact HN.out.2.2
  have HLEN := Lib.hid hlen
  clear hl hlen
  go_loopw [8, 9, 10, 29] (fun va vi sa i wr => ∃ k : Nat, i = .int .i64 (k : Int) ∧ k ≤ n ∧ sa = .int .i64 ((sumTo l k : Nat) : Int) ∧ Hid (Upto l k ∧ SlIs wr w1.heap.size 66 4 va k (ecellsAt l k) ∧ SlIs wr w1.heap.size 9 1 vi k (scells (idsOf l k)) ∧ Below w1.heap.size w1 wr)) (fun _ _ _ i _ => ((n : Int) - intOf i).toNat)
  case atStart => exact ⟨0, rfl, by omega, rfl, Lib.hid ⟨⟨fun i h => by omega, fun i h => by omega, fun i h => by omega⟩, SlIs.nil_ _ _ _ _, SlIs.nil_ _ _ _ _, Below.refl _ _⟩⟩
  case round =>
    obtain ⟨k, rfl, hk, rfl, HR⟩ := hrel
    have hbw := HR.out.2.2.2.size
    have hsum := HR.out.1.sum
    rcases Nat.lt_or_ge k n with hk1 | hk1
    · have ki : (k : Int) < n := by omega
      have EK := Lib.hid (E.out k hk1 wr)
      obtain ⟨idb, hid⟩ : ∃ idb : ByteArray, idb = ⟨(idAt l k).toArray⟩ := ⟨_, rfl⟩
      obtain ⟨at_, hat⟩ : ∃ a, a = atAt l k := ⟨_, rfl⟩
      obtain ⟨sz, hsz⟩ : ∃ a, a = szAt l k := ⟨_, rfl⟩
      obtain ⟨ck, hck⟩ : ∃ a, a = ckAt l k := ⟨_, rfl⟩
      have hev : entryV l k = #[.string idb, .int .i64 at_, .int .i64 sz, .int .u32 ck] := by rw [hid, hat, hsz, hck]; rfl
      have hszl : sz < 4294967296 := by rw [hsz]; exact nAt_lt _ _
      have hatl : at_ < 4294967296 := by rw [hat]; exact nAt_lt _ _
      have hss : sumTo l (k + 1) = sumTo l k + sz := by rw [hsz]; rfl
      obtain ⟨sm, hsm⟩ : ∃ sm, sm = sumTo l k := ⟨_, rfl⟩
      rw [← hsm] at hsum hss ⊢
      have EK := Lib.hid (show Calls Try.prog 40 #[.string s, .int .i64 (k : Int)] wr fun e w' => e = .returned (.agg #[.string idb, .int .i64 at_, .int .i64 sz, .int .u32 ck]) ∧ Below wr.heap.size wr w' from by rw [← hev]; exact EK.out)
      have HE := Lib.hid (And.intro hid (And.intro hat (And.intro hsz (And.intro hev (And.intro hss hsm)))))
      clear hid hat hsz hck hev hss hsm
      go_wp2_with fail
      refine EK.out.mono ?_
      rintro e w2 ⟨rfl, hb2⟩
      have H2 := Lib.hid (show ∃ W, W = w2.alloc (.cells #[.string idb, .int .i64 at_, .int .i64 sz, .int .u32 ck] 66) ∧ BlkIs W w2.heap.size 66 #[.string idb, .int .i64 at_, .int .i64 sz, .int .u32 ck] ∧ Below wr.heap.size wr W from ⟨_, rfl, BlkIs.new _ _ _, hb2.alloc hb2.size _⟩)
      have hwr2 := hb2.size
      clear hb2 EK
      go_upto_region 12 with (fail)
      obtain ⟨W, hW, H2⟩ := H2.out
      rw [← hW]
      have H3 := Lib.hid (show BlkIs W w2.heap.size 66 #[.string idb, .int .i64 at_, .int .i64 sz, .int .u32 ck] ∧ SlIs W w1.heap.size 66 4 u8 k (ecellsAt l k) ∧ SlIs W w1.heap.size 9 1 u9 k (scells (idsOf l k)) ∧ Below w1.heap.size w1 W from
        ⟨H2.1, HR.out.2.1.later H2.2, HR.out.2.2.1.later H2.2, HR.out.2.2.2.trans (H2.2.mono hbw)⟩)
      have hbW := H3.out.2.2.2.size
      clear hW H2
      obtain ⟨ao1, cap1, hv1, hnc1, hcm1, hao1⟩ := H3.out.2.1.form
      obtain ⟨ao2, cap2, hv2, hnc2, hcm2, hao2⟩ := H3.out.2.2.1.form
      subst hv1 hv2
      have x0 : W.cell? ⟨w2.heap.size, 0, none⟩ = some (.string idb) := H3.out.1.cell 0
      have x1 : W.cell? ⟨w2.heap.size, 1, none⟩ = some (.int .i64 at_) := H3.out.1.cell 1
      have x2 : W.cell? ⟨w2.heap.size, 2, none⟩ = some (.int .i64 sz) := H3.out.1.cell 2
      have x3 : W.cell? ⟨w2.heap.size, 3, none⟩ = some (.int .u32 ck) := H3.out.1.cell 3
      by_cases hA : at_ = sm
      case neg =>
        have d1 : ((at_ : Int) != (sm : Int)) = true := by simp; omega
        have HA := Lib.hid hA
        clear hA
        go_quiet (fail)
        go_wp2_with fail
        refine bodyPost_ret (v := .tuple #[.slice none 0 0, .string ⟨#[]⟩, .bool false]) (by simp [results, Try.results30, go_sem]) rfl ?_
        exact Or.inl ⟨fun h => HA.out (by rw [HE.out.2.1, HE.out.2.2.2.2.2]; rw [← HLL.out] at h; exact h.ats k (by rw [HLL.out, ← HN.out.1]; exact hk1)), ⟨_, _, rfl⟩, H1.out.trans ((below_drewN H3.out.2.2.2 _).mono H1.out.size)⟩
      case pos =>
        subst hA
        have d0 : ((at_ : Int) != (at_ : Int)) = false := by simp
        by_cases hB : sz ≤ 131072
        case neg =>
          have d1 : decide ((131072 : Int) < sz) = true := decide_eq_true (by omega)
          have HB := Lib.hid hB
          clear hB
          go_quiet (fail)
          go_wp2_with fail
          refine bodyPost_ret (v := .tuple #[.slice none 0 0, .string ⟨#[]⟩, .bool false]) (by simp [results, Try.results30, go_sem]) rfl ?_
          exact Or.inl ⟨fun h => HB.out (by rw [HE.out.2.2.1]; rw [← HLL.out] at h; exact h.szs k (by rw [HLL.out, ← HN.out.1]; exact hk1)), ⟨_, _, rfl⟩, H1.out.trans ((below_drewN H3.out.2.2.2 _).mono H1.out.size)⟩
        case pos =>
          have d1 : decide ((131072 : Int) < sz) = false := decide_eq_false (by omega)
          have HB := Lib.hid hB
          rcases Nat.eq_zero_or_pos k with hk0 | hk0
          · have d2 : decide (0 < k) = false := decide_eq_false (by omega)
            have HK0 := Lib.hid hk0
            clear hk0 hB
            go_quiet (fail)
            clear d0 d1 d2
            have hmk := HR.out.2.1
            go_upto_region 16 with (at_builtin
                                    refine wpList_append_sl rfl _ _ _ 62 rfl el_entry (.slice ao1 k cap1) k (ecellsAt l k) rfl ((H3.out.2.1.drewN _).alloc _) _ 1 [.string idb, .int .i64 at_, .int .i64 sz, .int .u32 ck] rfl (SrcIs.own Try.underlying62 (SlIs.made (base := 0) (BlkIs.new _ _ _) (Nat.zero_le _) rfl (by decide))) (by intro u hu; simp at hu; rcases hu with rfl | rfl | rfl | rfl <;> rfl) (by unfold maxLen; omega) (by omega) (by simp only [World.size_alloc, size_drewN]; omega) ?_
                                    intro v5 w5 hs1 hg1 hat1
                                    have hids := ((H3.out.2.2.1.drewN nq).alloc (.cells #[.string idb, .int .i64 at_, .int .i64 sz, .int .u32 ck] 66)).kept hg1 (sl_ne H3.out.2.2.1 H3.out.2.1 (by decide))
                                    have hb5 := ((below_drewN H3.out.2.2.2 nq).alloc (by simp only [size_drewN]; omega) (.cells #[.string idb, .int .i64 at_, .int .i64 sz, .int .u32 ck] 66)).grown hg1 (by simp only [World.size_alloc, size_drewN]; omega) fun j hj => (H3.out.2.1.lt j hj).1
                                    have hk5 : BlkIs w5 w2.heap.size 66 #[.string idb, .int .i64 at_, .int .i64 sz, .int .u32 ck] := ((H3.out.1.drewN nq).alloc _).grown hg1 (fun e => by have := (hmk.lt _ e.symm).2; have := H3.out.1.lt; omega)
                                    rw [show [Value.string idb, .int .i64 at_, .int .i64 sz, .int .u32 ck] = (entryV l k).toList from by rw [HE.out.2.2.2.1], ecellsAt_snoc] at hs1
                                    have H5 := Lib.hid (And.intro hs1 (And.intro hids (And.intro hk5 hb5)))
                                    clear hs1 hids hb5 hk5 hg1 hat1)
            have y0 : w5.cell? ⟨w2.heap.size, 0, none⟩ = some (.string idb) := H5.out.2.2.1.cell 0
            have hbw5 := H5.out.2.2.2.size
            go_wp2_with (at_builtin
                         refine wpList_append_sl rfl _ _ _ 22 rfl el_str (.slice ao2 k cap2) k (scells (idsOf l k)) rfl (H5.out.2.1.alloc _) _ 1 [.string idb] rfl (SrcIs.own Try.underlying22 (SlIs.made (base := 0) (BlkIs.new _ _ _) (Nat.zero_le _) rfl (by decide))) (by intro u hu; rcases List.mem_singleton.1 hu with rfl; rfl) (by unfold maxLen; omega) (by omega) (by simp only [World.size_alloc]; omega) ?_
                         intro v6 w6 hs1 hg1 hat1
                         have hen := (H5.out.1.alloc (.cells #[.string idb] 9)).kept hg1 (sl_ne H5.out.1 H5.out.2.1 (by decide))
                         have hb6 := (H5.out.2.2.2.alloc hbw5 (.cells #[.string idb] 9)).grown hg1 (by simp only [World.size_alloc]; omega) fun j hj => (H5.out.2.1.lt j hj).1
                         rw [HE.out.1, idsOf_snoc] at hs1
                         have H6 := Lib.hid (And.intro hen (And.intro hs1 hb6))
                         clear hs1 hen hb6 hg1 hat1)
            refine ⟨⟨k + 1, rfl, hk1, by rw [HE.out.2.2.2.2.1]; rfl, Lib.hid ⟨HR.out.1.step (by rw [← HE.out.2.1, ← HE.out.2.2.2.2.2]) (by rw [← HE.out.2.2.1]; exact HB.out) (fun j hj => by have := HK0.out; omega), H6.out⟩⟩, ?_⟩
            simp [intOf]
            omega
          · obtain ⟨j, hj⟩ : ∃ j, k = j + 1 := ⟨k - 1, by omega⟩
            have d2 : decide (0 < k) = true := decide_eq_true (by omega)
            obtain ⟨b2, off2, cap2', hv2', hg2, hlt2, hc2, hm2, hcell2, _⟩ := H3.out.2.2.1.at_ (by omega)
            injection hv2' with e1 e2 e3
            subst e1 e3
            have xj : W.cell? ⟨b2, off2 + j, none⟩ = some (.string ⟨(idAt l j).toArray⟩) := by
              rw [hcell2 j (by rw [scells, List.length_map, idsOf_length]; omega)]
              simp [scells, idsOf, show j < k by omega]
            obtain ⟨idj, hidj⟩ : ∃ idj : ByteArray, idj = ⟨(idAt l j).toArray⟩ := ⟨_, rfl⟩
            rw [← hidj] at xj
            have HJ := Lib.hid (And.intro hj hidj)
            have e1 : (k : Int) - 1 = (j : Int) := by omega
            have e1' : IntKind.i64.wrap ((k : Int) - 1) = (j : Int) := by rw [e1]; exact IntWalk.i64_in _ (by omega)
            have jk : (j : Int) < k := by omega
            have hll : Op.bytesLess idj.toList idb.toList = decide (idAt l j < idAt l k) := by rw [less_list, hidj, HE.out.1]
            clear hj hk0 hB hidj hcell2
            by_cases hC : idAt l j < idAt l k
            · rw [decide_eq_true hC] at hll
              have HC := Lib.hid hC
              clear hC
              go_quiet (fail)
              clear d0 d1 d2 e1 e1' hll jk
              have hmk := HR.out.2.1
              go_upto_region 16 with (at_builtin
                                      refine wpList_append_sl rfl _ _ _ 62 rfl el_entry (.slice ao1 k cap1) k (ecellsAt l k) rfl ((H3.out.2.1.drewN _).alloc _) _ 1 [.string idb, .int .i64 at_, .int .i64 sz, .int .u32 ck] rfl (SrcIs.own Try.underlying62 (SlIs.made (base := 0) (BlkIs.new _ _ _) (Nat.zero_le _) rfl (by decide))) (by intro u hu; simp at hu; rcases hu with rfl | rfl | rfl | rfl <;> rfl) (by unfold maxLen; omega) (by omega) (by simp only [World.size_alloc, size_drewN]; omega) ?_
                                      intro v5 w5 hs1 hg1 hat1
                                      have hids := ((H3.out.2.2.1.drewN nq).alloc (.cells #[.string idb, .int .i64 at_, .int .i64 sz, .int .u32 ck] 66)).kept hg1 (sl_ne H3.out.2.2.1 H3.out.2.1 (by decide))
                                      have hb5 := ((below_drewN H3.out.2.2.2 nq).alloc (by simp only [size_drewN]; omega) (.cells #[.string idb, .int .i64 at_, .int .i64 sz, .int .u32 ck] 66)).grown hg1 (by simp only [World.size_alloc, size_drewN]; omega) fun j hj => (H3.out.2.1.lt j hj).1
                                      have hk5 : BlkIs w5 w2.heap.size 66 #[.string idb, .int .i64 at_, .int .i64 sz, .int .u32 ck] := ((H3.out.1.drewN nq).alloc _).grown hg1 (fun e => by have := (hmk.lt _ e.symm).2; have := H3.out.1.lt; omega)
                                      rw [show [Value.string idb, .int .i64 at_, .int .i64 sz, .int .u32 ck] = (entryV l k).toList from by rw [HE.out.2.2.2.1], ecellsAt_snoc] at hs1
                                      have H5 := Lib.hid (And.intro hs1 (And.intro hids (And.intro hk5 hb5)))
                                      clear hs1 hids hb5 hk5 hg1 hat1)
              have y0 : w5.cell? ⟨w2.heap.size, 0, none⟩ = some (.string idb) := H5.out.2.2.1.cell 0
              have hbw5 := H5.out.2.2.2.size
              go_wp2_with (at_builtin
                           refine wpList_append_sl rfl _ _ _ 22 rfl el_str (.slice (some ⟨b2, off2, none⟩) k cap2) k (scells (idsOf l k)) rfl (H5.out.2.1.alloc _) _ 1 [.string idb] rfl (SrcIs.own Try.underlying22 (SlIs.made (base := 0) (BlkIs.new _ _ _) (Nat.zero_le _) rfl (by decide))) (by intro u hu; rcases List.mem_singleton.1 hu with rfl; rfl) (by unfold maxLen; omega) (by omega) (by simp only [World.size_alloc]; omega) ?_
                           intro v6 w6 hs1 hg1 hat1
                           have hen := (H5.out.1.alloc (.cells #[.string idb] 9)).kept hg1 (sl_ne H5.out.1 H5.out.2.1 (by decide))
                           have hb6 := (H5.out.2.2.2.alloc hbw5 (.cells #[.string idb] 9)).grown hg1 (by simp only [World.size_alloc]; omega) fun j hj => (H5.out.2.1.lt j hj).1
                           rw [HE.out.1, idsOf_snoc] at hs1
                           have H6 := Lib.hid (And.intro hen (And.intro hs1 hb6))
                           clear hs1 hen hb6 hg1 hat1)
              refine ⟨⟨k + 1, rfl, hk1, by rw [HE.out.2.2.2.2.1]; rfl, Lib.hid ⟨HR.out.1.step (by rw [← HE.out.2.1, ← HE.out.2.2.2.2.2]) (by rw [← HE.out.2.2.1]; exact HB.out) (fun i hi => by have e1 := HJ.out.1; (have e2 : i = j := (by omega)); rw [e2]; exact HC.out), H6.out⟩⟩, ?_⟩
              simp [intOf]
              omega
            · rw [decide_eq_false hC] at hll
              have HC := Lib.hid hC
              clear hC
              go_quiet (fail)
              go_wp2_with fail
              refine bodyPost_ret (v := .tuple #[.slice none 0 0, .string ⟨#[]⟩, .bool false]) (by simp [results, Try.results30, go_sem]) rfl ?_
              exact Or.inl ⟨fun h => HC.out (by rw [← HLL.out] at h; have := h.rise j (by rw [← HJ.out.1, HLL.out, ← HN.out.1]; exact hk1); rw [← HJ.out.1] at this; exact this), ⟨_, _, rfl⟩, H1.out.trans ((below_drewN H3.out.2.2.2 _).mono H1.out.size)⟩
    · have hkn : n = k := by omega
      subst hkn
      have ki : decide ((n : Int) < n) = false := by simp
      obtain ⟨ids, hids⟩ : ∃ ids, ids = idsOf l n := ⟨_, rfl⟩
      have hlm : n = ids.length := by rw [hids, idsOf_length]
      have HI := HR.out.2.2.1
      rw [← hids] at HI
      have HI1 := HI
      rw [hlm] at HI1
      obtain ⟨ao2, cap2, hv2, hSA⟩ := StrsAt.own HI1
      rw [← hlm] at hv2
      subst hv2
      obtain ⟨ao1, cap1, hv1, hEN⟩ := EntriesAt.own HR.out.2.1
      subst hv1
      have FA := Lib.hid (fun w' (hb : Below wr.heap.size wr w') => fan_any ao2 cap2 ids w' (hSA.later hb) (by rw [hids]; exact firsts_of_steps HR.out.1.rise (by rw [HLEN.out]; omega)) (fun x hx => by
        rw [hids] at hx
        obtain ⟨i, hi, rfl⟩ := List.mem_map.1 hx
        have := idAt_size l i (by rw [HLEN.out]; have := List.mem_range.1 hi; omega)
        show 0 < (idAt l i).length
        omega) (by omega))
      rw [← hlm] at FA
      obtain ⟨F, hF⟩ : ∃ F : ByteArray, F = ⟨(fanB ids 256).toArray⟩ := ⟨_, rfl⟩
      rw [← hF] at FA
      have hXF : s.extract 12 1036 = F ↔ ∀ b, b < 256 → nAt l (12 + 4 * b) = fanN ids b := by
        rw [← fan_lies l ids (by omega) 256 (by rw [HLEN.out]; omega), hF]
        constructor
        · intro e
          have := congrArg (fun x : ByteArray => x.data.toList) e
          simpa [ext_list, ← HLL.out] using this
        · intro e
          apply arr_list
          rw [ext_list, ← HLL.out]
          exact e
      have HX := Lib.hid (And.intro hXF (And.intro hids hEN))
      have hmany : many l = n := by rw [HLL.out]; exact HN.out.1.symm
      have HM := Lib.hid hmany
      clear hXF hF hids hEN hlm HI HI1 hSA hmany
      obtain ⟨sm, hsm⟩ : ∃ sm, sm = sumTo l n := ⟨_, rfl⟩
      rw [← hsm] at hsum ⊢
      have HS := Lib.hid hsm
      clear hsm
      by_cases hA : sm = D.size
      · have d1 : ((sm : Int) == (D.size : Int)) = true := by simp; omega
        have HA := Lib.hid hA
        clear hA
        by_cases hF : s.extract 12 1036 = F
        · have hz : ((s.extract 12 1036).toList == F.toList) = true := by rw [hF]; simp
          have HF := Lib.hid hF
          clear hF
          go_wp2_with fail
          refine wp_region_heads (fun w' => ∃ u : LaterOf wr, w' = u.w) 15 (by kernel_rfl) (by kernel_rfl) ⟨LaterOf.start wr, rfl⟩ ?_
          simp only [List.take_succ_cons, List.take_zero, List.drop_succ_cons, List.drop_zero]
          repeat (go_big_quiet_step (first | with_reducible exact LaterOf.call _ (FA.out _ (LaterOf.h _))))
          refine wpQuiet_nil ?_
          intro w8 hw8
          obtain ⟨u, hu⟩ := hw8
          have HU := Lib.hid (show Below wr.heap.size wr w8 from by rw [hu]; exact u.h)
          clear hu u
          go_wp2_with fail
          refine bodyPost_ret (v := .tuple #[.slice ao1 n cap1, .string D, .bool true]) (by simp [results, Try.results30, go_sem]) rfl ?_
          have hsh : Shaped l := ⟨by rw [HLL.out]; exact HN.out.2.1, by rw [HM.out]; exact HR.out.1.ats, by rw [HM.out]; exact HR.out.1.szs, by rw [HM.out]; exact HR.out.1.rise, by rw [HM.out, ← HS.out, HLEN.out, HA.out]; omega, by rw [HM.out, ← HX.out.2.1]; exact HX.out.1.1 HF.out⟩
          refine Or.inr ⟨by rw [← HLL.out]; exact hsh, ao1, cap1, by rw [← HN.out.1, HDD.out], ?_, H1.out.trans ((HR.out.2.2.2.trans (HU.out.mono hbw)).mono H1.out.size)⟩
          rw [← HLL.out, HM.out]
          exact HX.out.2.2.later HU.out
        · have hz := ne_list hF
          have HF := Lib.hid hF
          clear hF
          go_wp2_with fail
          refine wp_region_heads (fun w' => ∃ u : LaterOf wr, w' = u.w) 15 (by kernel_rfl) (by kernel_rfl) ⟨LaterOf.start wr, rfl⟩ ?_
          simp only [List.take_succ_cons, List.take_zero, List.drop_succ_cons, List.drop_zero]
          repeat (go_big_quiet_step (first | with_reducible exact LaterOf.call _ (FA.out _ (LaterOf.h _))))
          refine wpQuiet_nil ?_
          intro w8 hw8
          obtain ⟨u, hu⟩ := hw8
          have HU := Lib.hid (show Below wr.heap.size wr w8 from by rw [hu]; exact u.h)
          clear hu u
          go_wp2_with fail
          refine bodyPost_ret (v := .tuple #[.slice ao1 n cap1, .string D, .bool false]) (by simp [results, Try.results30, go_sem]) rfl ?_
          exact Or.inl ⟨fun h => HF.out (HX.out.1.2 (by rw [← HLL.out] at h; have := h.fan; rw [HM.out, ← HX.out.2.1] at this; exact this)), ⟨_, _, rfl⟩, H1.out.trans ((HR.out.2.2.2.trans (HU.out.mono hbw)).mono H1.out.size)⟩
      · have d1 : ((sm : Int) == (D.size : Int)) = false := by simp; omega
        have HA := Lib.hid hA
        clear hA
        go_wp2_with fail
        go_quiet (fail)
        go_wp2_with fail
        refine bodyPost_ret (v := .tuple #[.slice ao1 n cap1, .string D, .bool false]) (by simp [results, Try.results30, go_sem]) rfl ?_
        exact Or.inl ⟨fun h => HA.out (by rw [← HLL.out] at h; have := h.whole; rw [HM.out, ← HS.out, HLEN.out] at this; omega), ⟨_, _, rfl⟩, H1.out.trans ((below_drewN HR.out.2.2.2 _).mono H1.out.size)⟩
end Go.Proofs.Ytabgpleiobpeoaa.Pak
