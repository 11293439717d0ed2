/- pack.number, entryAt, count, walked. Conditions: at most 2^47 bytes, the places within them. (Layer 07.) -/
import Derived.Test.YtabgpleiobpeoaaPack3
import Derived.Test.YtabgpleiobpeoaaBytes
namespace Go.Proofs.Ytabgpleiobpeoaa.Pak
set_option linter.unusedVariables false
open Go.RowKit Go.Sort Go.Lib
open Oct (le32 val takeR Rd Moved)
theorem ext_list (s : ByteArray) (a b : Nat) : (s.extract a b).data.toList = (s.data.toList.drop a).take (b - a) := by
  rw [ByteArray.data_extract, Array.toList_extract]
theorem takeR_all (r : ByteArray) (n : Nat) (h : r.size = n) : takeR r false n = (r, ⟨#[]⟩, false) := by
  have := Oct.takeR_app r ⟨#[]⟩ n (by omega)
  have e : r ++ (⟨#[]⟩ : ByteArray) = r := by
    apply data_inj
    rw [app_list]
    simp
  rwa [e] at this
theorem val_lt : ∀ (l : List UInt8), val l < 256 ^ l.length
  | [] => by simp [val]
  | b :: r => by
    have := val_lt r
    have hb := b.toNat_lt
    rw [List.length_cons, Nat.pow_succ, val]
    omega
theorem nAt_lt (s : List UInt8) (k : Nat) : nAt s k < 4294967296 := by
  have h := val_lt ((s.drop k).take 4)
  have h2 : ((s.drop k).take 4).length ≤ 4 := List.length_take_le _ _
  have : 256 ^ ((s.drop k).take 4).length ≤ 256 ^ 4 := Nat.pow_le_pow_right (by decide) h2
  unfold nAt
  omega
set_option maxRecDepth 100000 in
theorem number_any (s : ByteArray) (k : Nat) (w : World) (h : k + 4 ≤ s.size) (hs : s.size ≤ 140737488355328) :
    Calls Try.prog 58 #[.string s, .int .i64 (k : Int)] w fun e w' => e = .returned (.int .i64 ((nAt s.data.toList k : Nat) : Int)) ∧ Below w.heap.size w w' := by
  have k1 : (k : Int) + 4 ≤ s.size := by omega
  go_enter Try.func58, Try.ntmps58
  go_wp2_with fail
  have z : (s.extract k (k + 4)).size = 4 := by rw [ByteArray.size_extract]; omega
  have hv : val (takeR (s.extract k (k + 4)) false 4).1.data.toList = nAt s.data.toList k := by
    rw [show (4 : Int) = ((4 : Nat) : Int) from rfl, takeR_all _ 4 z, ext_list, Nat.add_sub_cancel_left]
    rfl
  generalize s.extract k (k + 4) = r at *
  refine (Oct.rd_new r w).mono ?_
  rintro e w1 ⟨rfl, h1, hb1⟩
  have H1 := Lib.hid hb1
  have R := Lib.hid (Oct.rd_num _ r false w1 h1)
  rw [hv] at R
  have hlt : nAt s.data.toList k < 4294967296 := by rw [← hv]; exact Oct.val_takeR _ _
  obtain ⟨n, hn⟩ : ∃ n, n = nAt s.data.toList k := ⟨_, rfl⟩
  rw [← hn] at R hlt
  have HN := Lib.hid hn
  clear hn
  clear hb1 h1 hv z
  go_wp2_with fail
  refine R.out.mono ?_
  rintro e w2 ⟨rfl, _, hm⟩
  have H2 := Lib.hid (H1.out.trans (hm.below H1.out.size))
  clear hm R
  have hmod : wrap64 (n : Int) = n := by unfold wrap64; omega
  go_wp2_with fail
  go_ret
  exact ⟨by rw [← HN.out]; rfl, H2.out⟩
/-- What the index tells of an object. -/
def entryV (s : List UInt8) (i : Nat) : Array Value := #[.string ⟨(idAt s i).toArray⟩, .int .i64 (atAt s i : Nat), .int .i64 (szAt s i : Nat), .int .u32 (ckAt s i : Nat)]
theorem arr_list (s : ByteArray) (l : List UInt8) (h : s.data.toList = l) : s = ⟨l.toArray⟩ := by
  subst h
  rfl
theorem take_mid (r : ByteArray) (a m : Nat) (h : a + m ≤ r.size) : takeR (r.extract a r.size) false (m : Nat) = (r.extract a (a + m), r.extract (a + m) r.size, false) := by
  have hs : (r.extract a r.size).size = r.size - a := by rw [ByteArray.size_extract]; omega
  unfold takeR
  rw [if_pos ⟨rfl, by omega, by omega⟩, Int.toNat_natCast]
  refine Prod.ext ?_ (Prod.ext ?_ rfl)
  · apply data_inj
    rw [ext_list, ext_list, ext_list, List.drop_zero, List.take_take]
    congr 1
    omega
  · apply data_inj
    rw [ext_list, ext_list, ext_list, hs, List.drop_take, List.drop_drop, List.take_take]
    congr 1
    omega
theorem take_first (r : ByteArray) (m : Nat) (h : m ≤ r.size) : takeR r false (m : Nat) = (r.extract 0 m, r.extract m r.size, false) := by
  unfold takeR
  rw [if_pos ⟨rfl, by omega, by omega⟩, Int.toNat_natCast]
theorem entry_list (s : ByteArray) (i : Nat) (h : 1036 + 44 * i + 44 ≤ s.size) : (s.extract (1036 + i * 44) (1036 + (i + 1) * 44)).size = 44 ∧ (s.extract (1036 + i * 44) (1036 + (i + 1) * 44)).data.toList = (s.data.toList.drop (1036 + 44 * i)).take 44 := by
  constructor
  · rw [ByteArray.size_extract]; omega
  · rw [ext_list, show 1036 + i * 44 = 1036 + 44 * i by omega, show 1036 + (i + 1) * 44 - (1036 + 44 * i) = 44 by omega]
theorem entry_id (s r : ByteArray) (i : Nat) (h : r.data.toList = (s.data.toList.drop (1036 + 44 * i)).take 44) : r.extract 0 32 = ⟨(idAt s.data.toList i).toArray⟩ := by
  apply arr_list
  rw [ext_list, h, List.drop_zero, List.take_take]
  rfl
theorem entry_num (s r : ByteArray) (i k : Nat) (hk : k + 4 ≤ 44) (h : r.data.toList = (s.data.toList.drop (1036 + 44 * i)).take 44) : val (r.extract k (k + 4)).data.toList = nAt s.data.toList (1036 + 44 * i + k) := by
  unfold nAt
  rw [ext_list, h, List.drop_take, List.drop_drop, List.take_take]
  congr 2
  omega
set_option maxRecDepth 100000 in
theorem entryAt_any (s : ByteArray) (i : Nat) (w : World) (h : 1036 + 44 * i + 44 ≤ s.size) (hi : i ≤ 1024) (hs : s.size ≤ 140737488355328) :
    Calls Try.prog 40 #[.string s, .int .i64 (i : Int)] w fun e w' => e = .returned (.agg (entryV s.data.toList i)) ∧ Below w.heap.size w w' := by
  have k1 : 1036 + ((i : Int) + 1) * 44 ≤ s.size := by omega
  have hp := entry_list s i h
  obtain ⟨r, hr⟩ : ∃ r, r = s.extract (1036 + i * 44) (1036 + (i + 1) * 44) := ⟨_, rfl⟩
  rw [← hr] at hp
  have HR := Lib.hid (And.intro hr hp)
  clear hr hp
  go_enter Try.func40, Try.ntmps40
  go_wp2_with fail
  rw [← HR.out.1]
  refine (Oct.rd_new r _).mono ?_
  rintro e w1 ⟨rfl, h1, hb1⟩
  simp only [World.size_alloc] at h1 hb1 ⊢
  have hz1 : w.heap.size + 1 < w1.heap.size := h1.lt
  have e1 : takeR r false 32 = (r.extract 0 32, r.extract 32 r.size, false) := take_first r 32 (by rw [HR.out.2.1]; decide)
  have R1 := Lib.hid (by have := Oct.rd_take (w.heap.size + 1) r false 32 w1 h1; rw [e1, entry_id s r i HR.out.2.2] at this; exact this)
  have H1 := Lib.hid (show BlkIs w1 w.heap.size 66 #[.string ⟨#[]⟩, .int .i64 0, .int .i64 0, .int .u32 0] ∧ Below w.heap.size w w1 from
    ⟨(BlkIs.new w 66 _).below hb1 (by omega), ((Below.refl w.heap.size w).alloc (Nat.le_refl _) _).trans (hb1.mono (by omega))⟩)
  obtain ⟨idb, hidb⟩ : ∃ idb : ByteArray, idb = ⟨(idAt s.data.toList i).toArray⟩ := ⟨_, rfl⟩
  rw [← hidb] at R1
  have HID := Lib.hid hidb
  clear h1 hb1 e1 hidb
  go_wp2_with fail
  refine R1.out.mono ?_
  rintro e w2 ⟨rfl, h2, hm2⟩
  have hz2 : w1.heap.size ≤ w2.heap.size := hm2.size
  have H2 := Lib.hid (show BlkIs w2 w.heap.size 66 #[.string ⟨#[]⟩, .int .i64 0, .int .i64 0, .int .u32 0] ∧ Below w.heap.size w w2 ∧ Rd w2 (w.heap.size + 1) (r.extract 32 r.size) false from
    ⟨hm2.blk H1.out.1 (by omega), H1.out.2.trans ((hm2.below (by omega)).mono (by omega)), h2⟩)
  clear h2 hm2 R1 H1
  go_wp2_with fail
  have HA := Lib.hid (show Rd (w2.alloc (.cells #[.string idb, .int .i64 0, .int .i64 0, .int .u32 0] 66)) (w.heap.size + 1) (r.extract 32 r.size) false ∧ BlkIs (w2.alloc (.cells #[.string idb, .int .i64 0, .int .i64 0, .int .u32 0] 66)) w.heap.size 66 #[.string ⟨#[]⟩, .int .i64 0, .int .i64 0, .int .u32 0] ∧ BlkIs (w2.alloc (.cells #[.string idb, .int .i64 0, .int .i64 0, .int .u32 0] 66)) w2.heap.size 66 #[.string idb, .int .i64 0, .int .i64 0, .int .u32 0] ∧ Below w.heap.size w (w2.alloc (.cells #[.string idb, .int .i64 0, .int .i64 0, .int .u32 0] 66)) from
    ⟨H2.out.2.2.alloc _, H2.out.1.alloc _, BlkIs.new _ _ _, H2.out.2.1.alloc (by omega) _⟩)
  clear H2
  have q1 : takeR (r.extract 32 r.size) false 4 = (r.extract 32 (32 + 4), r.extract (32 + 4) r.size, false) := take_mid r 32 4 (by rw [HR.out.2.1]; decide)
  have N1 := Lib.hid (by have := Oct.rd_num (w.heap.size + 1) (r.extract 32 r.size) false _ HA.out.1; rw [q1, entry_num s r i 32 (by decide) HR.out.2.2] at this; exact this)
  have l1 : nAt s.data.toList (1036 + 44 * i + 32) < 4294967296 := nAt_lt _ _
  obtain ⟨m1, hm1⟩ : ∃ m, m = nAt s.data.toList (1036 + 44 * i + 32) := ⟨_, rfl⟩
  rw [← hm1] at N1 l1
  have HM1 := Lib.hid hm1
  have mod1 : wrap64 (m1 : Int) = m1 := by unfold wrap64; omega
  clear q1 hm1
  refine N1.out.mono ?_
  rintro e w3 ⟨rfl, hr1, hm1⟩
  have H3 := Lib.hid (show Rd w3 (w.heap.size + 1) (r.extract 36 r.size) false ∧ BlkIs w3 w.heap.size 66 #[.string ⟨#[]⟩, .int .i64 0, .int .i64 0, .int .u32 0] ∧ BlkIs w3 w2.heap.size 66 #[.string idb, .int .i64 0, .int .i64 0, .int .u32 0] ∧ Below w.heap.size w w3 from
    ⟨hr1, hm1.blk HA.out.2.1 (by omega), hm1.blk HA.out.2.2.1 (by omega), HA.out.2.2.2.trans ((hm1.below (by have := HA.out.1.lt; omega)).mono (by omega))⟩)
  clear hr1 hm1 N1 HA
  go_wp2_with fail
  have q2 : takeR (r.extract 36 r.size) false 4 = (r.extract 36 (36 + 4), r.extract (36 + 4) r.size, false) := take_mid r 36 4 (by rw [HR.out.2.1]; decide)
  have N2 := Lib.hid (by have := Oct.rd_num (w.heap.size + 1) (r.extract 36 r.size) false w3 H3.out.1; rw [q2, entry_num s r i 36 (by decide) HR.out.2.2] at this; exact this)
  have l2 : nAt s.data.toList (1036 + 44 * i + 36) < 4294967296 := nAt_lt _ _
  obtain ⟨m2, hm2⟩ : ∃ m, m = nAt s.data.toList (1036 + 44 * i + 36) := ⟨_, rfl⟩
  rw [← hm2] at N2 l2
  have HM2 := Lib.hid hm2
  have mod2 : wrap64 (m2 : Int) = m2 := by unfold wrap64; omega
  clear q2 hm2
  refine N2.out.mono ?_
  rintro e w4 ⟨rfl, hr2, hm2⟩
  have H4 := Lib.hid (show Rd w4 (w.heap.size + 1) (r.extract 40 r.size) false ∧ BlkIs w4 w.heap.size 66 #[.string ⟨#[]⟩, .int .i64 0, .int .i64 0, .int .u32 0] ∧ BlkIs w4 w2.heap.size 66 #[.string idb, .int .i64 0, .int .i64 0, .int .u32 0] ∧ Below w.heap.size w w4 from
    ⟨hr2, hm2.blk H3.out.2.1 (by omega), hm2.blk H3.out.2.2.1 (by omega), H3.out.2.2.2.trans ((hm2.below (by have := H3.out.1.lt; omega)).mono (by omega))⟩)
  clear hr2 hm2 N2 H3
  go_wp2_with fail
  have q3 : takeR (r.extract 40 r.size) false 4 = (r.extract 40 (40 + 4), r.extract (40 + 4) r.size, false) := take_mid r 40 4 (by rw [HR.out.2.1]; decide)
  have N3 := Lib.hid (by have := Oct.rd_num (w.heap.size + 1) (r.extract 40 r.size) false w4 H4.out.1; rw [q3, entry_num s r i 40 (by decide) HR.out.2.2] at this; exact this)
  have l3 : nAt s.data.toList (1036 + 44 * i + 40) < 4294967296 := nAt_lt _ _
  obtain ⟨m3, hm3⟩ : ∃ m, m = nAt s.data.toList (1036 + 44 * i + 40) := ⟨_, rfl⟩
  rw [← hm3] at N3 l3
  have HM3 := Lib.hid hm3
  have mod3 : wrap64 (m3 : Int) = m3 := by unfold wrap64; omega
  clear q3 hm3
  refine N3.out.mono ?_
  rintro e w5 ⟨rfl, hr3, hm3⟩
  have H5 := Lib.hid (show Rd w5 (w.heap.size + 1) (r.extract 44 r.size) false ∧ BlkIs w5 w.heap.size 66 #[.string ⟨#[]⟩, .int .i64 0, .int .i64 0, .int .u32 0] ∧ BlkIs w5 w2.heap.size 66 #[.string idb, .int .i64 0, .int .i64 0, .int .u32 0] ∧ Below w.heap.size w w5 from
    ⟨hr3, hm3.blk H4.out.2.1 (by omega), hm3.blk H4.out.2.2.1 (by omega), H4.out.2.2.2.trans ((hm3.below (by have := H4.out.1.lt; omega)).mono (by omega))⟩)
  clear hr3 hm3 N3 H4
  have x0 := H5.out.2.1.cell 0
  have x1 := H5.out.2.1.cell 1
  have x2 := H5.out.2.1.cell 2
  have x3 := H5.out.2.1.cell 3
  have y0 := H5.out.2.2.1.cell 0
  have y1 := H5.out.2.2.1.cell 1
  have y2 := H5.out.2.2.1.cell 2
  have y3 := H5.out.2.2.1.cell 3
  have fx := fun j => H5.out.2.1.free j
  have fy := fun j => H5.out.2.2.1.free j
  have hne : w.heap.size ≠ w2.heap.size := by omega
  have hne' : ¬ w2.heap.size = w.heap.size := by omega
  simp only [List.getElem?_toArray, List.getElem?_cons_zero, List.getElem?_cons_succ] at x0 x1 x2 x3 y0 y1 y2 y3
  go_wp2_with fail
  have k8 := ((((((H5.out.2.1.far (p := ⟨w2.heap.size, 1, none⟩) hne (.int .i64 m1)).far (p := ⟨w2.heap.size, 2, none⟩) hne (.int .i64 m2)).far (p := ⟨w2.heap.size, 3, none⟩) hne (.int .u32 m3)).put 0 (.string idb)).put 1 (.int .i64 m1)).put 2 (.int .i64 m2)).put 3 (.int .u32 m3)
  simp only [List.setIfInBounds_toArray, List.set_cons_succ, List.set_cons_zero] at k8
  have hinfo : (Try.prog.info? 66).map (·.size) = some (#[Value.string idb, .int .i64 m1, .int .i64 m2, .int .u32 m3] : Array Value).size := by kernel_rfl
  refine bodyPost_ret (results_cell_row rfl _ _ w.heap.size 66 #[.string idb, .int .i64 m1, .int .i64 m2, .int .u32 m3] (0, 0) _ rfl k8 Try.underlying66 rfl hinfo) rfl ?_
  refine ⟨?_, ((((((H5.out.2.2.2.setCell (p := ⟨w2.heap.size, 1, none⟩) (by show _ ≤ w2.heap.size; omega) _).setCell (p := ⟨w2.heap.size, 2, none⟩) (by show _ ≤ w2.heap.size; omega) _).setCell (p := ⟨w2.heap.size, 3, none⟩) (by show _ ≤ w2.heap.size; omega) _).setCell (Nat.le_refl _) _).setCell (Nat.le_refl _) _).setCell (Nat.le_refl _) _).setCell (Nat.le_refl _) _⟩
  unfold entryV atAt szAt ckAt
  rw [← HID.out, ← HM1.out, ← HM2.out, ← HM3.out]
theorem hasPrefix_iff (l p : List UInt8) : Lib.hasPrefix l p = true ↔ l.take p.length = p := by
  show p.isPrefixOf l = true ↔ _
  rw [List.isPrefixOf_iff_prefix, List.prefix_iff_eq_take]
  exact ⟨fun h => h.symm, fun h => h.symm⟩
set_option maxRecDepth 100000 in
theorem count_any (s : ByteArray) (w : World) (h : 1112 ≤ s.size) (hs : s.size ≤ 140737488355328) :
    Calls Try.prog 38 #[.string s] w fun e w' => e = .returned (.tuple #[.int .i64 ((many s.data.toList : Nat) : Int), .bool (holds (Headed s.data.toList))]) ∧ Below w.heap.size w w' := by
  have N := Lib.hid (number_any s 8 w (by omega) hs)
  obtain ⟨n, hn⟩ : ∃ n, n = many s.data.toList := ⟨_, rfl⟩
  have hlt : n < 4294967296 := by rw [hn]; exact nAt_lt _ _
  have hsl : s.data.toList.length = s.size := by rw [Array.length_toList]; rfl
  rw [show nAt s.data.toList 8 = n from hn.symm] at N
  have HP := Lib.hid (fun w => Try.strings_HasPrefix s ⟨#[114, 101, 108, 105, 99, 48, 48, 49]⟩ w)
  obtain ⟨q, hq⟩ : ∃ q, q = Lib.hasPrefix s.data.toList [114, 101, 108, 105, 99, 48, 48, 49] := ⟨_, rfl⟩
  have hqm : q = true ↔ s.data.toList.take 8 = magic := by rw [hq]; exact hasPrefix_iff _ _
  have HP := Lib.hid (show ∀ w, Calls Try.prog 59 #[.string s, .string ⟨#[114, 101, 108, 105, 99, 48, 48, 49]⟩] w fun e w' => e = .returned (.bool q) ∧ w' = w from fun w => by rw [hq]; exact HP.out w)
  have hH : Headed s.data.toList ↔ (q = true ∧ 1 ≤ n ∧ n ≤ 1024 ∧ 1036 + 44 * n + 32 ≤ s.size) := by
    constructor
    · intro h
      refine ⟨hqm.2 h.magic, by rw [hn]; exact h.one, by rw [hn]; exact h.most, by rw [hn, ← hsl]; exact h.fits⟩
    · rintro ⟨a, b, c, d⟩
      exact ⟨hqm.1 a, by rw [← hn]; exact b, by rw [← hn]; exact c, by rw [← hn, hsl]; exact d⟩
  obtain ⟨r, hr⟩ : ∃ r, r = holds (Headed s.data.toList) := ⟨_, rfl⟩
  rw [← hr, ← hn]
  have HH := Lib.hid (And.intro hH hr)
  clear hH hr hn hqm hq
  have k8 : (8 : Int) + 4 ≤ s.size := by omega
  have hsz : (1112 : Int) ≤ s.size := by omega
  go_enter Try.func38, Try.ntmps38
  go_wp2_with fail
  refine N.out.mono ?_
  rintro e w1 ⟨rfl, hb1⟩
  have H1 := Lib.hid hb1
  clear hb1 N
  go_wp2_with fail
  refine (HP.out w1).mono ?_
  rintro e w2 ⟨rfl, rfl⟩
  clear HP
  cases q
  · go_wp2_with fail
    go_ret2
    exact ⟨by rw [HH.out.2, holds_false (fun h => by have := (HH.out.1.1 h).1; cases this)]; rfl, H1.out⟩
  · by_cases h1 : 1 ≤ n
    · have d1 : decide ((1 : Int) ≤ n) = true := decide_eq_true (by omega)
      by_cases h2 : n ≤ 1024
      · have d2 : decide ((n : Int) ≤ 1024) = true := decide_eq_true (by omega)
        by_cases h3 : 1036 + 44 * n + 32 ≤ s.size
        · have d3 : decide (1036 + (n : Int) * 44 ≤ (s.size : Int) - 32) = true := decide_eq_true (by omega)
          go_wp2_with fail
          go_ret2
          exact ⟨by rw [HH.out.2, holds_true (HH.out.1.2 ⟨by simp, h1, h2, h3⟩)]; rfl, H1.out⟩
        · have d3 : decide (1036 + (n : Int) * 44 ≤ (s.size : Int) - 32) = false := decide_eq_false (by omega)
          have HN := Lib.hid h3
          go_wp2_with fail
          go_ret2
          exact ⟨by rw [HH.out.2, holds_false (fun h => HN.out (HH.out.1.1 h).2.2.2)]; rfl, H1.out⟩
      · have d2 : decide ((n : Int) ≤ 1024) = false := decide_eq_false (by omega)
        have HN := Lib.hid h2
        clear h2
        go_wp2_with fail
        go_ret2
        exact ⟨by rw [HH.out.2, holds_false (fun h => HN.out (HH.out.1.1 h).2.2.1)]; rfl, H1.out⟩
    · have d1 : decide ((1 : Int) ≤ n) = false := decide_eq_false (by omega)
      have HN := Lib.hid h1
      clear h1
      go_wp2_with fail
      go_ret2
      exact ⟨by rw [HH.out.2, holds_false (fun h => HN.out (HH.out.1.1 h).2.1)]; rfl, H1.out⟩
end Go.Proofs.Ytabgpleiobpeoaa.Pak
