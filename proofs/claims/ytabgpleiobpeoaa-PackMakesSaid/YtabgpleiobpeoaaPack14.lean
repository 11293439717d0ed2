/- The reference's Bytes (pack), walked: a pack without its digest. (Layer 07.) -/
import Derived.Test.YtabgpleiobpeoaaPack13
import Derived.Test.YtabgpleiobpeoaaRefNum
import Derived.Test.YtabgpleiobpeoaaCrc1
import Derived.Test.YtabgpleiobpeoaaPackMade
namespace Go.Proofs.Ytabgpleiobpeoaa.Pak
set_option linter.unusedVariables false
open Go.RowKit Go.Sort Go.Lib
open Oct (le32)
theorem rnum_to (n : Nat) (m : ByteArray) (h : m = numS n) (w : World) : Calls Try.prog 50 #[.int .u32 n] w fun e w' => e = .returned (.string m) ∧ Below w.heap.size w w' := by
  rw [h]; exact Oct.ref_num n w
theorem numS_list (n : Nat) : (numS n).data.toList = le32 n := by unfold numS; rw [List.toList_toArray]
set_option maxRecDepth 100000 in
set_option maxHeartbeats 1000000 in
theorem rbytes_any (ao : Option Addr) (cap : Nat) (L : List It) (w : World) (h : ItemsAt w ao L) (h32 : ∀ x ∈ L, x.1.size = 32) (hn : L.length ≤ 1024) (hd : (dataB L).length ≤ 4194304) :
    Calls Try.prog 29 #[.slice ao L.length cap] w fun e w' => e = .returned (.string ⟨(bodyB L).toArray⟩) ∧ Below w.heap.size w w' := by
  have hm := h.1
  have H := Lib.hid (And.intro h h32)
  have F := Lib.hid (fun k hk w' (hb : Below w.heap.size w w') => rfan_any ao cap L k w' (h.later hb) (fun x hx => by rw [h32 x hx]; decide) hk (by omega))
  have hfl := fun k => fanN_le (L.map (·.1)) k
  simp only [List.length_map] at hfl
  obtain ⟨n1, hn1⟩ : ∃ n1, n1 = numS L.length := ⟨_, rfl⟩
  have N1 := Lib.hid (fun w => rnum_to L.length n1 hn1 w)
  have z1 : n1.size = 4 := by rw [hn1]; rfl
  have HN1 := Lib.hid (show n1.data.toList = le32 L.length from by rw [hn1]; exact numS_list _)
  clear h h32 hn1
  have zm : (ByteArray.mk #[114, 101, 108, 105, 99, 48, 48, 49]).size = 8 := rfl
  have s1 : ¬ 9223372036854775807 < (ByteArray.mk #[114, 101, 108, 105, 99, 48, 48, 49]).size + n1.size := by omega
  have hmod : (L.length : Int) % 4294967296 = L.length := by omega
  clear zm
  go_enter Try.func29, Try.ntmps29
  go_wp2_with fail
  clear hmod
  refine (N1.out _).mono ?_
  rintro e w1 ⟨rfl, hb1⟩
  have H1 := Lib.hid hb1
  clear hb1 N1
  go_wp2_with fail
  obtain ⟨S0, hS0⟩ : ∃ S0, S0 = (ByteArray.mk #[114, 101, 108, 105, 99, 48, 48, 49]) ++ n1 := ⟨_, rfl⟩
  rw [← hS0]
  have zS0 : S0.size = 12 := by rw [hS0, ByteArray.size_append, z1]; rfl
  have HS0 := Lib.hid (show S0.data.toList = magic ++ le32 L.length ++ fanB (L.map (·.1)) 0 from by rw [hS0, app_list, HN1.out]; show _ = magic ++ le32 L.length ++ []; rw [List.append_nil]; rfl)
  clear hS0 s1 z1
  go_loopw [3, 4] (fun s i wr => ∃ (k : Nat) (S : ByteArray), s = .string S ∧ i = .int .i64 (k : Int) ∧ k ≤ 256 ∧ S.size = 12 + 4 * k ∧ Hid (S.data.toList = magic ++ le32 L.length ++ fanB (L.map (·.1)) k ∧ Below w.heap.size w wr)) (fun _ i _ => ((256 : Int) - intOf i).toNat)
  case atStart => exact ⟨0, S0, rfl, rfl, by omega, zS0, Lib.hid ⟨HS0.out, H1.out⟩⟩
  case round =>
    obtain ⟨k, S, rfl, rfl, hk, zS, HR⟩ := hrel
    clear zS0
    rcases Nat.lt_or_ge k 256 with hk1 | hk1
    · have ki : (k : Int) < 256 := by omega
      obtain ⟨q, hq⟩ : ∃ q, q = fanN (L.map (·.1)) k := ⟨_, rfl⟩
      have FK := Lib.hid (F.out k hk1 wr HR.out.2)
      have hql : q ≤ L.length := by rw [hq]; exact hfl k
      rw [← hq] at FK
      obtain ⟨n2, hn2⟩ : ∃ n2, n2 = numS q := ⟨_, rfl⟩
      have N2 := Lib.hid (fun w => rnum_to q n2 hn2 w)
      have z2 : n2.size = 4 := by rw [hn2]; rfl
      have HK := Lib.hid (show (S ++ n2).data.toList = magic ++ le32 L.length ++ fanB (L.map (·.1)) (k + 1) from by
        rw [app_list, HR.out.1, hn2, numS_list, fanB_snoc, ← hq]
        simp only [List.append_assoc])
      have zK : (S ++ n2).size = 12 + 4 * (k + 1) := by rw [ByteArray.size_append]; omega
      have s2 : ¬ 9223372036854775807 < S.size + n2.size := by omega
      have hmod : (q : Int) % 4294967296 = q := by omega
      clear hq hn2
      go_wp2_with fail
      refine FK.out.mono ?_
      rintro e w2 ⟨rfl, rfl⟩
      clear FK
      go_wp2_with fail
      clear hmod
      refine (N2.out _).mono ?_
      rintro e w3 ⟨rfl, hb3⟩
      have H3 := Lib.hid (HR.out.2.trans (hb3.mono HR.out.2.size))
      clear hb3 N2
      go_wp2_with fail
      refine ⟨⟨k + 1, _, rfl, rfl, hk1, zK, Lib.hid ⟨HK.out, H3.out⟩⟩, ?_⟩
      simp [intOf]
      omega
    · have ki : (256 : Int) ≤ (k : Int) := by omega
      obtain rfl : k = 256 := by omega
      clear F hfl
      have HS1 := Lib.hid (show S.data.toList = headB L ++ indexB 0 (L.take 0) from by rw [HR.out.1]; show _ = headB L ++ []; rw [List.append_nil]; rfl)
      obtain ⟨w4, hw4⟩ : ∃ w4, w4 = wr := ⟨_, rfl⟩
      subst hw4
      have hbw := HR.out.2.size
      go_wp2_with fail
      go_loopw [3, 5, 6, 7] (fun s a d i wr => ∃ (k : Nat) (S D : ByteArray), s = .string S ∧ a = .int .i64 ((D.size : Nat) : Int) ∧ d = .string D ∧ i = .int .i64 (k : Int) ∧ k ≤ L.length ∧ S.size = 1036 + 44 * k ∧ D.size ≤ 4194304 ∧ Hid (S.data.toList = headB L ++ indexB 0 (L.take k) ∧ D.data.toList = dataB (L.take k) ∧ Below w.heap.size w wr)) (fun _ _ _ i _ => ((L.length : Int) - intOf i).toNat)
      case atStart => exact ⟨0, S, ⟨#[]⟩, rfl, rfl, rfl, rfl, by omega, by omega, by decide, Lib.hid ⟨HS1.out, rfl, HR.out.2⟩⟩
      case round =>
        obtain ⟨k, S, D, rfl, rfl, rfl, rfl, hk, zS, zD, HK⟩ := hrel
        have hbr := HK.out.2.2.size
        rcases Nat.lt_or_ge k L.length with hk1 | hk1
        · obtain ⟨b, off, rfl, hlt, hcell⟩ := H.out.1.2 (by omega)
          obtain ⟨c0, c1⟩ := hcell k hk1
          have ki : (k : Int) < L.length := by omega
          have hmem := List.getElem_mem hk1
          have h32 := H.out.2 _ hmem
          have t2 : L.take (k + 1) = L.take k ++ [L[k]] := List.take_succ_eq_append_getElem hk1
          have hdl : (dataB (L.take (k + 1))).length ≤ (dataB L).length := by
            have e1 : dataB L = dataB (L.take (k + 1)) ++ dataB (L.drop (k + 1)) := by rw [← dataB_app, List.take_append_drop]
            rw [e1, List.length_append]
            omega
          obtain ⟨x, hx⟩ : ∃ x, x = L[k] := ⟨_, rfl⟩
          rw [← hx] at c0 c1 h32 t2
          rw [t2, dataB_snoc, List.length_append, ← HK.out.2.1, data_len, data_len] at hdl
          obtain ⟨i1, d1⟩ := x
          simp only at c0 c1 h32 hdl
          have HX := Lib.hid t2
          clear hcell hmem t2 hx
          have e0 : ∀ u : LaterOf wr, u.w.cell? ⟨b, off + k * 2, none⟩ = some (.string i1) := fun u => by rw [u.h.cell (by show b < wr.heap.size; omega), HK.out.2.2.cell hlt]; exact c0
          have e1 : ∀ u : LaterOf wr, u.w.cell? ⟨b, off + k * 2 + 1, none⟩ = some (.string d1) := fun u => by rw [u.h.cell (by show b < wr.heap.size; omega), HK.out.2.2.cell hlt]; exact c1
          clear c0 c1
          have hd47 : d1.size ≤ 140737488355328 := by omega
          have CC := Lib.hid (fun u : LaterOf wr => rcrcsum_any d1 u.w hd47)
          obtain ⟨cv, hcv⟩ : ∃ cv, cv = crc d1.data.toList := ⟨_, rfl⟩
          rw [← hcv] at CC
          obtain ⟨n1, hn1⟩ : ∃ n1, n1 = numS D.size := ⟨_, rfl⟩
          obtain ⟨n2, hn2⟩ : ∃ n2, n2 = numS d1.size := ⟨_, rfl⟩
          obtain ⟨n3, hn3⟩ : ∃ n3, n3 = numS cv := ⟨_, rfl⟩
          have CN1 := Lib.hid (fun u : LaterOf wr => rnum_to D.size n1 hn1 u.w)
          have CN2 := Lib.hid (fun u : LaterOf wr => rnum_to d1.size n2 hn2 u.w)
          have CN3 := Lib.hid (fun u : LaterOf wr => rnum_to cv n3 hn3 u.w)
          have z1 : n1.size = 4 := by rw [hn1]; rfl
          have z2 : n2.size = 4 := by rw [hn2]; rfl
          have z3 : n3.size = 4 := by rw [hn3]; rfl
          have s1 : ¬ 9223372036854775807 < S.size + i1.size := by omega
          have s2 : ¬ 9223372036854775807 < (S ++ i1).size + n1.size := by rw [ByteArray.size_append]; omega
          have s3 : ¬ 9223372036854775807 < (S ++ i1 ++ n1).size + n2.size := by rw [ByteArray.size_append, ByteArray.size_append]; omega
          have s4 : ¬ 9223372036854775807 < (S ++ i1 ++ n1 ++ n2).size + n3.size := by rw [ByteArray.size_append, ByteArray.size_append, ByteArray.size_append]; omega
          have s5 : ¬ 9223372036854775807 < D.size + d1.size := by omega
          have zT : (S ++ i1 ++ n1 ++ n2 ++ n3).size = 1036 + 44 * (k + 1) := by rw [ByteArray.size_append, ByteArray.size_append, ByteArray.size_append, ByteArray.size_append]; omega
          have HT := Lib.hid (show (S ++ i1 ++ n1 ++ n2 ++ n3).data.toList = headB L ++ indexB 0 (L.take (k + 1)) ∧ (D ++ d1).data.toList = dataB (L.take (k + 1)) from by
            constructor
            · rw [app_list, app_list, app_list, app_list, HK.out.1, HX.out, indexB_snoc, Nat.zero_add, ← HK.out.2.1, hn1, hn2, hn3, numS_list, numS_list, numS_list, hcv]
              simp only [rowB, List.append_assoc, data_len]
            · rw [app_list, HK.out.2.1, HX.out, dataB_snoc])
          have zE : (D ++ d1).size = D.size + d1.size := ByteArray.size_append
          clear hn1 hn2 hn3 hcv z1 z2 z3 hd47
          have hm1 : (D.size : Int) % 4294967296 = D.size := by omega
          have hm2 : (d1.size : Int) % 4294967296 = d1.size := by omega
          go_wp2_with fail
          refine wp_region_all (fun w' => ∃ u : LaterOf wr, w' = u.w) (by kernel_rfl) (by kernel_rfl) ⟨LaterOf.start wr, rfl⟩ ?_
          repeat (go_big_quiet_step (first | with_reducible exact LaterOf.call_same _ (CC.out _) | with_reducible exact LaterOf.call _ (CN1.out _) | with_reducible exact LaterOf.call _ (CN2.out _) | with_reducible exact LaterOf.call _ (CN3.out _)))
          refine wpQuiet_nil ?_
          intro w8 hw8
          obtain ⟨u, hu⟩ := hw8
          clear hm1 hm2
          have c1 : w8.cell? ⟨b, off + k * 2 + 1, none⟩ = some (.string d1) := by rw [hu]; exact e1 u
          have H8 := Lib.hid (show Below w.heap.size w w8 from by rw [hu]; exact HK.out.2.2.trans (u.h.mono hbr))
          clear hu u e0 e1 CN1 CN2 CN3 CC s1 s2 s3 s4
          obtain ⟨T, hT⟩ : ∃ T, T = S ++ i1 ++ n1 ++ n2 ++ n3 := ⟨_, rfl⟩
          rw [← hT] at zT HT ⊢
          obtain ⟨E, hE⟩ : ∃ E, E = D ++ d1 := ⟨_, rfl⟩
          rw [← hE] at zE HT
          have HEE := Lib.hid hE
          clear hT hE
          go_wp2_with fail
          rw [← HEE.out]
          refine ⟨⟨k + 1, T, E, rfl, by rw [zE]; rfl, rfl, rfl, hk1, zT, by omega, Lib.hid ⟨HT.out.1, HT.out.2, H8.out⟩⟩, ?_⟩
          simp [intOf]
          omega
        · have ki : (L.length : Int) ≤ (k : Int) := by omega
          obtain rfl : k = L.length := by omega
          have s6 : ¬ 9223372036854775807 < S.size + D.size := by omega
          have HE := Lib.hid (show (⟨(bodyB L).toArray⟩ : ByteArray) = S ++ D from by
            apply data_inj
            rw [app_list, HK.out.1, HK.out.2.1, List.take_length, List.toList_toArray]
            rfl)
          go_wp2_with fail
          go_ret
          exact ⟨by rw [HE.out]; rfl, HK.out.2.2⟩
end Go.Proofs.Ytabgpleiobpeoaa.Pak
