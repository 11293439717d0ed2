/- The reference's Make (pack), walked. Conditions: at most 1024 texts, 1068 + 44 each + their bytes within 4,194,304. (Layer 07.) -/
import Derived.Test.YtabgpleiobpeoaaPack14
import Derived.Test.YtabgpleiobpeoaaShaRef4
namespace Go.Proofs.Ytabgpleiobpeoaa.Pak
set_option linter.unusedVariables false
open Go.RowKit Go.Sort Go.Lib
open Oct (le32)
theorem itemsOf_snoc (l : List ByteArray) (k : Nat) (h : k < l.length) : itemsOf (l.take (k + 1)) = itemsOf (l.take k) ++ [(sumS l[k], l[k])] := by
  rw [List.take_succ_eq_append_getElem h]
  unfold itemsOf
  rw [List.map_append]
  rfl
theorem with_perm {l : List ByteArray} {L : List It} {k : Nat} (h : k < l.length) (hp : L.Perm (itemsOf (l.take k))) : (insI (sumS l[k], l[k]) L).Perm (itemsOf (l.take (k + 1))) := by
  rw [itemsOf_snoc l k h]
  exact (insI_perm _ _).trans ((hp.cons _).trans (List.perm_append_singleton _ _).symm)
theorem twice_with {l : List ByteArray} {L : List It} {k : Nat} (h : k < l.length) (hp : L.Perm (itemsOf (l.take k))) (hx : ∃ y ∈ L, y.1 = sumS l[k]) : ¬ (l.map sumS).Nodup := by
  obtain ⟨y, hy, he⟩ := hx
  have hy' := hp.mem_iff.1 hy
  obtain ⟨s, hs, rfl⟩ := List.mem_map.1 hy'
  obtain ⟨i, hi, rfl⟩ := List.getElem_of_mem hs
  intro hnd
  have hik : i < k := by rw [List.length_take] at hi; omega
  have e : l.take k = l.take k := rfl
  rw [List.getElem_take] at he
  have := List.pairwise_iff_getElem.1 hnd i k (by rw [List.length_map]; omega) (by rw [List.length_map]; exact h) hik
  rw [List.getElem_map, List.getElem_map] at this
  exact this he
theorem snd_total {l : List ByteArray} {L : List It} {k : Nat} (hp : L.Perm (itemsOf (l.take k))) : (dataB L).length = total (l.take k) := by
  rw [dataB_length]; exact total_perm (snd_perm hp)
theorem total_le (l : List ByteArray) (k : Nat) : total (l.take k) ≤ total l := by
  unfold total
  rw [List.map_take]
  have := List.take_append_drop k (l.map (·.size))
  have h2 := congrArg List.sum this
  rw [List.sum_append] at h2
  omega
theorem rwith_one (ap : Option Addr) (cp : Nat) (L : List It) (I y : ByteArray) (w : World) (hI : ItemsAt w ap L) (hn : L.length ≤ 1024) :
    Calls Try.prog 27 #[.slice ap L.length cp, .agg #[.string I, .string y]] w fun e w' => ∃ (ao' : Option Addr) (cap' : Nat) (L' : List It) (ok : Bool), e = .returned (.tuple #[.slice ao' L'.length cap', .bool ok]) ∧ ItemsAt w' ao' L' ∧
      (ok = false → ∃ z ∈ L, z.1 = I) ∧ (ok = true → L' = insI (I, y) L ∧ ∀ z ∈ L, z.1 ≠ I) ∧ Below w.heap.size w w' := by
  refine (rwith_any ap cp L (I, y) w hI hn).mono ?_
  rintro e w' ⟨⟨hx, rfl⟩ | ⟨hx, ao', cap', rfl, hi'⟩, hb⟩
  · exact ⟨ap, cp, L, false, rfl, hI.later hb, fun _ => hx, (fun h => by cases h), hb⟩
  · exact ⟨ao', cap', _, true, rfl, hi', (fun h => by cases h), fun _ => ⟨rfl, hx⟩, hb⟩
set_option maxRecDepth 100000 in
set_option maxHeartbeats 1000000 in
theorem rmake_any (ao : Option Addr) (cap : Nat) (l : List ByteArray) (w : World) (h : StrsAt w ao l) (hn : l.length ≤ 1024) (hbig : 1068 + 44 * l.length + total l ≤ 4194304) :
    Calls Try.prog 12 #[.slice ao l.length cap] w fun e w' => MakeOut l w w' e := by
  have hm := h.1
  rcases Nat.eq_zero_or_pos l.length with h0 | h0
  · have hl : l = [] := List.eq_nil_of_length_eq_zero h0
    subst hl
    clear h hm h0 hbig
    go_enter Try.func12, Try.ntmps12
    go_wp2_with fail
    go_ret2
    exact ⟨1, [], rfl, .none_ rfl, Below.refl _ _⟩
  have hne : l ≠ [] := fun e => by subst e; simp at h0
  have hz : ((l.length : Int) == 0) = false := by simp; omega
  have hgt : decide ((1024 : Int) < l.length) = false := by simp; omega
  have H := Lib.hid (And.intro h (And.intro hne hbig))
  have HB := Lib.hid (fun k hk => total_take l k hk)
  have HTL := Lib.hid (fun k => total_le l k)
  clear h hne h0
  go_enter Try.func12, Try.ntmps12
  go_wp2_with fail
  clear hz hgt
  go_loopw [4] (fun i wr => ∃ k : Nat, i = .int .i64 (k : Int) ∧ k ≤ l.length ∧ Hid (∀ i (h : i < l.length), i < k → l[i].size ≤ 131072) ∧ w = wr) (fun i _ => ((l.length : Int) - intOf i).toNat)
  case atStart => exact ⟨0, rfl, by omega, Lib.hid (fun i _ hi => absurd hi (Nat.not_lt_zero _)), rfl⟩
  case round =>
    obtain ⟨k, rfl, hk, HK, rfl⟩ := hrel
    rcases Nat.lt_or_ge k l.length with hk1 | hk1
    · obtain ⟨b, off, rfl, hlt, hcell⟩ := H.out.1.2 (by omega)
      have c0 := hcell k hk1
      have ki : (k : Int) < l.length := by omega
      have hmem := List.getElem_mem hk1
      obtain ⟨y, hyy⟩ : ∃ y, y = l[k] := ⟨_, rfl⟩
      rw [← hyy] at c0 hmem
      have HY := Lib.hid (And.intro hyy hmem)
      clear hcell hyy hmem
      by_cases hg : 131072 < y.size
      · have d1 : decide ((131072 : Int) < y.size) = true := decide_eq_true (by omega)
        have HG := Lib.hid hg
        clear hg
        go_wp2_with fail
        go_ret2
        exact ⟨5, [], rfl, .long H.out.2.1 ⟨y, HY.out.2, HG.out⟩, Below.refl _ _⟩
      · have d1 : decide ((131072 : Int) < y.size) = false := decide_eq_false (by omega)
        have HG := Lib.hid hg
        clear hg
        go_wp2_with fail
        refine ⟨⟨k + 1, rfl, hk1, Lib.hid fun i h hi => ?_, trivial⟩, ?_⟩
        · rcases Nat.lt_or_ge i k with h1 | h1
          · exact HK.out i h h1
          · obtain rfl : i = k := by omega
            rw [← HY.out.1]; have := HG.out; omega
        · simp [intOf]
          omega
    · have ki : decide (k < l.length) = false := decide_eq_false (by omega)
      have HSZ := Lib.hid (show ∀ s ∈ l, s.size ≤ 131072 from fun s hs => by
        obtain ⟨i, hi, rfl⟩ := List.getElem_of_mem hs
        exact HK.out i hi (by omega))
      clear HK hk hk1
      go_wp2_with fail
      have H2 := Lib.hid (show ∃ W, W = w.alloc (.cells #[] 34) ∧ ItemsAt W (some ⟨w.heap.size, 0, none⟩) [] ∧ Below w.heap.size w W from
        ⟨_, rfl, ⟨by decide, fun h => absurd h (by decide)⟩, (Below.refl _ _).alloc (Nat.le_refl _) _⟩)
      obtain ⟨W1, hW1, H2⟩ := H2.out
      rw [← hW1]
      have H2 := Lib.hid H2
      clear hW1
      go_loopw [5, 6, 7] (fun v z i wr => ∃ (k : Nat) (L : List It) (ap : Option Addr) (cp m : Nat), v = .slice ap L.length cp ∧ i = .int .i64 (k : Int) ∧ z = .int .i64 ((1068 + 44 * (l.length : Int)) + (m : Int)) ∧ k ≤ l.length ∧ m ≤ 4194304 ∧ Hid (L.length = k ∧ m = total (l.take k) ∧ L.Perm (itemsOf (l.take k)) ∧ L.Pairwise lowI ∧ ItemsAt wr ap L ∧ Below w.heap.size w wr)) (fun _ _ i _ => ((l.length : Int) - intOf i).toNat)
      case atStart => exact ⟨0, [], some ⟨w.heap.size, 0, none⟩, 0, 0, rfl, rfl, by simp, by omega, by omega, Lib.hid ⟨rfl, rfl, List.Perm.refl _, List.Pairwise.nil, H2.out⟩⟩
      case round =>
        obtain ⟨k, L, ap, cp, m, rfl, rfl, rfl, hk, hm4, HR'⟩ := hrel
        have HLk := Lib.hid HR'.out.1
        have hL1 : L.length ≤ 1024 := by have := HLk.out; omega
        have HR := Lib.hid HR'.out.2
        clear HR'
        have hbr := HR.out.2.2.2.2.size
        have hlm := HR.out.2.2.2.1.1
        rcases Nat.lt_or_ge k l.length with hk1 | hk1
        · obtain ⟨b, off, rfl, hlt, hcell⟩ := H.out.1.2 (by omega)
          have c0 := hcell k hk1
          have ki : (k : Int) < l.length := by omega
          have hsz := HSZ.out _ (List.getElem_mem hk1)
          have htt := HB.out k hk1
          have htl := HTL.out (k + 1)
          have hwp := with_perm hk1 HR.out.2.1
          have htw := twice_with hk1 HR.out.2.1
          obtain ⟨y, hyy⟩ : ∃ y, y = l[k] := ⟨_, rfl⟩
          rw [← hyy] at c0 hsz htt hwp htw
          rw [← HR.out.1] at htt
          have hml : m + y.size ≤ 4194304 := by omega
          have hds : y.size ≤ 140737488355232 := by omega
          obtain ⟨I, hI⟩ : ∃ I, I = sumS y := ⟨_, rfl⟩
          have CS := Lib.hid (fun w => Sha.refsum_any y w hds)
          rw [show (⟨(Sha.sum y.data.toList).toArray⟩ : ByteArray) = I from hI.symm] at CS
          rw [← hI] at hwp htw
          have HE := Lib.hid (And.intro htt (And.intro hwp (And.intro htw (And.intro c0 hlt))))
          have c8 : wr.cell? ⟨b, off + k, none⟩ = some (.string y) := by rw [HR.out.2.2.2.2.cell hlt]; exact c0
          have WI := Lib.hid (fun w' (h : ItemsAt w' ap L) => rwith_one ap cp L I y w' h hL1)
          clear hcell c0 htt hwp htw hI hds htl hyy
          go_wp2_with fail
          go_region_held (fun w' => w'.cell? ⟨b, off + k, none⟩ = some (.string y))
            (first | go_keep | exact c8 | exact c9 | exact c10)
            (first
              | (go_at_call 28; refine (CS.out _).mono ?_
                 rintro e w8 ⟨rfl, hb8⟩
                 have H8 := Lib.hid (show ItemsAt w8 ap L ∧ Below w.heap.size w w8 from by
                   have hb' : Below wr.heap.size wr w8 := (below_drewN (Below.refl wr.heap.size wr) 1).trans hb8
                   exact ⟨HR.out.2.2.2.1.later hb', HR.out.2.2.2.2.trans (hb'.mono hbr)⟩)
                 have c9 : w8.cell? ⟨b, off + k, none⟩ = some (.string y) := by rw [H8.out.2.cell HE.out.2.2.2.2]; exact HE.out.2.2.2.1
                 clear hb8)
              | (go_at_call 27; refine (WI.out _ H8.out.1).mono ?_
                 rintro e w9 ⟨ao', cap', L', ok, rfl, hi', hno, hyes, hb9⟩
                 have H9 := Lib.hid (And.intro hi' (And.intro hno (And.intro hyes (H8.out.2.trans (hb9.mono H8.out.2.size)))))
                 have c10 : w9.cell? ⟨b, off + k, none⟩ = some (.string y) := by rw [H9.out.2.2.2.cell HE.out.2.2.2.2]; exact HE.out.2.2.2.1
                 clear hb9 hi' hno hyes))
          all_goals
            clear CS WI c8 c9
            cases ok
            case false =>
              go_wp2_with fail
              go_ret2
              exact ⟨31, [], rfl, .twice H.out.2.1 HSZ.out (HE.out.2.2.1 (H9.out.2.1 (by first | rfl | trivial))), H9.out.2.2.2⟩
            case true =>
              obtain ⟨hL', hx⟩ := H9.out.2.2.1 (by first | rfl | trivial)
              have hil := insI_length (I, y) L
              have HWP := Lib.hid (show L'.length = L.length + 1 ∧ L'.Perm (itemsOf (l.take (k + 1))) ∧ L'.Pairwise lowI ∧ ItemsAt w9 ao' L' ∧ Below w.heap.size w w9 from
                ⟨by rw [hL', hil], by rw [hL']; exact HE.out.2.1, by rw [hL']; exact insI_rises HR.out.2.2.1 hx, H9.out.1, H9.out.2.2.2⟩)
              clear hL' hx hil H9
              go_wp2_with fail
              refine ⟨⟨k + 1, L', ao', cap', m + y.size, rfl, rfl, by simp; omega, hk1, hml, Lib.hid ⟨by rw [HWP.out.1, HLk.out], HE.out.1.symm, HWP.out.2⟩⟩, ?_⟩
              simp [intOf]
              omega
        · have ki : (l.length : Int) ≤ (k : Int) := by omega
          obtain rfl : k = l.length := by omega
          have hp := HR.out.2.1
          rw [List.take_length] at hp
          have hid : ∀ x ∈ L, x.1.size = 32 := fun x hx => by rw [(id_sum hp hx).1]; exact sumS_size _
          have hdl : (dataB L).length = m := by rw [snd_total HR.out.2.1, HR.out.1]
          have hmt : 1068 + 44 * l.length + m ≤ 4194304 := by have := HR.out.1; rw [List.take_length] at this; omega
          have d1 : decide ((4194304 : Int) < 1068 + 44 * (l.length : Int) + (m : Int)) = false := decide_eq_false (by omega)
          have RB := Lib.hid (rbytes_any ap cp L wr HR.out.2.2.2.1 hid hL1 (by omega))
          obtain ⟨B, hB⟩ : ∃ B : ByteArray, B = ⟨(bodyB L).toArray⟩ := ⟨_, rfl⟩
          rw [← hB] at RB
          have hBl : B.data.toList = bodyB L := by rw [hB, List.toList_toArray]
          have zB : B.size = 1036 + 44 * L.length + (dataB L).length := by rw [← data_len, hBl, bodyB_length L hid]
          have RS := Lib.hid (fun w => Sha.refsum_any B w (by omega))
          obtain ⟨dg, hdg⟩ : ∃ dg : ByteArray, dg = ⟨(Sha.sum B.data.toList).toArray⟩ := ⟨_, rfl⟩
          rw [← hdg] at RS
          have zg : dg.size = 32 := by rw [hdg]; exact Sha.sum_size _
          have s5 : ¬ 9223372036854775807 < B.size + dg.size := by omega
          have HE := Lib.hid (show (⟨(packB L).toArray⟩ : ByteArray) = B ++ dg from by
            apply data_inj
            rw [app_list, hBl, hdg, List.toList_toArray, hBl, List.toList_toArray]
            rfl)
          have HP := Lib.hid hp
          clear hp hid hdl hB hBl zB hdg zg hmt
          go_wp2_with fail
          refine RB.out.mono ?_
          rintro e w2 ⟨rfl, hb2⟩
          have H2' := Lib.hid (HR.out.2.2.2.2.trans (hb2.mono hbr))
          clear hb2 RB
          go_wp2_with fail
          refine (RS.out _).mono ?_
          rintro e w3 ⟨rfl, hb3⟩
          have H3 := Lib.hid (H2'.out.trans (hb3.mono H2'.out.size))
          clear hb3 RS
          go_wp2_with fail
          go_ret2
          exact ⟨0, packB L, by rw [HE.out]; rfl, .ok L H.out.2.1 HSZ.out HP.out HR.out.2.2.1, H3.out⟩
end Go.Proofs.Ytabgpleiobpeoaa.Pak
