/- pack.Make, walked: the pack of texts. Conditions: at most 1024 texts, 1068 + 44 each + their bytes within 4,194,304. (Layer 07.) -/
import Derived.Test.YtabgpleiobpeoaaPack2
import Derived.Test.YtabgpleiobpeoaaBld2
namespace Go.Proofs.Ytabgpleiobpeoaa.Pak
set_option linter.unusedVariables false
open Go.RowKit Go.Sort Go.Lib
open Oct (le32)
open Bld (Two)
/-- What Make answers, where it lies. -/
def MakeOut (l : List ByteArray) (w w' : World) (e : Ending) : Prop :=
  ∃ (c : Int) (b : List UInt8), e = .returned (.tuple #[.string ⟨b.toArray⟩, .int .i64 c]) ∧ MakeIs l c b ∧ Below w.heap.size w w'
theorem le_total : ∀ {l : List ByteArray} {s : ByteArray}, s ∈ l → s.size ≤ total l
  | x :: r, s, h => by
    unfold total
    rw [List.map_cons, List.sum_cons]
    rcases List.mem_cons.1 h with rfl | h
    · omega
    · have := le_total h
      unfold total at this
      omega
theorem total_perm {l m : List ByteArray} (h : l.Perm m) : total l = total m := (h.map _).sum_nat
theorem dataB_length (L : List It) : (dataB L).length = total (L.map (·.2)) := by
  induction L with
  | nil => rfl
  | cons x r ih =>
    have : x.2.data.toList.length = x.2.size := by rw [Array.length_toList]; rfl
    simp only [dataB, List.flatMap_cons, List.length_append] at ih ⊢
    unfold total at *
    rw [List.map_cons, List.map_cons, List.sum_cons, this]
    omega
theorem snd_perm {l : List ByteArray} {L : List It} (hp : L.Perm (itemsOf l)) : (L.map (·.2)).Perm l := by
  have := hp.map (·.2)
  unfold itemsOf at this
  rw [List.map_map] at this
  have e : (List.map ((fun x : It => x.2) ∘ fun s => (sumS s, s)) l) = l := by
    conv => rhs; rw [← List.map_id l]
    rfl
  rwa [e] at this
theorem id_sum {l : List ByteArray} {L : List It} (hp : L.Perm (itemsOf l)) {x : It} (hx : x ∈ L) : x.1 = sumS x.2 ∧ x.2 ∈ l := by
  have := hp.mem_iff.1 hx
  unfold itemsOf at this
  obtain ⟨s, hs, rfl⟩ := List.mem_map.1 this
  exact ⟨rfl, hs⟩
theorem sumS_size (s : ByteArray) : (sumS s).size = 32 := Sha.sum_size _
theorem rowB_length (a : Nat) (x : It) : (rowB a x).length = x.1.size + 12 := by
  have : x.1.data.toList.length = x.1.size := by rw [Array.length_toList]; rfl
  unfold rowB
  simp only [List.length_append, Oct.le32_length, this]
theorem indexB_length : ∀ (L : List It) (a : Nat), (∀ x ∈ L, x.1.size = 32) → (indexB a L).length = 44 * L.length
  | [], a, h => rfl
  | x :: r, a, h => by
    rw [indexB, List.length_append, rowB_length, h x (by simp), indexB_length r _ fun y hy => h y (by simp [hy]), List.length_cons]
    omega
theorem bodyB_length (L : List It) (h : ∀ x ∈ L, x.1.size = 32) : (bodyB L).length = 1036 + 44 * L.length + (dataB L).length := by
  unfold bodyB
  simp only [List.length_append, Oct.le32_length, fanB_length, indexB_length L 0 h]
  have : magic.length = 8 := rfl
  omega
theorem firsts_rise {L : List It} (h : L.Pairwise lowI) : (L.map (·.1)).Pairwise fun x y => first x ≤ first y := by
  rw [List.pairwise_map]
  refine h.imp fun {x y} hlt => ?_
  unfold lowI at hlt
  unfold first
  match hx : x.1.data.toList, hy : y.1.data.toList with
  | [], _ => simp
  | a :: p, [] => rw [hx, hy] at hlt; cases hlt
  | a :: p, b :: q =>
    rw [hx, hy, List.cons_lt_cons_iff] at hlt
    simp only [List.headD_cons]
    rcases hlt with h1 | ⟨h1, _⟩
    · exact Nat.le_of_lt h1
    · rw [h1]; exact Nat.le_refl _
theorem app_list (a b : ByteArray) : (a ++ b).data.toList = a.data.toList ++ b.data.toList := by
  rw [ByteArray.data_append, Array.toList_append]
/-- A number as a text. -/
def numS (n : Nat) : ByteArray := ⟨(le32 n).toArray⟩
theorem num_to (n : Nat) (m : ByteArray) (h : m = numS n) (w : World) : Calls Try.prog 22 #[.int .u32 n] w fun e w' => e = .returned (.string m) ∧ Below w.heap.size w w' := by
  rw [h]; exact Oct.num n w
set_option maxRecDepth 100000 in
set_option maxHeartbeats 1000000 in
theorem make_any (ao : Option Addr) (cap : Nat) (l : List ByteArray) (w : World) (h : StrsAt w ao l) (hn : l.length ≤ 1024) (hbig : 1068 + 44 * l.length + total l ≤ 4194304) :
    Calls Try.prog 11 #[.slice ao l.length cap] w fun e w' => MakeOut l w w' e := by
  have hm := h.1
  rcases Nat.eq_zero_or_pos l.length with h0 | h0
  · have hl : l = [] := List.eq_nil_of_length_eq_zero h0
    subst hl
    clear h hm h0 hbig
    go_enter Try.func11, Try.ntmps11
    go_wp2_with fail
    go_ret2
    exact ⟨1, [], rfl, .none_ rfl, Below.refl _ _⟩
  have hne : l ≠ [] := fun e => by subst e; simp at h0
  have hz : ((l.length : Int) == 0) = false := by simp; omega
  have hgt : decide ((1024 : Int) < l.length) = false := by simp; omega
  have H := Lib.hid (And.intro h hne)
  have C := Lib.hid (anyLong_any ao cap l w h)
  by_cases hlong : ∃ s ∈ l, 131072 < s.size
  · rw [holds_true hlong] at C
    have HL := Lib.hid hlong
    clear h hne hlong hbig
    go_enter Try.func11, Try.ntmps11
    go_wp2_with fail
    refine C.out.mono ?_
    rintro e w1 ⟨rfl, rfl⟩
    clear C
    go_wp2_with fail
    go_ret2
    exact ⟨5, [], rfl, .long H.out.2 HL.out, Below.refl _ _⟩
  rw [holds_false hlong] at C
  have hsz : ∀ s ∈ l, s.size ≤ 131072 := fun s hs => by
    rcases Nat.lt_or_ge 131072 s.size with h1 | h1
    · exact absurd ⟨s, hs, h1⟩ hlong
    · exact h1
  have I := Lib.hid (items_any ao cap l w h h0 (by omega) (fun s hs => by have := hsz s hs; omega))
  have HSZ := Lib.hid hsz
  clear h hne hlong hsz
  go_enter Try.func11, Try.ntmps11
  go_wp2_with fail
  refine C.out.mono ?_
  rintro e w1 ⟨rfl, rfl⟩
  clear C
  go_wp2_with fail
  refine I.out.mono ?_
  rintro e w2 (⟨hnd, rfl, hb2⟩ | ⟨L, ao2, cap2, rfl, hp, hs, hI, hb2⟩)
  · have H2 := Lib.hid (And.intro hnd hb2)
    clear hnd hb2 I
    go_wp2_with fail
    go_ret2
    exact ⟨31, [], rfl, .twice H.out.2 HSZ.out H2.out.1, H2.out.2⟩
  have hll : L.length = l.length := by rw [hp.length_eq]; simp [itemsOf]
  have htot : (dataB L).length = total l := by rw [dataB_length]; exact total_perm (snd_perm hp)
  have hid : ∀ x ∈ L, x.1.size = 32 := fun x hx => by rw [(id_sum hp hx).1]; exact sumS_size _
  have H2 := Lib.hid (And.intro hp (And.intro hs (And.intro hI (And.intro hb2 hid))))
  have HT := Lib.hid htot
  have hml : (L.length : Int) ≤ 9223372036854775807 := hI.1
  have hl1 : L.length ≤ 1024 := by omega
  have hbig1 : 1068 + 44 * L.length + (dataB L).length ≤ 4194304 := by omega
  clear hp hs hI hb2 hid I htot hll hm hn hbig hz hgt h0
  go_wp2_with fail
  have H3 := Lib.hid (show ∃ W, W = (w2.alloc (.cells #[.pointer none, .slice none 0 0] 48)).alloc (.cells #[.pointer none, .slice none 0 0] 48) ∧ Two W w2.heap.size w2.heap.size (indexB 0 (L.take 0)) (w2.heap.size + 1) (dataB (L.take 0)) ∧ Below w2.heap.size w2 W from
    ⟨_, rfl, by have := Bld.two_new w2 _ rfl; simpa [indexB, dataB] using this, ((Below.refl _ _).alloc (Nat.le_refl _) _).alloc (by simp) _⟩)
  obtain ⟨W, hW, H3⟩ := H3.out
  rw [← hW]
  have H3 := Lib.hid H3
  clear hW
  go_loopw [7, 35] (fun v i wr => ∃ k : Nat, i = .int .i64 (k : Int) ∧ k ≤ L.length ∧ Hid (SlIs wr w2.heap.size 9 1 v k (scells ((L.map (·.1)).take k)) ∧ Two wr w2.heap.size w2.heap.size (indexB 0 (L.take k)) (w2.heap.size + 1) (dataB (L.take k)) ∧ Below w2.heap.size w2 wr)) (fun _ i _ => ((L.length : Int) - intOf i).toNat)
  case atStart => exact ⟨0, rfl, by omega, Lib.hid ⟨SlIs.nil_ _ _ _ _, H3.out⟩⟩
  case round =>
    obtain ⟨k, rfl, hk, HR⟩ := hrel
    clear H3
    have hbw := HR.out.2.2.size
    rcases Nat.lt_or_ge k L.length with hk1 | hk1
    · obtain ⟨b, off, rfl, hlt, hcell⟩ := H2.out.2.2.1.2 (by omega)
      obtain ⟨c0, c1⟩ := hcell k hk1
      rw [← HR.out.2.2.cell hlt] at c0 c1
      have ki : (k : Int) < L.length := by omega
      have hmem := List.getElem_mem hk1
      have t1 : (L.map (·.1)).take (k + 1) = (L.map (·.1)).take k ++ [L[k].1] := by
        have hkl : k < (L.map (·.1)).length := by simpa using hk1
        rw [List.take_succ_eq_append_getElem hkl]
        simp
      have t2 : L.take (k + 1) = L.take k ++ [L[k]] := List.take_succ_eq_append_getElem hk1
      obtain ⟨x, hx⟩ : ∃ x, x = L[k] := ⟨_, rfl⟩
      rw [← hx] at c0 c1 hmem t1 t2
      have HX := Lib.hid (And.intro t1 (And.intro t2 (And.intro hmem (H2.out.2.2.2.2 x hmem))))
      have hdl : (dataB (L.take k)).length + x.2.size ≤ (dataB L).length := by
        have e1 : dataB L = dataB (L.take (k + 1)) ++ dataB (L.drop (k + 1)) := by
          unfold dataB
          rw [← List.flatMap_append, List.take_append_drop]
        have : x.2.data.toList.length = x.2.size := by rw [Array.length_toList]; rfl
        rw [e1, t2, dataB_snoc, List.length_append, List.length_append, this]
        omega
      have hil : (indexB 0 (L.take k)).length ≤ 44 * L.length := by
        rw [indexB_length _ _ fun y hy => H2.out.2.2.2.2 y (List.mem_of_mem_take hy), List.length_take]
        omega
      obtain ⟨ao1, cap1, hv1, hnc1, hcm1, hao1⟩ := HR.out.1.form
      subst hv1
      obtain ⟨i1, d1⟩ := x
      simp only at c0 c1 hdl
      clear hcell hx t1 t2 hmem
      go_upto_region 17 with (at_builtin
                              refine wpList_append_sl rfl _ _ _ 22 rfl el_str (.slice ao1 k cap1) k (scells ((L.map (·.1)).take k)) rfl ((HR.out.1.alloc _).alloc _) _ 1 [.string i1] rfl (SrcIs.own Try.underlying22 (SlIs.made (base := 0) (BlkIs.new2 _ _ _ _) (Nat.zero_le _) rfl (by decide))) (by intro u hu; rcases List.mem_singleton.1 hu with rfl; rfl) (by unfold maxLen; omega) (by omega) (by simp only [World.size_alloc]; omega) ?_
                              intro v1 w3 hs1 hg1 hat1
                              have hsl := (HR.out.1.alloc (.cells #[.string i1, .string d1] 34)).alloc (.cells #[.string i1] 9)
                              have hb3 := ((HR.out.2.2.alloc hbw (.cells #[.string i1, .string d1] 34)).alloc (by simp only [World.size_alloc]; omega) (.cells #[.string i1] 9)).grown hg1 (by simp only [World.size_alloc]; omega) fun j hj => (HR.out.1.lt j hj).1
                              have hk3 : BlkIs w3 wr.heap.size 34 #[.string i1, .string d1] := ((BlkIs.new wr 34 _).alloc _).grown hg1 (fun e => by have := (HR.out.1.lt _ e.symm).2; omega)
                              have ht3 := (HR.out.2.1.later (((Below.refl _ _).alloc (Nat.le_refl _) (.cells #[.string i1, .string d1] 34)).alloc (by simp) (.cells #[.string i1] 9))).grown hsl (by decide) (by decide) hg1
                              have es : scells ((L.map (·.1)).take k) ++ [.string i1] = scells ((L.map (·.1)).take (k + 1)) := by rw [HX.out.1]; simp [scells]
                              rw [es] at hs1
                              have H3 := Lib.hid (And.intro hs1 (And.intro ht3 (And.intro hk3 hb3)))
                              clear hs1 hb3 hk3 hg1 hat1 hao1 ht3 es hsl)
      have e0 : ∀ u : LaterOf w3, u.w.cell? ⟨wr.heap.size, 0, none⟩ = some (.string i1) := fun u => (u.blk H3.out.2.2.1).cell 0
      have e1 : ∀ u : LaterOf w3, u.w.cell? ⟨wr.heap.size, 1, none⟩ = some (.string d1) := fun u => (u.blk H3.out.2.2.1).cell 1
      have hd47 : d1.size ≤ 140737488355328 := by omega
      have CL := Lib.hid (fun u : LaterOf w3 => Bld.len_any w2.heap.size (w2.heap.size + 1) (dataB (L.take k)) u.w ((H3.out.2.1.later u.h).second))
      have CC := Lib.hid (fun u : LaterOf w3 => crcsum_any d1 u.w hd47)
      obtain ⟨dl, hdl'⟩ : ∃ dl, dl = (dataB (L.take k)).length := ⟨_, rfl⟩
      obtain ⟨cv, hcv⟩ : ∃ cv, cv = crc d1.data.toList := ⟨_, rfl⟩
      rw [← hdl'] at CL hdl
      rw [← hcv] at CC
      have HV := Lib.hid (And.intro hdl' hcv)
      have CN1 := Lib.hid (fun u : LaterOf w3 => num_to dl _ rfl u.w)
      have CN2 := Lib.hid (fun u : LaterOf w3 => num_to d1.size _ rfl u.w)
      have CN3 := Lib.hid (fun u : LaterOf w3 => num_to cv _ rfl u.w)
      obtain ⟨n1, hn1⟩ : ∃ n1, n1 = numS dl := ⟨_, rfl⟩
      obtain ⟨n2, hn2⟩ : ∃ n2, n2 = numS d1.size := ⟨_, rfl⟩
      obtain ⟨n3, hn3⟩ : ∃ n3, n3 = numS cv := ⟨_, rfl⟩
      rw [← hn1] at CN1
      rw [← hn2] at CN2
      rw [← hn3] at CN3
      have z1 : n1.size = 4 := by rw [hn1]; rfl
      have z2 : n2.size = 4 := by rw [hn2]; rfl
      have z3 : n3.size = 4 := by rw [hn3]; rfl
      have zi : i1.size = 32 := HX.out.2.2.2
      have HN := Lib.hid (And.intro hn1 (And.intro hn2 (And.intro hn3 (And.intro z1 (And.intro z2 z3)))))
      have s1 : ¬ 9223372036854775807 < i1.size + n1.size := by omega
      have s2 : ¬ 9223372036854775807 < (i1 ++ n1).size + n2.size := by rw [ByteArray.size_append]; omega
      have s3 : ¬ 9223372036854775807 < (i1 ++ n1 ++ n2).size + n3.size := by rw [ByteArray.size_append, ByteArray.size_append]; omega
      clear hn1 hn2 hn3 z1 z2 z3 zi
      have hm1 : (dl : Int) % 4294967296 = dl := by omega
      have hm2 : (d1.size : Int) % 4294967296 = d1.size := by omega
      clear hdl' hcv hd47
      refine wp_region_heads (fun w' => ∃ u : LaterOf w3, w' = u.w) 17 (by kernel_rfl) (by kernel_rfl) ⟨LaterOf.start w3, rfl⟩ ?_
      simp only [List.take_succ_cons, List.take_zero, List.drop_succ_cons, List.drop_zero]
      repeat (go_big_quiet_step (first | with_reducible exact LaterOf.call_same _ (CL.out _) | with_reducible exact LaterOf.call _ (CC.out _) | with_reducible exact LaterOf.call _ (CN1.out _) | with_reducible exact LaterOf.call _ (CN2.out _) | with_reducible exact LaterOf.call _ (CN3.out _)))
      refine wpQuiet_nil ?_
      intro w8 hw8
      obtain ⟨u, hu⟩ := hw8
      clear hm1 hm2
      have H8 := Lib.hid (show SlIs w8 w2.heap.size 9 1 v1 (k + 1) (scells ((L.map (·.1)).take (k + 1))) ∧ Two w8 w2.heap.size w2.heap.size (indexB 0 (L.take k)) (w2.heap.size + 1) (dataB (L.take k)) ∧ BlkIs w8 wr.heap.size 34 #[.string i1, .string d1] ∧ Below w2.heap.size w2 w8 from by
        rw [hu]
        exact ⟨H3.out.1.later u.h, H3.out.2.1.later u.h, u.blk H3.out.2.2.1, H3.out.2.2.2.trans (u.h.mono H3.out.2.2.2.size)⟩)
      clear hu u e0 e1 CL CN1 CN2 CN3 CC s1 s2 s3
      go_wp2_with fail
      obtain ⟨S, hS⟩ : ∃ S, S = i1 ++ n1 ++ n2 ++ n3 := ⟨_, rfl⟩
      have hSs : S.size = 44 := by
        rw [hS, ByteArray.size_append, ByteArray.size_append, ByteArray.size_append, HN.out.2.2.2.1, HN.out.2.2.2.2.1, HN.out.2.2.2.2.2, HX.out.2.2.2]
      have hSl : indexB 0 (L.take k) ++ S.data.toList = indexB 0 (L.take (k + 1)) := by
        rw [HX.out.2.1, indexB_snoc, Nat.zero_add, ← HV.out.1, hS, app_list, app_list, app_list, HN.out.1, HN.out.2.1, HN.out.2.2.1, HV.out.2]
        rfl
      have W1 := Lib.hid (Bld.write_first w2.heap.size w2.heap.size (w2.heap.size + 1) _ _ S w8 H8.out.2.1 (by omega) H8.out.2.2.2.size)
      rw [hSl] at W1
      rw [← hS]
      clear hS hSl hSs
      refine W1.out.mono ?_
      rintro e w9 ⟨rfl, ht9, hb9, ha9⟩
      have H9 := Lib.hid (show SlIs w9 w2.heap.size 9 1 v1 (k + 1) (scells ((L.map (·.1)).take (k + 1))) ∧ Two w9 w2.heap.size w2.heap.size (indexB 0 (L.take (k + 1))) (w2.heap.size + 1) (dataB (L.take k)) ∧ BlkIs w9 wr.heap.size 34 #[.string i1, .string d1] ∧ Below w2.heap.size w2 w9 from
        ⟨ha9.sl H8.out.1 (by decide) (by decide), ht9, ha9.blk H8.out.2.2.1 (by decide) (by decide), H8.out.2.2.2.trans hb9⟩)
      have f1 : w9.cell? ⟨wr.heap.size, 1, none⟩ = some (.string d1) := H9.out.2.2.1.cell 1
      clear ht9 hb9 ha9 W1
      go_wp2_with fail
      have W2 := Lib.hid (Bld.write_second w2.heap.size w2.heap.size (w2.heap.size + 1) _ _ d1 w9 H9.out.2.1 (by rw [← HV.out.1]; omega) H9.out.2.2.2.size)
      refine W2.out.mono ?_
      rintro e w10 ⟨rfl, ht10, hb10, ha10⟩
      have H10 := Lib.hid (show SlIs w10 w2.heap.size 9 1 v1 (k + 1) (scells ((L.map (·.1)).take (k + 1))) ∧ Two w10 w2.heap.size w2.heap.size (indexB 0 (L.take (k + 1))) (w2.heap.size + 1) (dataB (L.take (k + 1))) ∧ Below w2.heap.size w2 w10 from
        ⟨ha10.sl H9.out.1 (by decide) (by decide), by rw [HX.out.2.1, dataB_snoc]; rw [HX.out.2.1] at ht10; exact ht10, H9.out.2.2.2.trans hb10⟩)
      clear ht10 hb10 ha10 W2 f1
      go_wp2_with fail
      refine ⟨⟨k + 1, rfl, hk1, H10⟩, ?_⟩
      simp [intOf]
      omega
    · have ki : (L.length : Int) ≤ (k : Int) := by omega
      obtain rfl : k = L.length := by omega
      have hids : (L.map (·.1)).take L.length = L.map (·.1) := List.take_of_length_le (by simp)
      have htl : L.take L.length = L := List.take_of_length_le (Nat.le_refl _)
      have hlm : L.length = (L.map (·.1)).length := by simp
      have HI0 := HR.out.1
      have HT0 := HR.out.2.1
      rw [hids] at HI0
      rw [htl] at HT0
      obtain ⟨ids, hidd⟩ : ∃ ids, ids = L.map (·.1) := ⟨_, rfl⟩
      rw [← hidd] at HI0 hlm
      have HI1 := HI0
      rw [hlm] at HI1
      obtain ⟨ao1, cap1, hv1, hSA⟩ := StrsAt.own HI1
      rw [← hlm] at hv1
      subst hv1
      have FA := Lib.hid (fun w' (hb : Below wr.heap.size wr w') => fan_any ao1 cap1 ids w' (hSA.later hb) (by rw [hidd]; exact firsts_rise H2.out.2.1) (fun s hs => by
        rw [hidd] at hs
        obtain ⟨x, hx, rfl⟩ := List.mem_map.1 hs
        rw [H2.out.2.2.2.2 x hx]; decide) (by omega))
      rw [← hlm] at FA
      have HID := Lib.hid hidd
      have HT1 := Lib.hid HT0
      clear HI0 HI1 HT0 hids htl hlm hidd hSA
      obtain ⟨w9, hw9⟩ : ∃ w9, w9 = wr := ⟨_, rfl⟩
      subst hw9
      have N1 := Lib.hid (num_to L.length _ rfl w9)
      obtain ⟨n1, hn1⟩ : ∃ n1, n1 = numS L.length := ⟨_, rfl⟩
      rw [← hn1] at N1
      have z1 : n1.size = 4 := by rw [hn1]; rfl
      obtain ⟨mg, hmg⟩ : ∃ mg : ByteArray, mg = ⟨#[114, 101, 108, 105, 99, 48, 48, 49]⟩ := ⟨_, rfl⟩
      have zm : (ByteArray.mk #[114, 101, 108, 105, 99, 48, 48, 49]).size = 8 := rfl
      have s1 : ¬ 9223372036854775807 < (ByteArray.mk #[114, 101, 108, 105, 99, 48, 48, 49]).size + n1.size := by omega
      have hmod : (L.length : Int) % 4294967296 = L.length := by omega
      clear zm
      go_wp2_with fail
      clear hmod
      obtain ⟨fb, hfb⟩ : ∃ fb : ByteArray, fb = ⟨(fanB ids 256).toArray⟩ := ⟨_, rfl⟩
      rw [← hfb] at FA
      obtain ⟨ib, hib⟩ : ∃ ib : ByteArray, ib = ⟨(indexB 0 L).toArray⟩ := ⟨_, rfl⟩
      obtain ⟨db, hdb⟩ : ∃ db : ByteArray, db = ⟨(dataB L).toArray⟩ := ⟨_, rfl⟩
      have zf : fb.size = 1024 := by rw [hfb]; show (fanB ids 256).toArray.size = _; rw [List.size_toArray, fanB_length]
      have zi : ib.size = 44 * L.length := by rw [hib]; show (indexB 0 L).toArray.size = _; rw [List.size_toArray, indexB_length L 0 H2.out.2.2.2.2]
      have zd : db.size = (dataB L).length := by rw [hdb]; show (dataB L).toArray.size = _; rw [List.size_toArray]
      have zm : (ByteArray.mk #[114, 101, 108, 105, 99, 48, 48, 49]).size = 8 := rfl
      have zt : ((((ByteArray.mk #[114, 101, 108, 105, 99, 48, 48, 49]) ++ n1 ++ fb) ++ ib) ++ db).size = 1036 + 44 * L.length + (dataB L).length := by
        rw [ByteArray.size_append, ByteArray.size_append, ByteArray.size_append, ByteArray.size_append]; omega
      have ht : ((((ByteArray.mk #[114, 101, 108, 105, 99, 48, 48, 49]) ++ n1 ++ fb) ++ ib) ++ db).data.toList = bodyB L := by
        rw [app_list, app_list, app_list, app_list, hn1, hfb, hib, hdb, HID.out]
        rfl
      have s2 : ¬ 9223372036854775807 < ((ByteArray.mk #[114, 101, 108, 105, 99, 48, 48, 49]) ++ n1).size + fb.size := by rw [ByteArray.size_append]; omega
      have s3 : ¬ 9223372036854775807 < ((ByteArray.mk #[114, 101, 108, 105, 99, 48, 48, 49]) ++ n1 ++ fb).size + ib.size := by rw [ByteArray.size_append, ByteArray.size_append]; omega
      have s4 : ¬ 9223372036854775807 < ((ByteArray.mk #[114, 101, 108, 105, 99, 48, 48, 49]) ++ n1 ++ fb ++ ib).size + db.size := by rw [ByteArray.size_append, ByteArray.size_append, ByteArray.size_append]; omega
      have HZ := Lib.hid (And.intro zt ht)
      have HDB := Lib.hid (And.intro hib hdb)
      clear zf zi zd zm zt ht hn1 z1 hfb hib hdb hmg mg
      refine N1.out.mono ?_
      rintro e w10 ⟨rfl, hb10⟩
      have H10 := Lib.hid hb10
      clear hb10 N1
      go_wp2_with fail
      refine (FA.out w10 H10.out).mono ?_
      rintro e w11 ⟨rfl, hb11⟩
      have H11 := Lib.hid (H10.out.trans (hb11.mono H10.out.size))
      clear hb11 FA
      go_wp2_with fail
      have ST := Lib.hid (Bld.string_first w2.heap.size w2.heap.size (w2.heap.size + 1) _ _ w11 (HT1.out.later H11.out))
      rw [← HDB.out.1] at ST
      refine ST.out.mono ?_
      rintro e w12 ⟨rfl, hi12, hb12⟩
      have H12 := Lib.hid (And.intro hi12 ((HR.out.2.2.trans (H11.out.mono HR.out.2.2.size)).trans hb12))
      clear hi12 hb12 ST
      go_wp2_with fail
      have SD := Lib.hid (Bld.string_all w2.heap.size (w2.heap.size + 1) _ w12 H12.out.1)
      rw [← HDB.out.2] at SD
      refine SD.out.mono ?_
      rintro e w13 ⟨rfl, hb13⟩
      have H13 := Lib.hid (H2.out.2.2.2.1.trans ((H12.out.2.trans hb13).mono H2.out.2.2.2.1.size))
      clear hb13 SD
      go_upto_region 21 with (fail)
      obtain ⟨S, hS⟩ : ∃ S, S = ((((ByteArray.mk #[114, 101, 108, 105, 99, 48, 48, 49]) ++ n1 ++ fb) ++ ib) ++ db) := ⟨_, rfl⟩
      rw [← hS] at HZ ⊢
      have hzs : S.size ≤ 4194272 := by have := HZ.out.1; omega
      have hcap : decide ((4194304 : Int) < (S.size : Int) + 32) = false := decide_eq_false (by omega)
      have SH := Lib.hid (Sha.sum_any S w13 (by omega))
      obtain ⟨dg, hdg⟩ : ∃ dg : ByteArray, dg = ⟨(Sha.sum S.data.toList).toArray⟩ := ⟨_, rfl⟩
      rw [← hdg] at SH
      have zg : dg.size = 32 := by rw [hdg]; exact Sha.sum_size _
      have s5 : ¬ 9223372036854775807 < S.size + dg.size := by omega
      have HG := Lib.hid hdg
      clear hS s1 s2 s3 s4 hdg zg
      go_wp2_with fail
      refine SH.out.mono ?_
      rintro e w14 ⟨rfl, hb14⟩
      have H14 := Lib.hid (H13.out.trans (hb14.mono H13.out.size))
      clear hb14 SH
      go_wp2_with fail
      go_ret2
      refine ⟨0, packB L, ?_, .ok L H.out.2 HSZ.out H2.out.1 H2.out.2.1, H14.out⟩
      have e : (⟨(packB L).toArray⟩ : ByteArray) = S ++ dg := by
        apply data_inj
        rw [app_list, HZ.out.2, HG.out, HZ.out.2]
        show (packB L).toArray.toList = bodyB L ++ (Sha.sum (bodyB L)).toArray.toList
        rw [List.toList_toArray, List.toList_toArray]
        rfl
      rw [e]
      rfl
end Go.Proofs.Ytabgpleiobpeoaa.Pak
