/- The law PackFound answers true. Conditions: none but the memory's reach. (Layer 07.) -/
import Derived.Test.YtabgpleiobpeoaaPackAwake
namespace Go.Proofs.Ytabgpleiobpeoaa.Pak
set_option linter.unusedVariables false
open Go.RowKit Go.Sort Go.Lib
theorem once {L : List It} (h : Fine L) {x y : It} (hx : x ∈ L) (hy : y ∈ L) (he : x.1 = y.1) : x = y := by
  obtain ⟨i, hi, rfl⟩ := List.getElem_of_mem hx
  obtain ⟨j, hj, rfl⟩ := List.getElem_of_mem hy
  have key : ∀ a b (ha : a < L.length) (hb : b < L.length), a < b → L[a].1 ≠ L[b].1 := fun a b ha hb hab e => by
    have := List.pairwise_iff_getElem.1 h.rise a b ha hb hab
    unfold lowI at this
    rw [e] at this
    exact List.lt_irrefl _ this
  rcases Nat.lt_trichotomy i j with h1 | h1 | h1
  · exact absurd he (key i j hi hj h1)
  · subst h1; rfl
  · exact absurd he.symm (key j i hj hi h1)
theorem sum_snoc (l : List ByteArray) (t : ByteArray) (q : Nat) (h : q < l.length) : holds (∃ s ∈ l.take (q + 1), sumS s = t) = (holds (∃ s ∈ l.take q, sumS s = t) || decide (sumS l[q] = t)) := by
  have e := List.take_succ_eq_append_getElem h
  rw [show (∃ s ∈ l.take (q + 1), sumS s = t) = (∃ s ∈ l.take q ++ [l[q]], sumS s = t) from by rw [e]]
  clear e
  by_cases h1 : ∃ s ∈ l.take q, sumS s = t
  · obtain ⟨s, hs, e⟩ := h1
    have a1 : holds (∃ s ∈ l.take q, sumS s = t) = true := holds_true ⟨s, hs, e⟩
    have a2 : holds (∃ s ∈ l.take q ++ [l[q]], sumS s = t) = true := holds_true ⟨s, List.mem_append_left _ hs, e⟩
    rw [a1, a2]; rfl
  · rw [holds_false h1]
    by_cases h2 : sumS l[q] = t
    · have a2 : holds (∃ s ∈ l.take q ++ [l[q]], sumS s = t) = true := holds_true ⟨l[q], List.mem_append_right _ (List.mem_singleton.2 rfl), h2⟩
      rw [a2, decide_eq_true h2]; rfl
    · have a2 : holds (∃ s ∈ l.take q ++ [l[q]], sumS s = t) = false := holds_false (by
        rintro ⟨s, hs, e⟩
        rcases List.mem_append.1 hs with hs | hs
        · exact h1 ⟨s, hs, e⟩
        · rcases List.mem_singleton.1 hs with rfl
          exact h2 e)
      rw [a2, decide_eq_false h2]; rfl
set_option maxRecDepth 100000 in
set_option maxHeartbeats 2000000 in
theorem found_any (ao : Option Addr) (n cap : Nat) (ss : List ByteArray) (ob : List UInt8) (w : World) (h : StrRow w ao n ss) (hob : ob.length = 32) :
    Calls Try.prog 6 #[.slice ao n cap, .agg (bcells ob).toArray] w fun e w' => e = .returned (.bool true) ∧ Below w.heap.size w w' := by
  have hS := strsAt_row h
  have hsz := h.2.1
  obtain ⟨rfl, -⟩ := h
  have hm := hS.1
  have hkk := hS.later ((Below.refl w.heap.size w).alloc (Nat.le_refl _) (.cells (bcells ob).toArray 36))
  have H0 := Lib.hid (show ∃ W, W = w.alloc (.cells (bcells ob).toArray 36) ∧ BlkIs W w.heap.size 36 (bcells ob).toArray ∧ StrsAt W ao ss ∧ Below w.heap.size w W from
    ⟨_, rfl, BlkIs.new _ _ _, hkk, (Below.refl _ _).alloc (Nat.le_refl _) _⟩)
  have HSZ := Lib.hid hsz
  clear hS hsz hkk
  obtain ⟨cs, hcs⟩ : ∃ cs, cs = (bcells ob).toArray := ⟨_, rfl⟩
  have hc32 : cs.size = 32 := by rw [hcs, List.size_toArray, bcells, List.length_map, hob]
  rw [← hcs] at H0 ⊢
  have HCS := Lib.hid (And.intro hcs hob)
  clear hcs hob
  go_enter Try.func6, Try.ntmps6
  go_wp2_with fail
  obtain ⟨W, hW, H0⟩ := H0.out
  rw [← hW]
  have H0 := Lib.hid H0
  clear hW
  refine (awake_any W).mono ?_
  rintro e w1 ⟨rfl, hb1⟩
  have H1 := Lib.hid (H0.out.2.2.trans (hb1.mono H0.out.2.2.size))
  have HW1 := Lib.hid hb1
  clear hb1
  go_wp2_with fail
  refine (great_any ao cap ss w1 (H0.out.2.1.later HW1.out) HSZ.out).mono ?_
  rintro e w2 ⟨⟨g, rfl, hg⟩, rfl⟩
  cases g
  case true =>
    clear hg
    go_wp2_with fail
    go_ret
    exact ⟨rfl, H1.out⟩
  obtain ⟨h60, htot⟩ := hg rfl
  have M := Lib.hid (make_any ao cap ss w1 (H0.out.2.1.later HW1.out) (by omega) (by omega))
  clear hg
  go_wp2_with fail
  refine M.out.mono ?_
  rintro e w3 ⟨c, b, rfl, hm3, hb3⟩
  have H3 := Lib.hid (show Below W.heap.size W w3 from HW1.out.trans (hb3.mono HW1.out.size))
  clear hb3 M
  by_cases hc : c = 0
  case neg =>
    have d1 : ((c : Int) != 0) = true := by simp; exact hc
    clear hm3 hc
    go_wp2_with fail
    go_ret
    exact ⟨rfl, H0.out.2.2.trans (H3.out.mono H0.out.2.2.size)⟩
  subst hc
  obtain ⟨L, hf, rfl, hp⟩ := make_read (by omega) hm3
  have hLl : L.length = ss.length := by rw [hp.length_eq]; simp [itemsOf]
  have hdt : (dataB L).length = total ss := by rw [dataB_length]; exact total_perm (snd_perm hp)
  have F := Lib.hid (fun t ht w => made_find hf (by omega) t ht w)
  obtain ⟨S, hS⟩ : ∃ S, S = pk L := ⟨_, rfl⟩
  have hS' : (⟨(packB L).toArray⟩ : ByteArray) = S := hS.symm
  rw [hS']
  rw [← hS] at F
  have FA := Lib.hid (fun w => find_arg S ⟨#[120]⟩ w (by decide))
  have HL := Lib.hid (And.intro hf hp)
  have HS := Lib.hid (H0.out.2.1.later H3.out)
  have hlt0 := H0.out.1.lt
  have k0 := H0.out.1.below H3.out hlt0
  obtain ⟨id, hid⟩ : ∃ id : ByteArray, id = ⟨ob.toArray⟩ := ⟨_, rfl⟩
  have hid32 : id.size = 32 := by rw [hid]; show ob.toArray.size = 32; rw [List.size_toArray, HCS.out.2]
  have ht : (convert 37 9 (.slice (some ⟨w.heap.size, 0, none⟩) 32 32)).run Try.prog w3 = .ok (.string id) w3 := by
    have e := run_convert_bytes_back w3 37 9 5 ⟨w.heap.size, 0, none⟩ 32 ob Try.underlying37 Try.underlying5 Try.underlying9 fun j hj => by
      rw [Addr.add_lit, k0.cell, HCS.out.1, List.getElem?_toArray, bcells, List.getElem?_map]
      simp [List.getElem?_eq_getElem hj]
    rw [HCS.out.2] at e
    rw [hid]
    exact e
  have HIS := Lib.hid hid32
  clear hm3 hf hp hS hS' hLl hdt h60 htot k0 hid hid32 hlt0
  go_wp2_with fail
  go_loopw [8, 9] (fun p i wr => ∃ k : Nat, i = .int .i64 (k : Int) ∧ k ≤ ss.length ∧ p = .bool (holds (∃ s ∈ ss.take k, sumS s = id)) ∧ Hid (Below w3.heap.size w3 wr)) (fun _ i _ => ((ss.length : Int) - intOf i).toNat)
  case atStart => exact ⟨0, rfl, by omega, by rw [holds_false (by simp)], Lib.hid (Below.refl _ _)⟩
  case round =>
    obtain ⟨k, rfl, hk, rfl, HR⟩ := hrel
    have hbr := HR.out.size
    obtain ⟨p, hp⟩ : ∃ p, p = holds (∃ s ∈ ss.take k, sumS s = id) := ⟨_, rfl⟩
    rw [← hp]
    clear ht
    rcases Nat.lt_or_ge k ss.length with hk1 | hk1
    · have ki : (k : Int) < ss.length := by omega
      obtain ⟨b3, off3, rfl, hlt3, hcell3⟩ := HS.out.2 (by omega)
      have g0 := hcell3 k hk1
      have hsn := sum_snoc ss id k hk1
      have hmem := List.getElem_mem hk1
      rw [← hp] at hsn
      obtain ⟨y, hy⟩ : ∃ y, y = ss[k] := ⟨_, rfl⟩
      rw [← hy] at g0 hsn hmem
      obtain ⟨I, hI⟩ : ∃ I, I = sumS y := ⟨_, rfl⟩
      rw [← hI] at hsn
      have hin : (I, y) ∈ L := HL.out.2.mem_iff.2 (by rw [hI]; exact List.mem_map.2 ⟨y, hmem, rfl⟩)
      have hyz : y.size ≤ 140737488355328 := by have := HSZ.out y hmem; omega
      have CS := Lib.hid (fun w => Sha.sum_any y w hyz)
      rw [show (⟨(Sha.sum y.data.toList).toArray⟩ : ByteArray) = I from hI.symm] at CS
      have FI := Lib.hid (fun w => F.out I (by rw [hI]; exact sumS_size _) w)
      have HG := Lib.hid (And.intro hsn (And.intro hin (And.intro g0 hlt3)))
      clear hcell3 hy hsn hp hin hmem hI hyz
      have c0 : wr.cell? ⟨b3, off3 + k, none⟩ = some (.string y) := by rw [HR.out.cell HG.out.2.2.2]; exact g0
      clear g0
      go_wp2_with fail
      refine (CS.out _).mono ?_
      rintro e w4 ⟨rfl, hb4⟩
      have H4 := Lib.hid (HR.out.trans (hb4.mono hbr))
      clear hb4 c0
      go_wp2_with fail
      refine (FI.out _).mono ?_
      rintro e w5 ⟨hor, hb5⟩
      have H5 := Lib.hid (H4.out.trans (hb5.mono H4.out.size))
      obtain rfl : e = .returned (.tuple #[.string y, .bool true, .int .i64 0]) := by
        rcases hor with ⟨x, hx, h1, h2⟩ | ⟨h1, h2⟩
        · have := once HL.out.1 hx HG.out.2.1 h1
          rw [h2, this]
        · exact absurd rfl (h1 _ HG.out.2.1)
      have c5 : w5.cell? ⟨b3, off3 + k, none⟩ = some (.string y) := by rw [H5.out.cell HG.out.2.2.2]; exact HG.out.2.2.1
      have hself : (y.toList == y.toList) = true := by simp
      have hbs5 := H5.out.size
      clear hb5 hor FI
      cases p
      · by_cases he : I = id
        · have hz := eq_list he
          have HE := Lib.hid he
          clear he
          go_wp2_with fail
          refine (CS.out _).mono ?_
          rintro e w6 ⟨rfl, hb6⟩
          have H6 := Lib.hid (H5.out.trans (hb6.mono hbs5))
          clear hb6 c5
          go_wp2_with fail
          refine ⟨⟨k + 1, rfl, hk1, by rw [HG.out.1, decide_eq_true HE.out]; rfl, H6⟩, ?_⟩
          simp [intOf]
          omega
        · have hz := ne_list he
          have HE := Lib.hid he
          clear he
          go_wp2_with fail
          refine (CS.out _).mono ?_
          rintro e w6 ⟨rfl, hb6⟩
          have H6 := Lib.hid (H5.out.trans (hb6.mono hbs5))
          clear hb6 c5
          go_wp2_with fail
          refine ⟨⟨k + 1, rfl, hk1, by rw [HG.out.1, decide_eq_false HE.out]; rfl, H6⟩, ?_⟩
          simp [intOf]
          omega
      · go_wp2_with fail
        refine ⟨⟨k + 1, rfl, hk1, by rw [HG.out.1]; rfl, H5⟩, ?_⟩
        simp [intOf]
        omega
    · have ki : decide ((k : Int) < ss.length) = false := decide_eq_false (by omega)
      obtain rfl : k = ss.length := by omega
      have FI := Lib.hid (fun w => F.out id HIS.out w)
      have HP := Lib.hid hp
      clear hp
      go_wp2_with fail
      refine (FI.out _).mono ?_
      rintro e w5 ⟨hor, hb5⟩
      have H5 := Lib.hid (HR.out.trans (hb5.mono hbr))
      have hpq : ∃ d, e = .returned (.tuple #[.string d, .bool p, .int .i64 0]) := by
        rw [HP.out, List.take_length]
        rcases hor with ⟨x, hx, h1, h2⟩ | ⟨h1, h2⟩
        · refine ⟨x.2, ?_⟩
          have h3 := id_sum HL.out.2 hx
          rw [h2, holds_true ⟨x.2, h3.2, by rw [← h3.1, h1]⟩]
        · refine ⟨⟨#[]⟩, ?_⟩
          rw [h2, holds_false]
          rintro ⟨s, hs, e⟩
          exact h1 (sumS s, s) (HL.out.2.mem_iff.2 (List.mem_map.2 ⟨s, hs, rfl⟩)) e
      obtain ⟨d, rfl⟩ := hpq
      clear hor hb5 FI HP
      go_wp2_with fail
      refine (FA.out _).mono ?_
      rintro e w6 ⟨rfl, hb6⟩
      have H6 := Lib.hid (H0.out.2.2.trans ((H3.out.trans ((H5.out.trans (hb6.mono H5.out.size)).mono H3.out.size)).mono H0.out.2.2.size))
      clear hb6 FA
      have hpp : (p == p) = true := by simp
      cases p <;>
      · go_wp2_with fail
        go_ret
        exact ⟨rfl, H6.out⟩
end Go.Proofs.Ytabgpleiobpeoaa.Pak
