/- The laws' own great and awake (layer 07), walked; what Read and Find answer of a made pack. -/
import Derived.Test.YtabgpleiobpeoaaPackMade
import Derived.Test.YtabgpleiobpeoaaPack12
import Derived.Test.YtabgpleiobpeoaaStrs
namespace Go.Proofs.Ytabgpleiobpeoaa.Pak
set_option linter.unusedVariables false
open Go.RowKit Go.Sort Go.Lib
open Oct (le32)
theorem strsAt_row {w : World} {ao : Option Addr} {n : Nat} {ss : List ByteArray} (h : StrRow w ao n ss) : StrsAt w ao ss := by
  obtain ⟨rfl, h2, h3, h4⟩ := h
  refine ⟨h3, fun hn => ?_⟩
  obtain ⟨b, off, ha, hlt, hc⟩ := h4 hn
  refine ⟨b, off, ha, hlt, fun i hi => ?_⟩
  rw [hc i hi, List.getD_eq_getElem?_getD, List.getElem?_eq_getElem hi]
  rfl
/-- What great answers. -/
def GreatOut (l : List ByteArray) (e : Ending) : Prop := ∃ g, e = .returned (.bool g) ∧ (g = false → l.length ≤ 60 ∧ total l ≤ 262144)
set_option maxRecDepth 100000 in
theorem great_any (ao : Option Addr) (cap : Nat) (l : List ByteArray) (w : World) (h : StrsAt w ao l) (hs : ∀ s ∈ l, s.size ≤ 140737488351232) :
    Calls Try.prog 10 #[.slice ao l.length cap] w fun e w' => GreatOut l e ∧ w = w' := by
  have hm := h.1
  have H := Lib.hid (And.intro h hs)
  clear h hs
  by_cases h60 : 60 < l.length
  · have d0 : decide ((60 : Int) < l.length) = true := decide_eq_true (by omega)
    go_enter Try.func10, Try.ntmps10
    go_wp2_with fail
    go_ret
    exact ⟨⟨true, rfl, fun h => by cases h⟩, rfl⟩
  · have d0 : decide ((60 : Int) < l.length) = false := decide_eq_false (by omega)
    have H60 := Lib.hid (show l.length ≤ 60 by omega)
    clear h60
    go_enter Try.func10, Try.ntmps10
    go_wp2_with fail
    clear d0
    go_loopw [3, 4] (fun n i wr => ∃ (k m : Nat), n = .int .i64 (m : Int) ∧ i = .int .i64 (k : Int) ∧ k ≤ l.length ∧ m ≤ 1048576 ∧ Hid (m = total (l.take k)) ∧ w = wr) (fun _ i _ => ((l.length : Int) - intOf i).toNat)
    case atStart => exact ⟨0, 0, rfl, rfl, by omega, by omega, Lib.hid (by simp [total]), rfl⟩
    case round =>
      obtain ⟨k, m, rfl, rfl, hk, hm1, HM, rfl⟩ := hrel
      rcases Nat.lt_or_ge k l.length with hk1 | hk1
      · obtain ⟨b, off, rfl, hlt, hcell⟩ := H.out.1.2 (by omega)
        have c0 := hcell k hk1
        have ki : (k : Int) < l.length := by omega
        have hy := H.out.2 _ (List.getElem_mem hk1)
        have ht := total_take l k hk1
        rw [← HM.out] at ht
        obtain ⟨y, hyy⟩ : ∃ y, y = l[k] := ⟨_, rfl⟩
        rw [← hyy] at c0 hy ht
        have HT := Lib.hid ht
        clear hcell hyy ht
        by_cases hg : 1048576 < m + y.size
        · have d1 : decide ((1048576 : Int) < (m : Int) + y.size) = true := decide_eq_true (by omega)
          clear hg
          go_wp2_with fail
          go_ret
          exact ⟨⟨true, rfl, fun h => by cases h⟩, rfl⟩
        · have d1 : decide ((1048576 : Int) < (m : Int) + y.size) = false := decide_eq_false (by omega)
          have hg2 : m + y.size ≤ 1048576 := by omega
          clear hg
          go_wp2_with fail
          refine ⟨⟨k + 1, m + y.size, rfl, rfl, hk1, hg2, Lib.hid HT.out.symm, trivial⟩, ?_⟩
          simp [intOf]
          omega
      · have ki : (l.length : Int) ≤ (k : Int) := by omega
        obtain rfl : k = l.length := by omega
        have HM2 := Lib.hid (show m = total l from by rw [HM.out, List.take_length])
        go_wp2_with fail
        go_ret
        refine ⟨⟨_, rfl, fun h => ⟨H60.out, ?_⟩⟩, rfl⟩
        rw [← HM2.out]
        have h2 : ¬ ((262144 : Int) < (m : Int)) := by simpa using h
        omega
/-- A made pack's bytes. -/
def pk (L : List It) : ByteArray := ⟨(packB L).toArray⟩
theorem pk_list (L : List It) : (pk L).data.toList = packB L := by unfold pk; rw [List.toList_toArray]
theorem pk_size {L : List It} (h : Fine L) : (pk L).size = 1068 + 44 * L.length + (dataB L).length := by rw [← data_len, pk_list, packB_length h]
theorem made_reads {L : List It} (hf : Fine L) (hb : 1068 + 44 * L.length + (dataB L).length ≤ 4194304) (w : World) :
    Calls Try.prog 13 #[.string (pk L)] w fun e w' => ∃ ao cap, e = .returned (.tuple #[.slice ao L.length cap, .int .i64 0]) ∧ ItemsAt w' ao L ∧ Below w.heap.size w w' := by
  refine (read_any (pk L) w (by rw [pk_size hf]; exact hb)).mono ?_
  rintro e w' ⟨c, L', ao, cap, hr, he, hi, hbw⟩
  rw [pk_list] at hr
  obtain ⟨rfl, rfl⟩ := read_unique hr (made_read hf)
  exact ⟨ao, cap, he, hi, hbw⟩
theorem made_find {L : List It} (hf : Fine L) (hb : 1068 + 44 * L.length + (dataB L).length ≤ 4194304) (t : ByteArray) (ht : t.size = 32) (w : World) :
    Calls Try.prog 17 #[.string (pk L), .string t] w fun e w' => ((∃ x ∈ L, x.1 = t ∧ e = .returned (.tuple #[.string x.2, .bool true, .int .i64 0])) ∨
      ((∀ x ∈ L, x.1 ≠ t) ∧ e = .returned (.tuple #[.string ⟨#[]⟩, .bool false, .int .i64 0]))) ∧ Below w.heap.size w w' := by
  refine (find_any (pk L) t w (by rw [pk_size hf]; exact hb) (by rw [pk_list]; exact made_shaped hf) (by rw [pk_list]; exact made_right hf) ht).mono ?_
  rintro e w' ⟨h, hbw⟩
  rw [pk_list, made_many hf] at h
  refine ⟨?_, hbw⟩
  rcases h with ⟨i, hi, h1, h2⟩ | ⟨h1, h2⟩
  · refine Or.inl ⟨L[i], List.getElem_mem hi, ?_, ?_⟩
    · rw [(made_row hf hi).1] at h1
      exact data_inj h1
    · rw [made_data hf hi] at h2
      rw [h2, Oct.bytes_of]
  · refine Or.inr ⟨fun x hx he => ?_, h2⟩
    obtain ⟨i, hi, rfl⟩ := List.getElem_of_mem hx
    exact h1 i hi (by rw [(made_row hf hi).1, he])
theorem fine_one (s : ByteArray) (h : s.size ≤ 131072) : Fine [(sumS s, s)] where
  ne := by simp
  most := by simp
  rise := List.pairwise_singleton _ _
  ids := fun x hx => by rcases List.mem_singleton.1 hx with rfl; rfl
  sizes := fun x hx => by rcases List.mem_singleton.1 hx with rfl; exact h
theorem is_one (s : ByteArray) (h : s.size ≤ 131072) : MakeIs [s] 0 (packB [(sumS s, s)]) :=
  .ok _ (by simp) (fun x hx => by rcases List.mem_singleton.1 hx with rfl; exact h) (List.Perm.refl _) (List.pairwise_singleton _ _)
theorem head_one (s : ByteArray) : (packB [(sumS s, s)]).take 12 = [114, 101, 108, 105, 99, 48, 48, 49, 1, 0, 0, 0] := by
  have : packB [(sumS s, s)] = (magic ++ le32 1) ++ (fanB ([(sumS s, s)].map (·.1)) 256 ++ indexB 0 [(sumS s, s)] ++ dataB [(sumS s, s)] ++ Sha.sum (bodyB [(sumS s, s)])) := by
    rw [packB_eq]
    unfold headB
    simp only [List.append_assoc]
    rfl
  rw [this, List.take_left' (by rfl)]
  rfl
set_option maxRecDepth 100000 in
set_option maxHeartbeats 1000000 in
theorem awake_any (w : World) : Calls Try.prog 9 #[] w fun e w' => e = .returned (.bool true) ∧ Below w.heap.size w w' := by
  obtain ⟨s0, hs0⟩ : ∃ s0 : ByteArray, s0 = ⟨#[1, 104, 105]⟩ := ⟨_, rfl⟩
  have z0 : s0.size = 3 := by rw [hs0]; rfl
  have hF := fine_one s0 (by omega)
  have hI := is_one s0 (by omega)
  have h12 := head_one s0
  obtain ⟨I, hId⟩ : ∃ I, I = sumS s0 := ⟨_, rfl⟩
  rw [← hId] at hF hI h12
  have hI32 : I.size = 32 := by rw [hId]; exact sumS_size _
  have hdl : (dataB [(I, s0)]).length = 3 := by show (s0.data.toList ++ []).length = 3; rw [List.append_nil, data_len, z0]
  have hsz : (pk [(I, s0)]).size = 1115 := by rw [pk_size hF, hdl]; rfl
  have hb : 1068 + 44 * [(I, s0)].length + (dataB [(I, s0)]).length ≤ 4194304 := by rw [hdl]; show 1068 + 44 * 1 + 3 ≤ 4194304; decide
  have R1 := made_reads hF hb
  have F1 := fun w => made_find hF hb I hI32 w
  have hx : (pk [(I, s0)]).extract 0 12 = ⟨#[114, 101, 108, 105, 99, 48, 48, 49, 1, 0, 0, 0]⟩ := by
    apply data_inj
    rw [ext_list, pk_list, List.drop_zero]
    exact h12
  have M1 : ∀ (ao : Option Addr) (cap : Nat) (w : World), StrsAt w ao [s0] → Calls Try.prog 11 #[.slice ao 1 cap] w fun e w' => e = .returned (.tuple #[.string (pk [(I, s0)]), .int .i64 0]) ∧ Below w.heap.size w w' := by
    intro ao cap w h
    refine (make_any ao cap [s0] w h (by show 1 ≤ 1024; decide) (by show 1068 + 44 * 1 + total [s0] ≤ 4194304; simp [total]; omega)).mono ?_
    rintro e w' ⟨c, b, rfl, hm, hb⟩
    obtain ⟨rfl, rfl⟩ := make_unique (List.Perm.refl _) hm hI
    exact ⟨rfl, hb⟩
  have M0 : ∀ (w : World), Calls Try.prog 11 #[.slice none 0 0] w fun e w' => e = .returned (.tuple #[.string ⟨#[]⟩, .int .i64 1]) ∧ Below w.heap.size w w' := by
    intro w
    refine (make_any none 0 [] w ⟨by decide, fun h => absurd h (by decide)⟩ (by decide) (by decide)).mono ?_
    rintro e w' ⟨c, b, rfl, hm, hb⟩
    obtain ⟨rfl, rfl⟩ := make_unique (List.Perm.refl _) hm (.none_ rfl)
    exact ⟨rfl, hb⟩
  have R0 : ∀ (w : World), Calls Try.prog 13 #[.string ⟨#[120]⟩] w fun e w' => (∃ v, e = .returned (.tuple #[v, .int .i64 3])) ∧ Below w.heap.size w w' := by
    intro w
    refine (read_any ⟨#[120]⟩ w (by decide)).mono ?_
    rintro e w' ⟨c, L', ao, cap, hr, he, hi, hbw⟩
    obtain ⟨rfl, rfl⟩ := read_unique hr (.short (by decide))
    exact ⟨⟨_, he⟩, hbw⟩
  have R1 : ∀ (w : World), Calls Try.prog 13 #[.string (pk [(I, s0)])] w fun e w' => (∃ b off cap, e = .returned (.tuple #[.slice (some ⟨b, off, none⟩) 1 cap, .int .i64 0]) ∧ b < w'.heap.size ∧ w'.cell? ⟨b, off, none⟩ = some (.string I) ∧ w'.cell? ⟨b, off + 1, none⟩ = some (.string s0)) ∧ Below w.heap.size w w' := by
    intro w
    refine (R1 w).mono ?_
    rintro e w' ⟨ao, cap, he, hi, hbw⟩
    obtain ⟨b, off, rfl, hlt, hc⟩ := hi.2 (Nat.zero_lt_one)
    have := hc 0 (Nat.zero_lt_one)
    exact ⟨⟨b, off, cap, he, hlt, this.1, this.2⟩, hbw⟩
  have F1 : ∀ (w : World), Calls Try.prog 17 #[.string (pk [(I, s0)]), .string I] w fun e w' => e = .returned (.tuple #[.string s0, .bool true, .int .i64 0]) ∧ Below w.heap.size w w' := by
    intro w
    refine (F1 w).mono ?_
    rintro e w' ⟨h, hbw⟩
    refine ⟨?_, hbw⟩
    rcases h with ⟨x, hx, h1, h2⟩ | ⟨h1, h2⟩
    · rcases List.mem_singleton.1 hx with rfl
      exact h2
    · exact absurd rfl (h1 (I, s0) (by simp))
  obtain ⟨S, hS⟩ : ∃ S, S = pk [(I, s0)] := ⟨_, rfl⟩
  rw [← hS] at M1 R1 F1 hx hsz
  have M1 := Lib.hid M1
  have M0 := Lib.hid M0
  have R1 := Lib.hid R1
  have R0 := Lib.hid R0
  have F1 := Lib.hid F1
  have e12 : ((S.extract 0 12).toList == [114, 101, 108, 105, 99, 48, 48, 49, 1, 0, 0, 0]) = true := by rw [hx, ByteArray.toList_eq]; rfl
  have hS12 : (12 : Int) ≤ S.size := by omega
  have hszi : ((S.size : Int) != 1115) = false := by simp; omega
  clear hS hx hF hI h12 hb hdl hId z0 hI32
  subst hs0
  go_enter Try.func9, Try.ntmps9
  go_wp2_with fail
  refine (M1.out _ _ _ ⟨by decide, fun _ => ⟨w.heap.size, 0, rfl, by simp, fun i hi => ?_⟩⟩).mono ?_
  · obtain rfl : i = 0 := by simpa using hi
    exact (BlkIs.new w _ _).cell 0
  rintro e w1 ⟨rfl, hb1⟩
  have H1 := Lib.hid (((Below.refl w.heap.size w).alloc (Nat.le_refl _) _).trans (hb1.mono (by simp)))
  clear hb1 M1
  go_wp2_with fail
  refine (R1.out _).mono ?_
  rintro e w2 ⟨⟨b, off, cap, rfl, hlt, c0, c1⟩, hb2⟩
  have H2 := Lib.hid (And.intro c0 (And.intro c1 (And.intro hlt (H1.out.trans (hb2.mono H1.out.size)))))
  clear hb2 c0 c1 hlt R1 H1
  go_wp2_with fail
  refine (M0.out _).mono ?_
  rintro e w3 ⟨rfl, hb3⟩
  have H3 := Lib.hid (show w3.cell? ⟨b, off, none⟩ = some (.string I) ∧ w3.cell? ⟨b, off + 1, none⟩ = some (.string ⟨#[1, 104, 105]⟩) ∧ b < w3.heap.size ∧ Below w.heap.size w w3 from
    ⟨by rw [hb3.cell H2.out.2.2.1]; exact H2.out.1, by rw [hb3.cell H2.out.2.2.1]; exact H2.out.2.1, Nat.lt_of_lt_of_le H2.out.2.2.1 hb3.size, H2.out.2.2.2.trans (hb3.mono H2.out.2.2.2.size)⟩)
  clear hb3 H2 M0
  go_wp2_with fail
  refine (R0.out _).mono ?_
  rintro e w4 ⟨⟨v, rfl⟩, hb4⟩
  have H4 := Lib.hid (show w4.cell? ⟨b, off, none⟩ = some (.string I) ∧ w4.cell? ⟨b, off + 1, none⟩ = some (.string ⟨#[1, 104, 105]⟩) ∧ b < w4.heap.size ∧ Below w.heap.size w w4 from
    ⟨by rw [hb4.cell H3.out.2.2.1]; exact H3.out.1, by rw [hb4.cell H3.out.2.2.1]; exact H3.out.2.1, Nat.lt_of_lt_of_le H3.out.2.2.1 hb4.size, H3.out.2.2.2.trans (hb4.mono H3.out.2.2.2.size)⟩)
  clear hb4 H3 R0
  have c0 := H4.out.1
  have c1 := H4.out.2.1
  go_wp2_with fail
  refine (F1.out _).mono ?_
  rintro e w5 ⟨rfl, hb5⟩
  have H5 := Lib.hid (H4.out.2.2.2.trans (hb5.mono H4.out.2.2.2.size))
  clear hb5 F1
  go_wp2_with fail
  go_ret
  exact ⟨rfl, H5.out⟩
end Go.Proofs.Ytabgpleiobpeoaa.Pak
