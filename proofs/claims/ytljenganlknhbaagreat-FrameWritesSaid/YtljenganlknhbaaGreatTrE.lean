/- trie.cell, walked. Conditions: at most 1,000,000 ids of 32 bytes. (Layer 10.) -/
import Derived.Test.YtljenganlknhbaaGreatPkJ
import Derived.Deep.CutBlock
import Derived.Deep.CutRange
namespace Go.Proofs.YtljenganlknhbaaGreat.Tr
set_option linter.unusedVariables false
set_option linter.unusedSimpArgs false
open Go.RowKit Go.Lib
open Set (StrAt scells El Rise)
/-- How many ids at the front have this digit at this place. -/
def chunk (l : List ByteArray) (dep d : Nat) : Nat := (l.takeWhile fun x => dgt x dep == (d : Int)).length
theorem chunk_le (l : List ByteArray) (dep d : Nat) : chunk l dep d ≤ l.length := (List.takeWhile_sublist _).length_le
theorem chunk_is : ∀ (l : List ByteArray) (dep d n : Nat), n ≤ l.length → (∀ k, k < n → dgt l[k]! dep = (d : Int)) → (n < l.length → dgt l[n]! dep ≠ (d : Int)) → n = chunk l dep d
  | [], dep, d, n, h, _, _ => by simp at h; subst h; rfl
  | x :: r, dep, d, 0, _, _, h2 => by
    have := h2 (by simp)
    have e : (dgt x dep == (d : Int)) = false := by simpa using this
    simp [chunk, List.takeWhile_cons, e]
  | x :: r, dep, d, n + 1, h, h1, h2 => by
    have e : (dgt x dep == (d : Int)) = true := by simpa using h1 0 (by omega)
    have := chunk_is r dep d n (by simpa using h) (fun k hk => by simpa using h1 (k + 1) (by omega)) (fun hn => by simpa using h2 (by simpa using hn))
    simp only [chunk, List.takeWhile_cons, e, if_true, List.length_cons]
    unfold chunk at this
    omega
theorem chunk_deep {l : List ByteArray} {dep d : Nat} (h : 64 ≤ dep) : chunk l dep d = 0 := by
  symm
  refine chunk_is l dep d 0 (by omega) (fun k hk => by omega) fun hl => ?_
  unfold dgt
  rw [if_neg (by omega)]
  omega
def kidsG (F : List ByteArray → ByteArray) (dep : Nat) : Nat → Nat → List ByteArray → List ByteArray
  | 0, _, _ => []
  | r + 1, d, l => F (l.take (chunk l dep d)) :: kidsG F dep r (d + 1) (l.drop (chunk l dep d))
theorem kidsG_length (F : List ByteArray → ByteArray) (dep : Nat) : ∀ r d l, (kidsG F dep r d l).length = r
  | 0, _, _ => rfl
  | r + 1, d, l => by simp [kidsG, kidsG_length F dep r]
/-- A cell: its sum, its kids. -/
def cellS : Nat → Nat → List ByteArray → ByteArray × List ByteArray
  | 0, dep, l => (leafS l, [])
  | fuel + 1, dep, l => if l.length ≤ 8 then (leafS l, []) else
    (innerS (kidsG (fun r => (cellS fuel (dep + 1) r).1) dep 16 0 l), kidsG (fun r => (cellS fuel (dep + 1) r).1) dep 16 0 l)
theorem cellS_few {fuel dep : Nat} {l : List ByteArray} (h : l.length ≤ 8) : cellS fuel dep l = (leafS l, []) := by
  cases fuel with
  | zero => rfl
  | succ n => simp [cellS, h]
theorem leafS_size (l : List ByteArray) : (leafS l).size = 32 := Sha.sum_size _
theorem innerS_size (l : List ByteArray) : (innerS l).size = 32 := Sha.sum_size _
theorem cellS_size (fuel dep : Nat) (l : List ByteArray) : (cellS fuel dep l).1.size = 32 := by
  cases fuel with
  | zero => exact leafS_size _
  | succ n =>
    unfold cellS
    split
    · exact leafS_size _
    · exact innerS_size _
theorem kidsG_size {F : List ByteArray → ByteArray} (hF : ∀ l, (F l).size = 32) (dep : Nat) : ∀ r d l x, x ∈ kidsG F dep r d l → x.size = 32
  | 0, _, _, x, h => by cases h
  | r + 1, d, l, x, h => by
    rcases List.mem_cons.1 h with rfl | h
    · exact hF _
    · exact kidsG_size hF dep r _ _ x h
def Deep (fuel dep : Nat) (l : List ByteArray) : Prop := l.length ≤ 8 ∨ (1 ≤ fuel ∧ 65 ≤ fuel + dep)
def CellOut (fuel dep : Nat) (l : List ByteArray) (w w' : World) (e : Ending) : Prop :=
  ∃ u, e = .returned (.tuple #[.string (cellS fuel dep l).1, u]) ∧ SlIs w' w.heap.size 9 1 u (cellS fuel dep l).2.length (scells (cellS fuel dep l).2) ∧ (l.length ≤ 8 → u = .slice none 0 0) ∧ Below w.heap.size w w'
set_option maxRecDepth 100000 in
theorem cell_few (fuel dep : Nat) (v : Value) (l : List ByteArray) (w : World) (h : StrAt w v l) (h8 : l.length ≤ 8) (hs : ∀ x, x ∈ l → x.size = 32) :
    Calls Tryz.prog 127 #[v, .int .i64 (dep : Int)] w fun e w' => CellOut fuel dep l w w' e := by
  have L := Lib.hid (leaf_any v l w h (by omega) hs)
  obtain ⟨ao, cap, rfl, -, -, -⟩ := h
  obtain ⟨Z, hZ⟩ : ∃ Z, Z = leafS l := ⟨_, rfl⟩
  rw [← hZ] at L
  have HZ := Lib.hid hZ
  have H8 := Lib.hid h8
  have k1 : (l.length : Int) ≤ 8 := by omega
  clear hs h8 hZ
  go_enter Tryz.func127, Tryz.ntmps127
  go_wp2_with fail
  refine L.out.mono ?_
  rintro e w1 ⟨rfl, hb⟩
  have HB := Lib.hid hb
  clear L hb
  go_wp2_with fail
  go_ret2
  refine ⟨.slice none 0 0, ?_, ?_, fun _ => rfl, HB.out⟩
  · rw [cellS_few H8.out, ← HZ.out]
    rfl
  · rw [cellS_few H8.out]
    exact SlIs.nil_ _ _ _ _
theorem strAt_take {w : World} {ao : Option Addr} {n cap m : Nat} {l : List ByteArray} (h : StrAt w (.slice ao n cap) l) (hm : m ≤ n) : StrAt w (.slice ao m cap) (l.take m) := by
  obtain ⟨ao', cap', hv, h1, h2, h3⟩ := h
  injection hv with e1 e2 e3
  subst e1 e2 e3
  have hl : (l.take m).length = m := by rw [List.length_take]; omega
  refine ⟨ao, cap, by rw [hl], by omega, h2, fun hn => ?_⟩
  obtain ⟨b, off, ha, hlt, hc⟩ := h3 (by omega)
  exact ⟨b, off, ha, hlt, fun i hi => by rw [hc i (by omega), List.getElem_take]⟩
theorem strAt_drop {w : World} {b off n cap m : Nat} {l : List ByteArray} (h : StrAt w (.slice (some ⟨b, off, none⟩) n cap) l) (hm : m ≤ n) : StrAt w (.slice (some ⟨b, off + m, none⟩) (n - m) (cap - m)) (l.drop m) := by
  obtain ⟨ao', cap', hv, h1, h2, h3⟩ := h
  injection hv with e1 e2 e3
  subst e1 e2 e3
  have hl : (l.drop m).length = l.length - m := by rw [List.length_drop]
  refine ⟨some ⟨b, off + m, none⟩, cap - m, by rw [hl], by omega, by omega, fun hn => ?_⟩
  obtain ⟨b', off', ha, hlt, hc⟩ := h3 (by omega)
  injection ha with ha
  injection ha with e1 e2 e3
  subst e1 e2
  exact ⟨b, off + m, rfl, hlt, fun i hi => by rw [Nat.add_assoc, hc (m + i) (by omega), List.getElem_drop]⟩
set_option maxRecDepth 100000 in
set_option maxHeartbeats 4000000 in
theorem cell_any (fuel : Nat) : ∀ (dep : Nat) (v : Value) (l : List ByteArray) (w : World), StrAt w v l → l.length ≤ 1000000 → (∀ x, x ∈ l → x.size = 32) → Deep fuel dep l → dep + fuel ≤ 1000 →
    Calls Tryz.prog 127 #[v, .int .i64 (dep : Int)] w fun e w' => CellOut fuel dep l w w' e := by
  induction fuel with
  | zero =>
    intro dep v l w h hn hs hd _
    rcases hd with h8 | h8
    · exact cell_few 0 dep v l w h h8 hs
    · omega
  | succ fuel ih =>
    intro dep v l w h hn hs hd hdf
    by_cases h8 : l.length ≤ 8
    · exact cell_few (fuel + 1) dep v l w h h8 hs
    have hd2 : 65 ≤ fuel + 1 + dep := by rcases hd with h | h <;> omega
    obtain ⟨F, hF⟩ : ∃ F, F = fun r => (cellS fuel (dep + 1) r).1 := ⟨_, rfl⟩
    have IH := Lib.hid (fun (l2 : List ByteArray) (d : Nat) (v2 : Value) (w2 : World) (h2 : StrAt w2 v2 (l2.take (chunk l2 dep d))) (hn2 : l2.length ≤ 1000000) (hs2 : ∀ x, x ∈ l2 → x.size = 32) =>
      show Calls Tryz.prog 127 #[v2, .int .i64 ((dep : Int) + 1)] w2 fun e w' => ∃ u, e = .returned (.tuple #[.string (F (l2.take (chunk l2 dep d))), u]) ∧ Below w2.heap.size w2 w' from by
        rw [show (dep : Int) + 1 = ((dep + 1 : Nat) : Int) by omega]
        refine (ih (dep + 1) v2 (l2.take (chunk l2 dep d)) w2 h2 (by rw [List.length_take]; omega) (fun x hx => hs2 x (List.mem_of_mem_take hx)) ?_ (by omega)).mono ?_
        · rcases Nat.lt_or_ge dep 64 with h3 | h3
          · exact Or.inr ⟨by omega, by omega⟩
          · rw [chunk_deep h3]
            exact Or.inl (by simp)
        · rintro e w' ⟨u, rfl, -, -, hb⟩
          rw [hF]
          exact ⟨u, rfl, hb⟩)
    obtain ⟨ks, hks⟩ : ∃ ks, ks = kidsG F dep 16 0 l := ⟨_, rfl⟩
    have hout : cellS (fuel + 1) dep l = (innerS ks, ks) := by
      rw [hks, hF]
      simp [cellS, h8]
    have hkz : ∀ x, x ∈ ks → x.size = 32 := by
      rw [hks, hF]
      exact kidsG_size (fun l => cellS_size _ _ _) _ _ _ _
    have hkl : ks.length = 16 := by rw [hks, kidsG_length]
    have HK := Lib.hid (And.intro hks (And.intro hkz hkl))
    have HO := Lib.hid (And.intro hout h8)
    have HS := Lib.hid hs
    have HL := Lib.hid h
    have hdw : IntKind.i64.wrap ((dep : Int) + 1) = ((dep + 1 : Nat) : Int) := IntWalk.i64_in _ (by omega)
    obtain ⟨ao, cap, rfl, hc1, hc2, hc3⟩ := h
    obtain ⟨b, off, rfl, -, -⟩ := hc3 (by omega)
    have k0 : decide ((l.length : Int) ≤ 8) = false := decide_eq_false (by omega)
    have k0' : ¬ ((l.length : Int) ≤ 8) := by omega
    have hdd : dep ≤ 1000 := by omega
    clear hs hd hout hks hF hkz hkl hc3 ih h8 hd2 hdf
    go_enter Tryz.func127, Tryz.ntmps127
    go_wp2_with fail
    go_loopw [0, 5, 15] (fun v0 u c wr => ∃ (d off2 cap2 : Nat) (R K : List ByteArray), c = .int .i64 (d : Int) ∧ v0 = .slice (some ⟨b, off2, none⟩) R.length cap2 ∧ d ≤ 16 ∧ Hid (StrAt w (.slice (some ⟨b, off2, none⟩) R.length cap2) R ∧ (∀ x, x ∈ R → x.size = 32) ∧ R.length ≤ 1000000 ∧ K.length = d ∧ ks = K ++ kidsG F dep (16 - d) d R ∧ SlIs wr w.heap.size 9 1 u d (scells K) ∧ Below w.heap.size w wr)) (fun _ _ c _ => ((16 : Int) - RowKit.intOf c).toNat)
    case atStart => exact ⟨0, off, cap, l, [], rfl, rfl, by omega, Lib.hid ⟨HL.out, HS.out, hn, rfl, HK.out.1, SlIs.nil_ _ _ _ _, Below.refl _ _⟩⟩
    case round =>
      obtain ⟨d, off2, cap2, R, K, rfl, rfl, hd16, HR⟩ := hrel
      obtain ⟨wo, rfl⟩ : ∃ wo, wo = wr := ⟨_, rfl⟩
      have hbs := HR.out.2.2.2.2.2.2.size
      rcases Nat.lt_or_ge d 16 with h3 | h3
      · have k1 : (d : Int) < 16 := by omega
        have kw : IntKind.i64.wrap ((d : Int) + 1) = ((d + 1 : Nat) : Int) := IntWalk.i64_in _ (by omega)
        obtain ⟨n, hnR⟩ : ∃ n, n = R.length := ⟨_, rfl⟩
        have hn6 : n ≤ 1000000 := by rw [hnR]; exact HR.out.2.2.1
        rw [← hnR]
        have HN := Lib.hid hnR
        clear hnR
        go_upto_block 2 with (fail)
        go_cut [7] from 18 to 33 (fun y7 wx => y7 = .int .i64 (chunk R dep d : Int) ∧ wx = wo)
        case first =>
          go_wp2_with fail
          go_loopw [7] (fun c wr => ∃ k : Nat, c = .int .i64 (k : Int) ∧ k ≤ n ∧ wr = wo ∧ Hid (∀ j, j < k → dgt R[j]! dep = (d : Int))) (fun c _ => ((n : Int) - RowKit.intOf c).toNat)
          case atStart => exact ⟨0, rfl, by omega, rfl, Lib.hid fun j hj => by omega⟩
          case round =>
            obtain ⟨k, rfl, hk, rfl, HD⟩ := hrel
            rcases Nat.lt_or_ge k n with h4 | h4
            · have k2 : (k : Int) < n := by omega
              have kw2 : IntKind.i64.wrap ((k : Int) + 1) = ((k + 1 : Nat) : Int) := IntWalk.i64_in _ (by omega)
              obtain ⟨b', off', hao, hlt, hc⟩ := strAt_at (n := R.length) HR.out.1 (by rw [← HN.out]; omega)
              injection hao with hao
              injection hao with e1 e2 e3
              subst e1 e2
              have c0 := hc k (by rw [← HN.out]; exact h4)
              rw [← HR.out.2.2.2.2.2.2.cell hlt] at c0
              obtain ⟨x, hx⟩ : ∃ x, x = R[k]! := ⟨_, rfl⟩
              rw [← hx] at c0
              obtain ⟨q, hq⟩ : ∃ q, q = dgt x dep := ⟨_, rfl⟩
              have D := Lib.hid (digit_any x dep hdd wr)
              rw [← hq] at D
              by_cases he : q = (d : Int)
              · subst he
                have HX := Lib.hid (And.intro hx hq)
                clear hc hx hq
                go_wp2_with fail
                refine D.out.mono ?_
                rintro e _ ⟨rfl, rfl⟩
                clear D
                go_wp2_with fail
                refine ⟨⟨k + 1, by simp, by omega, by simp, Lib.hid fun j hj => ?_⟩, ?_⟩
                · rcases Nat.lt_or_ge j k with h5 | h5
                  · exact HD.out j h5
                  · obtain rfl : j = k := by omega
                    rw [← HX.out.1, ← HX.out.2]
                · simp [RowKit.intOf]
                  omega
              · have k5 : decide (q = (d : Int)) = false := decide_eq_false he
                have k6 : (q == (d : Int)) = false := by simpa using he
                have HX := Lib.hid (And.intro hx (And.intro hq he))
                clear hc hx hq he
                go_wp2_with fail
                refine D.out.mono ?_
                rintro e _ ⟨rfl, rfl⟩
                clear D
                go_wp2_with fail
                go_meet
                case rel =>
                  refine ⟨?_, rfl⟩
                  rw [← chunk_is R dep d k (by rw [← HN.out]; omega) HD.out fun _ => by rw [← HX.out.1, ← HX.out.2.1]; exact HX.out.2.2]
            · have k2 : decide ((k : Int) < n) = false := decide_eq_false (by omega)
              have k3 : ¬ ((k : Int) < n) := by omega
              go_wp2_with fail
              go_meet
              case rel =>
                refine ⟨?_, rfl⟩
                rw [← chunk_is R dep d k (by rw [← HN.out]; omega) HD.out fun h => by have := HN.out; omega]
        case rest =>
          obtain ⟨rfl, rfl⟩ := hcut
          obtain ⟨m, hm⟩ : ∃ m, m = chunk R dep d := ⟨_, rfl⟩
          have hmn : m ≤ n := by rw [hm, HN.out]; exact chunk_le R dep d
          rw [← hm]
          have HM := Lib.hid hm
          have HR1 := HR.out.1
          rw [← HN.out] at HR1
          have hcap := HR1
          obtain ⟨_, _, hv, q1, q2, -⟩ := hcap
          injection hv with e1 e2 e3
          subst e3
          have m1 : (m : Int) ≤ n := by omega
          have m2 : (m : Int) ≤ cap2 := by have := HN.out; omega
          have m3 : (n : Int) ≤ cap2 := by have := HN.out; omega
          have C := Lib.hid (IH.out R d (.slice (some ⟨b, off2, none⟩) m cap2) wc (by rw [← hm]; exact (strAt_take HR1 hmn).later HR.out.2.2.2.2.2.2) HR.out.2.2.1 HR.out.2.1)
          rw [← hm] at C
          obtain ⟨y, hy⟩ : ∃ y, y = F (R.take m) := ⟨_, rfl⟩
          rw [← hy] at C
          have HY := Lib.hid hy
          have HD := Lib.hid (strAt_drop HR1 hmn)
          clear hm hy HR1 e1 e2
          go_wp2_with fail
          refine C.out.mono ?_
          rintro e w2 ⟨u2, rfl, hb2⟩
          have S2 := Lib.hid (show SlIs w2 w.heap.size 9 1 _ d (scells K) ∧ Below w.heap.size w w2 from ⟨HR.out.2.2.2.2.2.1.later hb2, HR.out.2.2.2.2.2.2.trans (hb2.mono hbs)⟩)
          have hb3 := S2.out.2.size
          obtain ⟨ao2, cap3, rfl, hnc2, hcm2, hao2⟩ := S2.out.1.form
          clear C hb2
          go_wp2_with (at_builtin
                       refine wpList_append_sl rfl _ _ _ 22 rfl Set.el_string (.slice ao2 d cap3) d (scells K) rfl (S2.out.1.alloc _) _ 1 [.string y] rfl (SrcIs.own Tryz.underlying22 (SlIs.made (base := 0) (BlkIs.new _ _ _) (Nat.zero_le _) rfl (by decide))) (by intro u hu; rcases List.mem_singleton.1 hu with rfl; rfl) (by unfold maxLen; omega) (by omega) (by simp only [World.size_alloc]; omega) ?_
                       intro v1 w5 hs1 hg1 hat1
                       have H5 := Lib.hid (And.intro hs1 ((S2.out.2.alloc hb3 (.cells #[.string y] 9)).grown hg1 (by simp only [World.size_alloc]; omega) fun j hj => (S2.out.1.lt j hj).1))
                       clear hs1 hg1 hat1 hao2)
          have hdl : (R.drop m).length = n - m := by rw [List.length_drop, HN.out]
          refine ⟨⟨d + 1, if cap2 = m then off2 else off2 + m, cap2 - m, R.drop m, K ++ [y], by simp, ?_, by omega, Lib.hid ⟨?_, fun x hx => HR.out.2.1 x (List.mem_of_mem_drop hx), by rw [hdl]; omega, by rw [List.length_append, HR.out.2.2.2.1]; rfl, ?_, ?_, H5.out.2⟩⟩, ?_⟩
          · rw [hdl]
            by_cases hq : cap2 = m
            · rw [if_pos hq, if_pos hq]
            · rw [if_neg hq, if_neg hq]
          · rw [hdl]
            by_cases hq : cap2 = m
            · rw [if_pos hq]
              have hnm : n = m := by have := HN.out; omega
              have hr0 : R.drop m = [] := List.eq_nil_of_length_eq_zero (by rw [hdl]; omega)
              rw [hr0, hnm, hq]
              exact ⟨some ⟨b, off2, none⟩, m - m, by simp, by simp, by simp, fun h => absurd h (by simp)⟩
            · rw [if_neg hq]
              exact HD.out
          · have := HR.out.2.2.2.2.1
            rw [show 16 - d = (16 - (d + 1)) + 1 by omega] at this
            rw [this]
            simp only [kidsG, List.append_assoc, List.singleton_append]
            rw [HY.out, HM.out]
          · have e : scells (K ++ [y]) = scells K ++ [.string y] := by simp [scells]
            rw [e]
            exact H5.out.1
          · simp [RowKit.intOf]
            omega
      · obtain rfl : d = 16 := by omega
        have hks : ks = K := by
          have := HR.out.2.2.2.2.1
          simpa [kidsG] using this
        have S2 := Lib.hid (show SlIs wo w.heap.size 9 1 _ ks.length (scells ks) from by rw [HK.out.2.2, hks]; exact HR.out.2.2.2.2.2.1)
        have I := Lib.hid (inner_any _ ks wo (StrAt.of_sl S2.out) (by rw [HK.out.2.2]; omega) HK.out.2.1)
        obtain ⟨ao2, cap3, rfl, hnc2, hcm2, hao2⟩ := S2.out.form
        clear hks hao2
        go_wp2_with fail
        refine I.out.mono ?_
        rintro e w2 ⟨rfl, hb⟩
        have HB := Lib.hid (HR.out.2.2.2.2.2.2.trans (hb.mono hbs))
        have S3 := Lib.hid (S2.out.later hb)
        clear I hb
        go_wp2_with fail
        go_ret2
        refine ⟨_, by rw [HO.out.1]; rfl, ?_, fun h => absurd h HO.out.2, HB.out⟩
        rw [HO.out.1]
        exact S3.out
end Go.Proofs.YtljenganlknhbaaGreat.Tr
