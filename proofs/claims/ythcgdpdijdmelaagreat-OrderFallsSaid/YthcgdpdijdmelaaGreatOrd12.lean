/- order's Log, walked. Conditions: at most 1,000,000 facts of 1,000,000 parents, readable. (Layer 11.) -/
import Derived.Test.YthcgdpdijdmelaaGreatOrd11
namespace Go.Proofs.YthcgdpdijdmelaaGreat.Ord
set_option linter.unusedVariables false
open Go.RowKit Go.Sort Go.Lib
def scells (f : Nat → ByteArray) (n : Nat) : List Value := (List.range n).map fun i => .string (f i)
theorem scells_snoc (f : Nat → ByteArray) (n : Nat) : scells f n ++ [.string (f n)] = scells f (n + 1) := by
  simp [scells, List.range_succ]
theorem StrsAt.own {w : World} {base : Nat} {e : TypeId} {v : Value} {n : Nat} {f : Nat → ByteArray} (h : SlIs w base e 1 v n (scells f n)) : ∃ ao cap, v = .slice ao n cap ∧ StrsAt w ao n f := by
  obtain ⟨ao, cap, hv, h1, h2, h3⟩ := h.form
  refine ⟨ao, cap, hv, by unfold maxLen at h2; omega, fun hn => ?_⟩
  obtain ⟨g, off, cap', hv', hg, hlt, hc, hm, hcell, _⟩ := h.at_ hn
  rw [hv] at hv'
  injection hv' with e1 e2 e3
  refine ⟨g, off, e1, hlt, fun i hi => ?_⟩
  have hi' : i < (scells f n).length := by rw [h.1]; omega
  rw [hcell i hi']
  simp [scells, hi]
theorem el_str : ElemOk Tryz.prog 26 9 1 16 := ElemOk.mk' (z := .string ⟨#[]⟩) Tryz.underlying26 (by kernel_rfl) rfl
/-- What Log answers, and where it lies. -/
def LogOut (n : Nat) (f : Nat → Fv) (s : ByteArray) (w w' : World) (e : Ending) : Prop :=
  ∃ (c : Int) (L : List ByteArray) (ao : Option Addr) (cap : Nat), e = .returned (.tuple #[.slice ao L.length cap, .int .i64 c]) ∧ LogIs n f s c L ∧ StrsAt w' ao L.length (fun i => L[i]!) ∧ Below w.heap.size w w'
/-- The same, with the room of the answer. -/
def LogOutC (n : Nat) (f : Nat → Fv) (s : ByteArray) (w w' : World) (e : Ending) : Prop :=
  ∃ (c : Int) (L : List ByteArray) (ao : Option Addr) (cap : Nat), e = .returned (.tuple #[.slice ao L.length cap, .int .i64 c]) ∧ (L.length ≤ cap ∧ cap ≤ maxLen) ∧ LogIs n f s c L ∧ StrsAt w' ao L.length (fun i => L[i]!) ∧ Below w.heap.size w w'
theorem LogOutC.out {n : Nat} {f : Nat → Fv} {s : ByteArray} {w w' : World} {e : Ending} (h : LogOutC n f s w w' e) : LogOut n f s w w' e := by
  obtain ⟨c, L, ao, cap, h1, -, h2, h3, h4⟩ := h
  exact ⟨c, L, ao, cap, h1, h2, h3, h4⟩
theorem log_refusedC {n : Nat} {f : Nat → Fv} {s : ByteArray} {w w' : World} {c : Int} (h : LogIs n f s c []) (hb : Below w.heap.size w w') : LogOutC n f s w w' (.returned (.tuple #[.slice none 0 0, .int .i64 c])) :=
  ⟨c, [], none, 0, rfl, ⟨by simp, by decide⟩, h, StrsAt.none_ _ _, hb⟩
theorem log_okC {n : Nat} {f : Nat → Fv} {s : ByteArray} {w w' : World} {L : List Fv} {v : Value} {base : Nat} {e : TypeId} (hd : Dist n f) (hs : Here n f s) (hc : ∀ x, Met n f s x → Here n f x)
    (hm : ∀ x, x ∈ L ↔ ∃ i, i < n ∧ Met n f s (f i).id ∧ f i = x) (hp : L.Pairwise fun x y => lowF y x) (hr : ∀ j, j < L.length → RightF n f L[j]!) (hv : SlIs w' base e 1 v L.length (scells (fun i => L[i]!.id) L.length)) (hb : Below w.heap.size w w') :
    LogOutC n f s w w' (.returned (.tuple #[v, .int .i64 0])) := by
  obtain ⟨ao, cap, rfl, hS⟩ := StrsAt.own hv
  obtain ⟨ao', cap', hv', hc1, hc2, -⟩ := hv.form
  injection hv' with q1 q2 q3
  refine ⟨0, L.map (·.id), ao, cap, by simp, ⟨by simp; omega, by omega⟩, LogIs.ok L hd hs hc (fun i hi hmet => ?_) hm hp, ?_, hb⟩
  · obtain ⟨j, hj, hje⟩ := List.getElem_of_mem ((hm _).2 ⟨i, hi, hmet, rfl⟩)
    have := hr j hj
    rwa [getElem!_pos L j hj, hje] at this
  · rw [List.length_map]
    refine ⟨hS.1, fun hn => ?_⟩
    obtain ⟨b, off, ha, hlt, hcell⟩ := hS.2 hn
    refine ⟨b, off, ha, hlt, fun i hi => ?_⟩
    rw [hcell i hi]
    show some (Value.string L[i]!.id) = some (Value.string (L.map (·.id))[i]!)
    rw [getElem!_pos L i hi, getElem!_pos (L.map (·.id)) i (by simpa using hi)]
    simp
theorem log_order {n : Nat} {f : Nat → Fv} {s : ByteArray} {L : List Fv} (hd : Dist n f) (hs : Here n f s) (hc : ∀ x, Met n f s x → Here n f x)
    (hm : ∀ x, x ∈ L ↔ ∃ i, i < n ∧ Met n f s (f i).id ∧ f i = x) {x : Fv} (hx : x ∈ L) (hr : ¬ RightF n f x) : LogIs n f s 41 [] := by
  obtain ⟨i, hi, hmet, rfl⟩ := (hm x).1 hx
  exact LogIs.order hd hs hc ⟨i, hi, hmet, hr⟩
theorem log_fact {w : World} {n : Nat} {f : Nat → Fv} {s : ByteArray} {L : List Fv} (hc : ∀ x, Met n f s x → Here n f x) (hm : ∀ x, x ∈ L ↔ ∃ i, i < n ∧ Met n f s (f i).id ∧ f i = x)
    (hnp : ∀ i, i < n → (f i).np ≤ 1000000) {x : Fv} (hx : x ∈ L) : (∀ k, k < x.np → Here n f (x.p k)) ∧ x.np ≤ 1000000 := by
  obtain ⟨i, hi, hmet, rfl⟩ := (hm x).1 hx
  exact ⟨fun k hk => hc _ (Met.step hi hmet hk), hnp i hi⟩
set_option maxRecDepth 100000 in
theorem log_twice (ao : Option Addr) (n cap : Nat) (f : Nat → Fv) (s : ByteArray) (w : World) (h : FactsAt w ao n f) (hd : ¬ Dist n f) :
    Calls Tryz.prog 6 #[.slice ao n cap, .string s] w fun e w' => LogOutC n f s w w' e := by
  have R := Lib.hid (read_any ao n cap f w h none 31 (fun h => absurd h hd) (fun _ => ⟨rfl, rfl⟩))
  have HD := Lib.hid hd
  clear h hd
  go_enter Tryz.func6, Tryz.ntmps6
  go_wp2_with fail
  refine R.out.mono ?_
  rintro e w1 ⟨rfl, _, hb1⟩
  have H1 := Lib.hid hb1
  clear hb1 R
  go_wp2_with fail
  go_ret2
  exact log_refusedC (.twice HD.out) H1.out
set_option maxRecDepth 100000 in
set_option maxHeartbeats 1000000 in
theorem log_dist (ao : Option Addr) (n cap : Nat) (f : Nat → Fv) (s : ByteArray) (w : World) (h : FactsAt w ao n f) (hn : n ≤ 1000000) (hnp : ∀ i, i < n → (f i).np ≤ 1000000) (hd : Dist n f) :
    Calls Tryz.prog 6 #[.slice ao n cap, .string s] w fun e w' => LogOutC n f s w w' e := by
  have R := Lib.hid (read_any ao n cap f w h (some w.heap.size) 0 (fun _ => ⟨rfl, rfl⟩) (fun h => absurd hd h))
  have M := Lib.hid (fun W (hb : SMap W w.heap.size (bookL n f)) (hst : ∀ i, i < n → StrsAt W (f i).pa (f i).np (f i).p) => met_any n f s w.heap.size W hn hd hst hb)
  have HD := Lib.hid (And.intro hd (And.intro hnp h))
  clear h hd hnp
  go_enter Tryz.func6, Tryz.ntmps6
  go_wp2_with fail
  refine R.out.mono ?_
  rintro e w1 ⟨rfl, hm1, hb1⟩
  have H1 := Lib.hid (And.intro (hm1 HD.out.1) (And.intro (HD.out.2.2.later hb1) hb1))
  clear hb1 R hm1
  go_wp2_with fail
  refine (M.out w1 H1.out.1 H1.out.2.1.2.2).mono ?_
  rintro e w2 hM
  rcases hM with ⟨h1, rfl, hb2⟩ | ⟨h1, h2, rfl, hb2⟩ | ⟨h1, h2, L, ao1, cap1, rfl, hF, hmem, hpw, hlen, hb2⟩
  · have H2 := Lib.hid (And.intro h1 (H1.out.2.2.trans (hb2.mono H1.out.2.2.size)))
    clear h1 hb2 M
    go_wp2_with fail
    go_ret2
    exact log_refusedC (.none_ HD.out.1 H2.out.1) H2.out.2
  · have H2 := Lib.hid (And.intro h1 (And.intro h2 (H1.out.2.2.trans (hb2.mono H1.out.2.2.size))))
    clear h1 h2 hb2 M
    go_wp2_with fail
    go_ret2
    exact log_refusedC (.open_ HD.out.1 H2.out.1 H2.out.2.1) H2.out.2.2
  · have H2 := Lib.hid (And.intro h1 (And.intro h2 (And.intro hmem (And.intro hpw (And.intro (H1.out.1.below hb2 H1.out.1.lt) (H1.out.2.2.trans (hb2.mono H1.out.2.2.size)))))))
    have HF := Lib.hid hF
    have hgw : w.heap.size < w2.heap.size := Nat.lt_of_lt_of_le H1.out.1.lt hb2.size
    have hm1 := hF.1
    clear h1 h2 hmem hpw hb2 hF M
    go_wp2_with fail
    go_loopw [9, 31] (fun v c wr => ∃ k : Nat, c = .int .i64 (k : Int) ∧ k ≤ L.length ∧ Hid (SlIs wr w2.heap.size 9 1 v k (scells (fun i => L[i]!.id) k) ∧ (∀ j, j < k → RightF n f L[j]!) ∧ Below w2.heap.size w2 wr)) (fun _ c _ => ((L.length : Int) - intOf c).toNat)
    case atStart => exact ⟨0, rfl, by omega, Lib.hid ⟨SlIs.nil_ _ _ _ _, fun j hj => by omega, Below.refl _ _⟩⟩
    case round =>
      obtain ⟨k, rfl, hk, HR⟩ := hrel
      have hbw := HR.out.2.2.size
      rcases Nat.lt_or_ge k L.length with hk1 | hk1
      · obtain ⟨b, off, rfl, hlt, hcell⟩ := HF.out.2.1 (by omega)
        obtain ⟨c0, c1, c2⟩ := hcell k hk1
        rw [← HR.out.2.2.cell hlt] at c0 c1 c2
        have ki : (k : Int) < L.length := by omega
        have hstx := HF.out.2.2 k hk1
        have hmx : L[k]! ∈ L := by rw [getElem!_pos L k hk1]; exact List.getElem_mem hk1
        have hid : (fun i => L[i]!.id) k = L[k]!.id := rfl
        obtain ⟨x, hx⟩ : ∃ x, x = L[k]! := ⟨_, rfl⟩
        rw [← hx] at hmx hid
        simp only [← hx] at c0 c1 c2 hstx
        obtain ⟨hpx, hnx⟩ := log_fact (w := w) H2.out.2.1 H2.out.2.2.1 HD.out.2.1 hmx
        have HX := Lib.hid (And.intro hx (And.intro hmx hid))
        have hbx := HR.out.2.2.alloc (Nat.le_trans (Nat.le_refl _) hbw) (.cells #[.string x.id, .int .i64 x.h, .slice x.pa x.np x.pc] 28)
        have C := Lib.hid (isRight_any n f w.heap.size x (wr.alloc (.cells #[.string x.id, .int .i64 x.h, .slice x.pa x.np x.pc] 28)) HD.out.1 (H2.out.2.2.2.2.1.below hbx hgw) (hstx.later hbx) hpx hnx)
        have HBX := Lib.hid (And.intro hbx (BlkIs.new wr 28 #[.string x.id, .int .i64 x.h, .slice x.pa x.np x.pc]))
        clear hcell hstx hmx hpx hnx hx hid hbx
        by_cases hrx : x.h = rightH n f x
        · rw [decide_eq_true hrx] at C
          have HRX := Lib.hid hrx
          clear hrx
          go_wp2_with fail
          refine C.out.mono ?_
          rintro e w4 ⟨rfl, hb4⟩
          have hk4 := HBX.out.2.below hb4 HBX.out.2.lt
          have d0 : w4.cell? ⟨wr.heap.size, 0, none⟩ = some (.string x.id) := hk4.cell 0
          have hs4 := (HR.out.1.alloc (.cells #[.string x.id, .int .i64 x.h, .slice x.pa x.np x.pc] 28)).later hb4
          have hb5 := HBX.out.1.trans (hb4.mono HBX.out.1.size)
          have H4 := Lib.hid (And.intro hs4 hb5)
          have hbw4 := hb5.size
          obtain ⟨ao2, cap2, rfl, hnc2, hcm2, hao2⟩ := hs4.form
          clear hk4 hs4 hb5 hb4 C HBX
          go_wp2_with (at_builtin
                       refine wpList_append_sl rfl _ _ _ 26 rfl el_str (.slice ao2 k cap2) k (scells (fun i => L[i]!.id) k) rfl (H4.out.1.alloc _) _ 1 [.string x.id] rfl (SrcIs.own Tryz.underlying26 (SlIs.made (base := 0) (BlkIs.new _ _ _) (Nat.zero_le _) rfl (by decide))) (by intro u hu; rcases List.mem_singleton.1 hu with rfl; rfl) (by unfold maxLen; omega) (by omega) (by simp only [World.size_alloc]; omega) ?_
                       intro v1 w5 hs1 hg1 hat1
                       have hb5 := (H4.out.2.alloc hbw4 (.cells #[.string x.id] 9)).grown hg1 (by simp only [World.size_alloc]; omega) fun j hj => (H4.out.1.lt j hj).1
                       rw [← HX.out.2.2, scells_snoc] at hs1
                       have H5 := Lib.hid (And.intro hs1 hb5)
                       clear hs1 hb5 hg1 hat1 hao2)
          refine ⟨⟨k + 1, rfl, hk1, Lib.hid ⟨H5.out.1, fun j hj => ?_, H5.out.2⟩⟩, ?_⟩
          · rcases Nat.lt_or_ge j k with h1 | h1
            · exact HR.out.2.1 j h1
            · obtain rfl : j = k := by omega
              rw [← HX.out.1]; exact HRX.out
          · simp [intOf]
            omega
        · rw [decide_eq_false hrx] at C
          have HRX := Lib.hid hrx
          clear hrx
          go_wp2_with fail
          refine C.out.mono ?_
          rintro e w4 ⟨rfl, hb4⟩
          have hb5 := HBX.out.1.trans (hb4.mono HBX.out.1.size)
          have H4 := Lib.hid (H2.out.2.2.2.2.2.trans (hb5.mono H2.out.2.2.2.2.2.size))
          clear hb4 hb5 C
          go_wp2_with fail
          go_ret2
          exact log_refusedC (log_order HD.out.1 H2.out.1 H2.out.2.1 H2.out.2.2.1 HX.out.2.1 HRX.out) H4.out
      · have ki : (L.length : Int) ≤ (k : Int) := by omega
        obtain rfl : k = L.length := by omega
        go_wp2_with fail
        go_ret2
        exact log_okC HD.out.1 H2.out.1 H2.out.2.1 H2.out.2.2.1 H2.out.2.2.2.1 HR.out.2.1 HR.out.1 (H2.out.2.2.2.2.2.trans (HR.out.2.2.mono H2.out.2.2.2.2.2.size))
/-- order.Log, of all facts. -/
theorem log_capped (ao : Option Addr) (n cap : Nat) (f : Nat → Fv) (s : ByteArray) (w : World) (h : FactsAt w ao n f) (hn : n ≤ 1000000) (hnp : ∀ i, i < n → (f i).np ≤ 1000000) :
    Calls Tryz.prog 6 #[.slice ao n cap, .string s] w fun e w' => LogOutC n f s w w' e := by
  by_cases hd : Dist n f
  · exact log_dist ao n cap f s w h hn hnp hd
  · exact log_twice ao n cap f s w h hd
theorem log_any (ao : Option Addr) (n cap : Nat) (f : Nat → Fv) (s : ByteArray) (w : World) (h : FactsAt w ao n f) (hn : n ≤ 1000000) (hnp : ∀ i, i < n → (f i).np ≤ 1000000) :
    Calls Tryz.prog 6 #[.slice ao n cap, .string s] w fun e w' => LogOut n f s w w' e :=
  (log_capped ao n cap f s w h hn hnp).mono fun _ _ h => h.out
theorem log_refused {n : Nat} {f : Nat → Fv} {s : ByteArray} {w w' : World} {c : Int} (h : LogIs n f s c []) (hb : Below w.heap.size w w') : LogOut n f s w w' (.returned (.tuple #[.slice none 0 0, .int .i64 c])) :=
  (log_refusedC h hb).out
theorem log_ok {n : Nat} {f : Nat → Fv} {s : ByteArray} {w w' : World} {L : List Fv} {v : Value} {base : Nat} {e : TypeId} (hd : Dist n f) (hs : Here n f s) (hc : ∀ x, Met n f s x → Here n f x)
    (hm : ∀ x, x ∈ L ↔ ∃ i, i < n ∧ Met n f s (f i).id ∧ f i = x) (hp : L.Pairwise fun x y => lowF y x) (hr : ∀ j, j < L.length → RightF n f L[j]!) (hv : SlIs w' base e 1 v L.length (scells (fun i => L[i]!.id) L.length)) (hb : Below w.heap.size w w') :
    LogOut n f s w w' (.returned (.tuple #[v, .int .i64 0])) :=
  (log_okC hd hs hc hm hp hr hv hb).out
end Go.Proofs.YthcgdpdijdmelaaGreat.Ord
