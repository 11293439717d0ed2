/- slices.Insert of one fact, walked. (Layer 11.) -/
import Derived.Test.YthcgdpdijdmelaaGreatRowN
import Derived.Test.YthcgdpdijdmelaaGreatOrd7
namespace Go.Proofs.YthcgdpdijdmelaaGreat.Ord
set_option linter.unusedVariables false
set_option linter.unusedSimpArgs false
open Go.RowKit Go.Lib
theorem fact_size : (Tryz.prog.info? 28).map (·.size) = some 3 := by kernel_rfl
theorem overlaps_fact (w : World) (a b : Addr) (la ca lb cb : Nat) (hne : a.block ≠ b.block) (tA tB : TypeId) (kA kB : Nat)
    (hsa : w.shape? a.block = some (tA, kA)) (hsb : w.shape? b.block = some (tB, kB)) (hkB : kB ≠ 0) (hfa : w.frozen? a = false) (hfe : w.frozen? { block := a.block, off := kA } = false) :
    (callFunc 48 #[.slice (some a) la ca, .slice (some b) lb cb]).run Tryz.prog w = .ok (.value (.bool false)) w := by
  rw [run_callFunc_extern Tryz.func48 (by kernel_rfl) (by kernel_rfl) (by kernel_rfl) (e := Extern.SlicesOverlaps.overlaps #[24, 24] #[4]) (by kernel_rfl),
    Lib.run_overlaps_apart w 24 4 28 Tryz.underlying24 3 Tryz.sizeOf28 a b la ca lb cb hne tA tB kA kB hsa hsb hkB hfa hfe]
  rfl
set_option maxHeartbeats 4000000 in
set_option maxRecDepth 100000 in
/-- There is room: in place. -/
theorem insF_shift (b off n c i vb : Nat) (cs vs : List Value) (w : World) (hi : i < n) (hroom : n + 1 ≤ c) (hc63 : c ≤ 9223372036854775807) (hvb : vb ≠ b)
    (hcl : cs.length = n * 3) (hvl : vs.length = 3)
    (hcs : ∀ j v, cs[j]? = some v → w.cell? ⟨b, off + j, none⟩ = some v) (hsp : ∀ j, j < (n + 1) * 3 → (w.cell? ⟨b, off + j, none⟩).isSome = true) (hfz : ∀ j, j < (n + 1) * 3 → w.frozen? ⟨b, off + j, none⟩ = false)
    (hvs : ∀ j v, vs[j]? = some v → w.cell? ⟨vb, 0 + j, none⟩ = some v) (h1c : ∀ v ∈ cs, v.oneCell' = true) (h1v : ∀ v ∈ vs, v.oneCell' = true)
    (tA tB : TypeId) (kA kB : Nat) (hsa : w.shape? vb = some (tA, kA)) (hsb : w.shape? b = some (tB, kB)) (hkB : kB ≠ 0) (hfa : w.frozen? ⟨vb, 0, none⟩ = false) (hfe : w.frozen? ⟨vb, kA, none⟩ = false) :
    Calls Tryz.prog 28 #[.slice (some ⟨b, off, none⟩) n c, .int .i64 (i : Int), .slice (some ⟨vb, 0, none⟩) 1 1] w fun e w' =>
      e = .returned (.slice (some ⟨b, off, none⟩) (n + 1) c) ∧ w' = (w.drew.setCells b (off + (i + 1) * 3) (cs.drop (i * 3))).setCells b (off + i * 3) vs := by
  have hz2 : ((i : Int) == (n : Int)) = false := by rw [beq_eq_false_iff_ne]; omega
  have hz3 : ¬ ((i : Int) = (n : Int)) := by omega
  have hov : ∀ o lb cb, (callFunc 48 #[.slice (some ⟨vb, 0, none⟩) 1 1, .slice (some ⟨b, o, none⟩) lb cb]).run Tryz.prog w = .ok (.value (.bool false)) w := fun o lb cb =>
    overlaps_fact w ⟨vb, 0, none⟩ ⟨b, o, none⟩ 1 1 lb cb hvb tA tB kA kB hsa hsb hkB hfa hfe
  have hdl : (cs.drop (i * 3)).length = (n - i) * 3 := by rw [List.length_drop, hcl]; omega
  have mixed : Tryz.prog.follows .mixedOrders = true := by kernel_rfl
  have hw1 : IntKind.i64.wrap ((i : Int) + 1) = (i : Int) + 1 := by rw [IntKind.wrap_i64]; omega
  have hb1 : (0 : Int) ≤ (i : Int) + 1 := by omega
  have hin : i ≤ n := by omega
  have k1 : (i : Int) ≤ n := by omega
  have k2 : (n : Int) ≤ c := by omega
  have k3 : (i : Int) ≤ c := by omega
  have k4 : decide ((c : Int) < (n : Int) + 1) = false := decide_eq_false (by omega)
  have k5 : (n : Int) + 1 ≤ c := by omega
  have k6 : (i : Int) + 1 ≤ (n : Int) + 1 := by omega
  have k7 : (i : Int) ≤ (n : Int) + 1 := by omega
  have htn : ((i : Int) + 1).toNat = i + 1 := by omega
  have hb2 : ¬ (c = i + 1) := by omega
  have hb4 : ¬ (c = i) := by omega
  have t1 : ((n : Int) + 1 - ((i : Int) + 1)).toNat = n - i := by omega
  have t2 : ((n : Int) + 1 - (i : Int)).toNat = n + 1 - i := by omega
  have hcp1 : ∀ ty o1 dl dc o2 sl sc, o1 = off + (i + 1) * 3 → o2 = off + i * 3 → dl = n - i → sl = n + 1 - i → (Builtin.copy_ #[24, 24] ty #[.slice (some ⟨b, o1, none⟩) dl dc, .slice (some ⟨b, o2, none⟩) sl sc]).run Tryz.prog w.drew = .ok (goInt (Nat.min sl dl)) (w.drew.setCells b o1 (cs.drop (i * 3))) := fun ty o1 dl dc o2 sl sc h1 h2 h3 h4 =>
    run_copyN 3 w.drew _ _ ty 28 b o1 dl dc ⟨b, o2, none⟩ sl sc (cs.drop (i * 3)) Tryz.underlying24 fact_size (by rw [hdl, h3, h4]; simp only [Nat.min_def]; split <;> omega)
      (fun j v hj => by rw [Addr.add_lit, h2, Nat.add_assoc]; exact hcs (i * 3 + j) v (by rwa [List.getElem?_drop] at hj))
      (fun j hj => by rw [h1, Nat.add_assoc]; exact hsp _ (by omega)) (fun j hj => by rw [h1, Nat.add_assoc]; exact hfz _ (by omega)) (fun v hv => h1c v (List.mem_of_mem_drop hv))
  obtain ⟨W1, hW1⟩ : ∃ W1, W1 = w.drew.setCells b (off + (i + 1) * 3) (cs.drop (i * 3)) := ⟨_, rfl⟩
  have hsp1 : ∀ k, k < (n + 1) * 3 → (W1.cell? ⟨b, off + k, none⟩).isSome = true := fun k hk => by
    rw [hW1]
    exact isSome_setCells b _ _ _ (fun j hj => by rw [Nat.add_assoc]; exact hsp _ (by omega)) _ (hsp k hk)
  have hcp2 : ∀ (W : World), (∀ x, W.cell? x = W1.cell? x) → (∀ x, W.frozen? x = W1.frozen? x) → ∀ ty o1 dl dc, o1 = off + i * 3 → dl = n + 1 - i → (Builtin.copy_ #[24, 24] ty #[.slice (some ⟨b, o1, none⟩) dl dc, .slice (some ⟨vb, 0, none⟩) 1 1]).run Tryz.prog W = .ok (goInt (Nat.min 1 dl)) (W.setCells b o1 vs) := fun W hWc hWf ty o1 dl dc h1 h2 =>
    run_copyN 3 W _ _ ty 28 b o1 dl dc ⟨vb, 0, none⟩ 1 1 vs Tryz.underlying24 fact_size (by rw [hvl, h2]; simp only [Nat.min_def]; split <;> omega)
      (fun j v hj => by
        rw [Addr.add_lit, hWc, hW1, World.cell?_setCells_out b _ _ _ _ (fun h _ => absurd h hvb)]
        exact hvs j v hj)
      (fun j hj => by rw [hWc, h1, Nat.add_assoc]; exact hsp1 _ (by omega)) (fun j hj => by rw [hWf, hW1, World.frozen?_setCells, h1, Nat.add_assoc]; exact hfz _ (by omega)) h1v
  have cp1 := fun ty dc sc => hcp1 ty (off + (i + 1) * 3) (n - i) dc (off + i * 3) (n + 1 - i) sc rfl rfl rfl rfl
  have cp2 := fun W hWc hWf ty dc => hcp2 W hWc hWf ty (off + i * 3) (n + 1 - i) dc rfl rfl
  rw [← hW1] at cp1
  have HW := Lib.hid hW1
  clear hcp1 hcp2 hW1 hsp1 hdl hcl hvl hcs hsp hfz hvs h1c h1v hsa hsb hfa hfe
  go_enter Tryz.func28, Tryz.ntmps28
  go_wp2_with (simp only [hov])
  go_region_law (refine step_copy_runI rfl _ _ 24 24 rfl _ _ (by simp [Act.eval, Act.put]) (by simp [Act.eval, Act.put]) (cp1 _ _ _) ?_)
  go_wp2_with (at_builtin; refine wpList_copy_runI _ rfl _ _ 24 24 rfl _ _ rfl rfl (cp2 _ (fun _ => rfl) (fun _ => rfl) _ _) ?_)
  go_ret
  exact ⟨rfl, by rw [HW.out]⟩
theorem info_fact : (Tryz.prog.info? 28).map (fun i => (i.zero, i.size, i.bytes)) = some (some (.agg #[.string ⟨#[]⟩, .int .i64 0, .slice none 0 0]), 3, 48) := by kernel_rfl
def zeroF : Array Value := #[.string ⟨#[]⟩, .int .i64 0, .slice none 0 0]
theorem zeroF_size (k : Nat) : (Builtin.zeroCells zeroF k).size = k * 3 := by simp [Builtin.zeroCells, zeroF]
set_option maxHeartbeats 4000000 in
set_option maxRecDepth 100000 in
/-- There is no room: a new row. -/
theorem insF_grow (b off n c i vb : Nat) (cs vs : List Value) (w : World) (hi : i < n) (hnc : n ≤ c) (hroom : c < n + 1) (hbig : (n + 1) * 48 ≤ 140737488355328)
    (hcl : cs.length = n * 3) (hvl : vs.length = 3) (hbw : b < w.heap.size) (hvw : vb < w.heap.size)
    (hcs : ∀ j v, cs[j]? = some v → w.cell? ⟨b, off + j, none⟩ = some v)
    (hvs : ∀ j v, vs[j]? = some v → w.cell? ⟨vb, 0 + j, none⟩ = some v) (h1c : ∀ v ∈ cs, v.oneCell' = true) (h1v : ∀ v ∈ vs, v.oneCell' = true) :
    Calls Tryz.prog 28 #[.slice (some ⟨b, off, none⟩) n c, .int .i64 (i : Int), .slice (some ⟨vb, 0, none⟩) 1 1] w fun e w' =>
      e = .returned (.slice (some ⟨w.heap.size, 0, none⟩) (n + 1) (grownCap w (n + 1) c 28)) ∧
      w' = (((w.alloc (.cells ((cs.take (i * 3)).toArray ++ Builtin.zeroCells zeroF (n + 1 - i) ++ Builtin.zeroCells zeroF (grownCap w (n + 1) c 28 - (n + 1))) 28)).drew.setCells w.heap.size (i * 3) vs).drew).setCells w.heap.size ((i + 1) * 3) (cs.drop (i * 3)) := by
  obtain ⟨i0, hi0, hz0, hzs, hzb⟩ := info_parts info_fact
  have mixed : Tryz.prog.follows .mixedOrders = true := by kernel_rfl
  have hz2 : ((i : Int) == (n : Int)) = false := by rw [beq_eq_false_iff_ne]; omega
  have k4 : decide ((c : Int) < (n : Int) + 1) = true := decide_eq_true (by omega)
  have hz3 : (c : Int) < (n : Int) + 1 := by omega
  have hkk : (n : Int) + 1 - (i : Int) = ((n + 1 - i : Nat) : Int) := by omega
  have hik : i + (n + 1 - i) = n + 1 := by omega
  have hold : (Builtin.firstCells i0.size i (.slice (some ⟨b, off, none⟩) i c)).run Tryz.prog w.drew = .ok (cs.take (i * 3)).toArray w.drew := by
    rw [hzs]
    exact run_firstCells_some w.drew 3 i ⟨b, off, none⟩ i c (cs.take (i * 3)) (by rw [List.length_take]; omega) (fun j v hj => by
      rw [Addr.add_lit]
      rw [List.getElem?_take] at hj
      split at hj
      · exact hcs j v hj
      · cases hj)
  have hrz : ∀ ty, (Builtin.append_ #[24, 3] ty #[.slice (some ⟨b, off, none⟩) i c, .int .i64 ((n : Int) + 1 - (i : Int))]).run Tryz.prog w =
      .ok (.slice (some ⟨w.heap.size, 0, none⟩) (n + 1) (grownCap w (n + 1) c 28)) (w.drew.alloc (.cells ((cs.take (i * 3)).toArray ++ Builtin.zeroCells zeroF (n + 1 - i) ++ Builtin.zeroCells zeroF (grownCap w (n + 1) c 28 - (n + 1))) 28)) := fun ty => by
    have h := Lib.run_append_grow_zeros w 24 3 ty 28 i0 _ .i64 .i64 Tryz.underlying24 Tryz.underlying3 hi0 hz0 (some ⟨b, off, none⟩) i c (cs.take (i * 3)) hold (n + 1 - i) (by omega) (by omega) (by omega) (by omega) (by rw [hzb]; omega) (by rw [hzb, hik]; exact growslice_fits hroom hbig)
    rw [hik] at h
    rw [hkk]
    exact h
  obtain ⟨G, hG⟩ : ∃ G, G = grownCap w (n + 1) c 28 := ⟨_, rfl⟩
  obtain ⟨ROW, hROW⟩ : ∃ ROW : Array Value, ROW = (cs.take (i * 3)).toArray ++ Builtin.zeroCells zeroF (n + 1 - i) ++ Builtin.zeroCells zeroF (G - (n + 1)) := ⟨_, rfl⟩
  rw [← hG] at hrz ⊢
  rw [← hROW] at hrz ⊢
  have hRl : (n + 1) * 3 ≤ ROW.size := by
    rw [hROW, Array.size_append, Array.size_append, zeroF_size, zeroF_size]
    simp
    omega
  obtain ⟨W1, hW1⟩ : ∃ W1, W1 = w.drew.alloc (.cells ROW 28) := ⟨_, rfl⟩
  rw [← hW1] at hrz
  have hN : ∀ j, j < (n + 1) * 3 → (W1.cell? ⟨w.heap.size, j, none⟩).isSome = true := fun j hj => by
    rw [hW1, World.cell?_alloc_at (w := w.drew) ROW _ w.heap.size j rfl, Array.getElem?_eq_getElem (by omega)]; rfl
  have hNf : ∀ j, W1.frozen? ⟨w.heap.size, j, none⟩ = false := fun j => by rw [hW1]; exact World.frozen?_alloc_at (w := w.drew) ROW _ w.heap.size j rfl
  have hOb : ∀ j v, w.cell? ⟨b, j, none⟩ = some v → W1.cell? ⟨b, j, none⟩ = some v := fun j v h => by rw [hW1, World.cell?_alloc_past (w := w.drew) _ b j hbw]; exact h
  have hOv : ∀ j v, w.cell? ⟨vb, j, none⟩ = some v → W1.cell? ⟨vb, j, none⟩ = some v := fun j v h => by rw [hW1, World.cell?_alloc_past (w := w.drew) _ vb j hvw]; exact h
  have hdl : (cs.drop (i * 3)).length = (n - i) * 3 := by rw [List.length_drop, hcl]; omega
  have hcpA : ∀ (W : World), (∀ x, W.cell? x = W1.cell? x) → (∀ x, W.frozen? x = W1.frozen? x) → ∀ ty dc, (Builtin.copy_ #[24, 24] ty #[.slice (some ⟨w.heap.size, i * 3, none⟩) (n + 1 - i) dc, .slice (some ⟨vb, 0, none⟩) 1 1]).run Tryz.prog W = .ok (goInt (Nat.min 1 (n + 1 - i))) (W.setCells w.heap.size (i * 3) vs) := fun W hWc hWf ty dc =>
    run_copyN 3 W _ _ ty 28 w.heap.size (i * 3) (n + 1 - i) dc ⟨vb, 0, none⟩ 1 1 vs Tryz.underlying24 fact_size (by rw [hvl]; simp only [Nat.min_def]; split <;> omega)
      (fun j v hj => by rw [Addr.add_lit, hWc]; exact hOv _ v (hvs j v hj))
      (fun j hj => by rw [hWc]; exact hN _ (by omega)) (fun j hj => by rw [hWf]; exact hNf _) h1v
  have hGn : n + 1 ≤ G := by rw [hG]; exact grownCap_ge w _ _ _
  have hG63 : G ≤ 9223372036854775807 := by
    have := grownCap_le_maxLen w (n + 1) c 28 (by unfold maxLen; omega)
    rw [← hG] at this
    unfold maxLen at this
    omega
  have hbN : b ≠ w.heap.size := by omega
  have hcpB : ∀ (W : World), (∀ x, W.cell? x = (W1.setCells w.heap.size (i * 3) vs).cell? x) → (∀ x, W.frozen? x = (W1.setCells w.heap.size (i * 3) vs).frozen? x) → ∀ ty dc sc, (Builtin.copy_ #[24, 24] ty #[.slice (some ⟨w.heap.size, (i + 1) * 3, none⟩) (n - i) dc, .slice (some ⟨b, off + i * 3, none⟩) (n - i) sc]).run Tryz.prog W = .ok (goInt (Nat.min (n - i) (n - i))) (W.setCells w.heap.size ((i + 1) * 3) (cs.drop (i * 3))) := fun W hWc hWf ty dc sc =>
    run_copyN 3 W _ _ ty 28 w.heap.size ((i + 1) * 3) (n - i) dc ⟨b, off + i * 3, none⟩ (n - i) sc (cs.drop (i * 3)) Tryz.underlying24 fact_size (by rw [hdl]; simp)
      (fun j v hj => by
        rw [Addr.add_lit, hWc, World.cell?_setCells_out _ _ _ _ _ (fun h _ => absurd h hbN), Nat.add_assoc]
        exact hOb _ v (hcs (i * 3 + j) v (by rwa [List.getElem?_drop] at hj)))
      (fun j hj => by rw [hWc]; exact isSome_setCells _ _ _ _ (fun t ht => hN _ (by omega)) _ (hN _ (by omega)))
      (fun j hj => by rw [hWf, World.frozen?_setCells]; exact hNf _) (fun v hv => h1c v (List.mem_of_mem_drop hv))
  subst hW1
  have hE1 : ∀ x, ((w.alloc (.cells ROW 28)).drew).cell? x = (w.drew.alloc (.cells ROW 28)).cell? x := fun x => rfl
  have hE2 : ∀ x, ((w.alloc (.cells ROW 28)).drew).frozen? x = (w.drew.alloc (.cells ROW 28)).frozen? x := fun x => rfl
  have hF1 : ∀ x, (((w.alloc (.cells ROW 28)).drew.setCells w.heap.size (i * 3) vs).drew).cell? x = ((w.drew.alloc (.cells ROW 28)).setCells w.heap.size (i * 3) vs).cell? x := fun x => rfl
  have hF2 : ∀ x, (((w.alloc (.cells ROW 28)).drew.setCells w.heap.size (i * 3) vs).drew).frozen? x = ((w.drew.alloc (.cells ROW 28)).setCells w.heap.size (i * 3) vs).frozen? x := fun x => rfl
  have hw1 : IntKind.i64.wrap ((i : Int) + 1) = (i : Int) + 1 := by rw [IntKind.wrap_i64]; omega
  have hb1 : (0 : Int) ≤ (i : Int) + 1 := by omega
  have k1 : (i : Int) ≤ (n : Int) := by omega
  have k2 : (n : Int) ≤ c := by omega
  have k3 : (i : Int) ≤ c := by omega
  have k6 : (i : Int) + 1 ≤ (n : Int) + 1 := by omega
  have k7 : (i : Int) ≤ (n : Int) + 1 := by omega
  have k8 : (n : Int) + 1 ≤ G := by omega
  have htn : ((i : Int) + 1).toNat = i + 1 := by omega
  have t1 : ((n : Int) + 1 - ((i : Int) + 1)).toNat = n - i := by omega
  have t2 : ((n : Int) + 1 - (i : Int)).toNat = n + 1 - i := by omega
  have hGi : ¬ (G = i) := by omega
  have hGim : ¬ (G = i + 1) := by omega
  have hci : ¬ (c = i) := by omega
  clear hkk hik hold hROW hG hRl hN hNf hOb hOv hdl hcs hvs h1c h1v hi0 hz0 hzs hzb hcl hvl
  go_enter Tryz.func28, Tryz.ntmps28
  go_wp2_with (first
    | (at_builtin; refine Lib.wpList_append_run _ rfl _ _ _ _ rfl _ _ rfl rfl _ _ (hrz _) ?_)
    | (at_builtin; refine wpList_copy_runI _ rfl _ _ 24 24 rfl _ _ rfl rfl (hcpA _ hE1 hE2 _ _) ?_))
  go_region_law (refine step_copy_runI rfl _ _ 24 24 rfl (.slice (some ⟨w.heap.size, (i + 1) * 3, none⟩) (n - i) (G - (i + 1))) (.slice (some ⟨b, off + i * 3, none⟩) (n - i) (c - i)) (by simp [Act.eval, Act.put]) (by simp [Act.eval, Act.put]) (hcpB _ hF1 hF2 3 (G - (i + 1)) (c - i)) ?_)
  go_wp2_with fail
  go_ret
  exact ⟨rfl, rfl⟩
/-- What Insert of one fact leaves. -/
def InsFact (base n : Nat) (v : Value) (ys : List Value) (w w' : World) (e : Ending) : Prop :=
  ∃ v', e = .returned v' ∧ SlIs w' base 28 3 v' (n + 1) ys ∧ w.grownBy w' v.ownBlock ∧ (v'.ownBlock = v.ownBlock ∨ v'.ownBlock = some w.heap.size)
set_option maxHeartbeats 4000000 in
set_option maxRecDepth 100000 in
theorem insFact_end (base n : Nat) (v : Value) (cs vs : List Value) (vb : Nat) (w : World) (h : SlIs w base 28 3 v n cs) (hn : n ≤ 1000000) (hb : base ≤ w.heap.size) (ha : BlkIs w vb 28 vs.toArray) (hvl : vs.length = 3) (h1v : ∀ v ∈ vs, v.oneCell' = true) :
    Calls Tryz.prog 28 #[v, .int .i64 (n : Int), .slice (some ⟨vb, 0, none⟩) 1 1] w fun e w' => InsFact base n v (cs ++ vs) w w' e := by
  have HA := Lib.hid (show SlIs w 0 28 3 (.slice (some ⟨vb, 0, none⟩) 1 1) 1 vs from by
    have := SlIs.made (base := 0) (n := 1) (size := 3) ha (Nat.zero_le _) (by simpa using hvl) (by decide)
    simpa using this)
  have H := Lib.hid h
  have HN := Lib.hid (And.intro hn hb)
  have HV := Lib.hid h1v
  have k0 : ((n : Int) == (n : Int)) = true := by simp
  obtain ⟨ao, cap, rfl, hnc, hcm, -⟩ := h.form
  have k1 : (n : Int) ≤ cap := by omega
  clear h hn hb ha h1v hnc hcm hvl
  go_enter Tryz.func28, Tryz.ntmps28
  go_wp2_with (at_builtin
               refine wpList_append_sl (base := base) rfl _ _ _ 24 rfl el_fact (.slice ao n cap) n cs rfl H.out _ 1 vs rfl (SrcIs.own Tryz.underlying24 HA.out) HV.out (by have := HN.out; unfold maxLen; omega) (by have := HN.out; omega) HN.out.2 ?_
               intro v' w' hs1 hg1 hat1
               have H1 := Lib.hid (And.intro hs1 (And.intro hg1 hat1))
               clear hs1 hg1 hat1)
  all_goals go_ret
  all_goals (refine ⟨v', rfl, H1.out.1, ?_, ?_⟩)
  all_goals (first | exact H1.out.2.1 | exact H1.out.2.2 | (have h2 := H1.out.2.1; cases ao <;> exact h2) | (have h2 := H1.out.2.2; cases ao <;> exact h2))
theorem insert_fact (base n i : Nat) (v : Value) (cs vs : List Value) (vb : Nat) (w : World) (h : SlIs w base 28 3 v n cs) (hi : i ≤ n) (hn : n ≤ 1000000) (hb : base ≤ w.heap.size)
    (ha : BlkIs w vb 28 vs.toArray) (hne : v.ownBlock ≠ some vb) (hvl : vs.length = 3) (h1c : ∀ v ∈ cs, v.oneCell' = true) (h1v : ∀ v ∈ vs, v.oneCell' = true) :
    Calls Tryz.prog 28 #[v, .int .i64 (i : Int), .slice (some ⟨vb, 0, none⟩) 1 1] w fun e w' => InsFact base n v (cs.take (i * 3) ++ (vs ++ cs.drop (i * 3))) w w' e := by
  have hcl : cs.length = n * 3 := h.1
  by_cases hin : i = n
  · subst hin
    have := insFact_end base i v cs vs vb w h hn hb ha hvl h1v
    have e : cs.take (i * 3) ++ (vs ++ cs.drop (i * 3)) = cs ++ vs := by
      rw [List.take_of_length_le (by omega), List.drop_eq_nil_of_le (by omega), List.append_nil]
    rw [e]
    exact this
  have hin' : i < n := by omega
  have hvs : ∀ (j : Nat) v, vs[j]? = some v → w.cell? ⟨vb, 0 + j, none⟩ = some v := fun j v hj => by
    rw [ha.cell, Nat.zero_add, List.getElem?_toArray]
    exact hj
  have hyl : (cs.take (i * 3) ++ (vs ++ cs.drop (i * 3))).length = (n + 1) * 3 := by
    rw [List.length_append, List.length_append, List.length_take, List.length_drop]
    omega
  rcases h.partsN with ⟨rfl, h0⟩ | ⟨g, off, cap, rfl, hg, hlt, hc, hmx, hx, hsome, hfz, tk, hsh, htk⟩
  · omega
  have hmx' : cap ≤ 9223372036854775807 := by unfold maxLen at hmx; exact hmx
  have hcc : ∀ (j : Nat) v, cs[j]? = some v → w.cell? ⟨g, off + j, none⟩ = some v := fun j v hj => by
    rw [hx j (by rw [← hcl]; exact (List.getElem?_eq_some_iff.1 hj).1)]; exact hj
  have hvg : vb ≠ g := fun e => hne (by rw [e]; rfl)
  have hd : (cs.drop (i * 3)).length = (n - i) * 3 := by rw [List.length_drop]; omega
  by_cases hroom : n + 1 ≤ cap
  · refine (insF_shift g off n cap i vb cs vs w hin' hroom hmx' hvg hcl hvl hcc (fun j hj => hsome j (by omega)) (fun j hj => hfz j (by omega)) hvs h1c h1v 28 28 3 tk (by have := ha.shape; simpa [hvl] using this) hsh (by omega) (ha.free 0) (ha.free 3)).mono ?_
    rintro e w' ⟨rfl, rfl⟩
    refine ⟨_, rfl, ?_, grown_then (grown_then (drewN_grown w 1 _) (setCells_grown _ _ _)) (setCells_grown _ _ _), Or.inl rfl⟩
    have s1 : SlIs (w.drew.setCells g (off + (i + 1) * 3) (cs.drop (i * 3))) base 28 3 (.slice (some ⟨g, off, none⟩) (n + 1) cap) (n + 1) (cs.take ((i + 1) * 3) ++ cs.drop (i * 3)) := by
      refine SlIs.putsN (w := w.drew) h ((i + 1) * 3) (n + 1) (cs.drop (i * 3)) _ hroom (by omega) (by rw [List.length_append, List.length_take, hd]; omega) (fun j hj hj2 => ?_) (fun j hj h1 h2 => ?_)
      · have hji : j < (i + 1) * 3 := by omega
        exact ⟨by omega, by rw [List.getElem?_append_left (by rw [List.length_take]; omega), List.getElem?_take, if_pos hji]⟩
      · rw [List.getElem?_append_right (by rw [List.length_take]; omega), List.length_take, Nat.min_eq_left (by omega)]
    refine SlIs.putsN s1 (i * 3) (n + 1) vs _ hroom (by omega) hyl (fun j hj hj2 => ?_) (fun j hj h1 h2 => ?_)
    · refine ⟨hj, ?_⟩
      rw [put_cells cs vs (i * 3) (by omega)]
      by_cases h1 : j < i * 3
      · rw [if_pos h1, List.getElem?_append_left (by rw [List.length_take]; omega), List.getElem?_take, if_pos (by omega)]
      · rw [if_neg h1, if_neg (by omega), List.getElem?_append_right (by rw [List.length_take]; omega), List.length_take, Nat.min_eq_left (by omega), List.getElem?_drop]
        congr 1
        omega
    · rw [put_cells cs vs (i * 3) (by omega), if_neg (by omega), if_pos (by omega)]
  · refine (insF_grow g off n cap i vb cs vs w hin' hc (by omega) (by omega) hcl hvl hlt ha.lt hcc hvs h1c h1v).mono ?_
    rintro e w' ⟨rfl, rfl⟩
    have hgc := grownCap_ge w (n + 1) cap 28
    have hGl := grownCap_le_maxLen w (n + 1) cap 28 (by unfold maxLen; omega)
    refine ⟨_, rfl, ?_, ?_, Or.inr rfl⟩
    · obtain ⟨G, hG⟩ : ∃ G, G = grownCap w (n + 1) cap 28 := ⟨_, rfl⟩
      rw [← hG] at hgc hGl ⊢
      obtain ⟨ROW, hROW⟩ : ∃ ROW : Array Value, ROW = (cs.take (i * 3)).toArray ++ Builtin.zeroCells zeroF (n + 1 - i) ++ Builtin.zeroCells zeroF (G - (n + 1)) := ⟨_, rfl⟩
      have hRz : ROW.size = G * 3 := by
        rw [hROW, Array.size_append, Array.size_append, zeroF_size, zeroF_size]
        simp
        omega
      have hRi : ∀ j, j < i * 3 → ROW[j]? = cs[j]? := fun j hj => by
        rw [hROW, Array.getElem?_append_left (by rw [Array.size_append]; simp; omega), Array.getElem?_append_left (by simp; omega), List.getElem?_toArray, List.getElem?_take, if_pos hj]
      rw [← hROW]
      obtain ⟨R, hR⟩ : ∃ R, R = ROW.toList.take ((n + 1) * 3) := ⟨_, rfl⟩
      have hRl : R.length = (n + 1) * 3 := by rw [hR, List.length_take, Array.length_toList]; omega
      have hRg : ∀ j, j < (n + 1) * 3 → R[j]? = ROW[j]? := fun j hj => by rw [hR, List.getElem?_take, if_pos hj, Array.getElem?_toList]
      have s0 : SlIs (w.alloc (.cells ROW 28)).drew base 28 3 (.slice (some ⟨w.heap.size, 0, none⟩) (n + 1) G) (n + 1) R :=
        ⟨hRl, .inr ⟨w.heap.size, 0, G, ROW, rfl, hb, (BlkIs.new w 28 ROW).toRow, hgc, hGl, by omega, fun j hj => by rw [Nat.zero_add]; exact (hRg j (by omega)).symm⟩⟩
      have s1 : SlIs ((w.alloc (.cells ROW 28)).drew.setCells w.heap.size (0 + i * 3) vs) base 28 3 (.slice (some ⟨w.heap.size, 0, none⟩) (n + 1) G) (n + 1) (cs.take (i * 3) ++ (vs ++ R.drop ((i + 1) * 3))) := by
        refine SlIs.putsN s0 (i * 3) (n + 1) vs _ hgc (by omega) (by rw [List.length_append, List.length_append, List.length_take, List.length_drop]; omega) (fun j hj hj2 => ?_) (fun j hj h1 h2 => ?_)
        · refine ⟨hj, ?_⟩
          by_cases h1 : j < i * 3
          · rw [List.getElem?_append_left (by rw [List.length_take]; omega), List.getElem?_take, if_pos h1, hRg j (by omega), hRi j h1]
          · rw [List.getElem?_append_right (by rw [List.length_take]; omega), List.length_take, Nat.min_eq_left (by omega), List.getElem?_append_right (by omega), List.getElem?_drop]
            congr 1
            omega
        · rw [List.getElem?_append_right (by rw [List.length_take]; omega), List.length_take, Nat.min_eq_left (by omega), List.getElem?_append_left (by omega)]
      have s2 : SlIs (((w.alloc (.cells ROW 28)).drew.setCells w.heap.size (0 + i * 3) vs).drew.setCells w.heap.size (0 + (i + 1) * 3) (cs.drop (i * 3))) base 28 3 (.slice (some ⟨w.heap.size, 0, none⟩) (n + 1) G) (n + 1) (cs.take (i * 3) ++ (vs ++ cs.drop (i * 3))) := by
        refine SlIs.putsN (w := ((w.alloc (.cells ROW 28)).drew.setCells w.heap.size (0 + i * 3) vs).drew) s1 ((i + 1) * 3) (n + 1) (cs.drop (i * 3)) _ hgc (by omega) hyl (fun j hj hj2 => ?_) (fun j hj h1 h2 => ?_)
        · refine ⟨hj, ?_⟩
          by_cases h1 : j < i * 3
          · rw [List.getElem?_append_left (by rw [List.length_take]; omega), List.getElem?_append_left (by rw [List.length_take]; omega)]
          · rw [put_cells cs vs (i * 3) (by omega), if_neg (by omega), if_pos (by omega), List.getElem?_append_right (by rw [List.length_take]; omega), List.length_take, Nat.min_eq_left (by omega), List.getElem?_append_left (by omega)]
        · rw [List.getElem?_append_right (by rw [List.length_take]; omega), List.length_take, Nat.min_eq_left (by omega), List.getElem?_append_right (by omega)]
          congr 1
          omega
      rw [Nat.zero_add, Nat.zero_add] at s2
      exact s2
    · exact grown_new (grown_then (grown_new (grown_then (World.grownBy_alloc w _ _) (drewN_grown _ 1 _)) (setCells_grown _ _ _) (Nat.le_refl _)) (drewN_grown _ 1 _)) (setCells_grown _ _ _) (Nat.le_refl _)
end Go.Proofs.YthcgdpdijdmelaaGreat.Ord
