/- shelf.part[int], walked: what of a set is in another one, or isn't; Meet, Minus, Within, Union. (Layer 08.) -/
import Derived.Test.YtckhekkdidfefaaSetI5
namespace Go.Proofs.Ytckhekkdidfefaa.Set
set_option linter.unusedVariables false
open Go.RowKit Go.Sort Go.Lib Go.Shelf
attribute [local go_sem] Oper.semAt_some
theorem ins_last {α : Type} [El α] {l : List α} {x : α} (h : Rise (l ++ [x])) : ins x l = l ++ [x] := by
  have hl : Rise l := (List.pairwise_append.1 h).1
  refine rise_ext (ins_rise hl) h fun y => ?_
  rw [mem_ins, List.mem_append, List.mem_singleton]
  exact ⟨fun h => h.symm, fun h => h.symm⟩
noncomputable def partOf {α : Type} (lb : List α) (inn : Bool) (x : α) : Bool := has lb x == inn
theorem part_step {α : Type} [El α] {la lb pre : List α} {x : α} {inn : Bool} (hr : Rise la) (hp : pre ++ [x] <+: la) :
    (partOf lb inn x = true → ins x (pre.filter (partOf lb inn)) = (pre ++ [x]).filter (partOf lb inn) ∧ ¬ x ∈ pre.filter (partOf lb inn)) ∧ (partOf lb inn x = false → pre.filter (partOf lb inn) = (pre ++ [x]).filter (partOf lb inn)) := by
  have hr' : Rise (pre ++ [x]) := hr.sublist hp.sublist
  refine ⟨fun h => ?_, fun h => ?_⟩
  · have e : (pre ++ [x]).filter (partOf lb inn) = pre.filter (partOf lb inn) ++ [x] := by rw [List.filter_append]; simp [h]
    have h2 := rise_filter hr' (partOf lb inn)
    rw [e] at h2 ⊢
    refine ⟨ins_last h2, fun hx => ?_⟩
    exact El.irr x ((List.pairwise_append.1 h2).2.2 x hx x (by simp))
  · rw [List.filter_append]; simp [h]
/-- The set that is being made: its blocks lie below N, or from B on. -/
def IntOut (base g N B : Nat) (l : List Int) (W : World) : Prop := ∃ kv vv, IntSet W base g kv vv l ∧ ∀ k, Own_ g kv vv k → k < N ∨ B ≤ k
theorem IntSet.own_cells {w : World} {base g : Nat} {kv vv : Value} {l : List Int} (h : IntSet w base g kv vv l) {k : Nat} (hk : Own_ g kv vv k) {o : Obj} (ho : w.heap[k]? = some o) : o.isCells = true := by
  have row : ∀ {e : TypeId} {size n : Nat} {v : Value} {xs : List Value}, SlIs w base e size v n xs → v.ownBlock = some k → o.isCells = true := by
    intro e size n v xs hs hv
    rcases hs.2 with ⟨rfl, _⟩ | ⟨g', off, cap, cur, rfl, _, ⟨fr, hh, _⟩, _⟩
    · cases hv
    · have e1 : g' = k := by simpa [Value.ownBlock] using hv
      subst e1
      rw [hh] at ho
      injection ho with ho
      subst ho
      rfl
  rcases hk with rfl | hk | hk
  · have hb := h.blk
    unfold BlkIs at hb
    rw [hb] at ho
    injection ho with ho
    subst ho
    rfl
  · exact row h.keys hk
  · exact row h.vals hk
theorem ownFrom_iOut {β : Type} (base g N B B0 : Nat) (f : β → List Int) : OwnFrom B0 (fun s W => IntOut base g N B (f s) W) := by
  rintro s W W' row ⟨kv, vv, hs, hf⟩ hg hr
  refine ⟨kv, vv, hs.chg (.of_grown (S := fun k => row = some k) hg fun k e => e) (fun k hk e => ?_), hf⟩
  obtain ⟨_, o, ho, hc⟩ := hr k e
  rw [hs.own_cells hk ho] at hc
  cases hc
set_option maxRecDepth 100000 in
set_option maxHeartbeats 4000000 in
theorem part_int (ba ga bb gb : Nat) (kva vva kvb vvb : Value) (la lb : List Int) (inn : Bool) (w : World) (ha : IntSet w ba ga kva vva la) (hb : IntSet w bb gb kvb vvb lb) (hna : la.length < 1000000) (hnb : lb.length ≤ 1000000) :
    Calls Try.prog 46 #[.pointer (some ⟨ga, 0, none⟩), .pointer (some ⟨gb, 0, none⟩), .bool inn] w fun e w' => ∃ g kv vv, e = .returned (.pointer (some ⟨g, 0, none⟩)) ∧ IntSet w' w.heap.size g kv vv (la.filter (partOf lb inn)) ∧ Below w.heap.size w w' := by
  have nod : ∀ m, Fence.wide.depth.isSome = true → 1 ≤ m := fun m h => absurd h (by decide)
  have hmx : Try.prog.follows .mixedOrders = true := by kernel_rfl
  have H0 := Lib.hid (show ∃ W, W = (w.alloc (.cells #[.pointer (some ⟨gb, 0, none⟩)] 24)).alloc (.cells #[.bool inn] 4) ∧ BlkIs W w.heap.size 24 #[.pointer (some ⟨gb, 0, none⟩)] ∧ BlkIs W (w.heap.size + 1) 4 #[.bool inn] ∧ Below w.heap.size w W from
    ⟨_, rfl, (BlkIs.new _ _ _).alloc _, BlkIs.new2 _ _ _ _, ((Below.refl _ _).alloc (Nat.le_refl _) _).alloc (by simp) _⟩)
  have HA := Lib.hid (And.intro ha hb)
  have HR := Lib.hid ha.rise
  clear ha hb
  refine (callsIn_wide (n := 9)).1 ?_
  refine callsIn_of_wp_marks Try.func46 rfl trivial ?_ rfl
  simp only [Try.ntmps46, List.size_toArray, List.length_cons, List.length_nil, Nat.reduceAdd, Nat.reduceSub, Array.replicate_succ, Array.replicate_zero, List.push_toArray, List.append_toArray, List.nil_append, List.cons_append]
  gi_wp2
  obtain ⟨W1, hW1, H1⟩ := H0.out
  have hz1 : W1.heap.size = w.heap.size + 2 := by rw [hW1]; simp
  rw [← hW1]
  have H1 := Lib.hid H1
  clear hW1 H0
  refine ⟨trivial, (callsIn_wide.2 (of_int (.slice none 0 0) [] W1 ⟨none, 0, rfl, Nat.le_refl _, by decide, fun h => absurd h (Nat.lt_irrefl _)⟩ (by decide))).mono ?_⟩
  rintro e W2 ⟨go, kvo, vvo, lo, rfl, hlo, hso, hb2⟩
  obtain rfl : lo = [] := List.eq_nil_iff_forall_not_mem.2 fun x hx => by simpa using (hlo.2 x).1 hx
  have hown0 : ∀ k, Own_ go kvo vvo k → k < W2.heap.size := fun k hk => (hso.own hk).2
  rw [hz1] at hso
  have H2 := Lib.hid (show IntSet W2 (w.heap.size + 2) go kvo vvo [] ∧ BlkIs W2 w.heap.size 24 #[.pointer (some ⟨gb, 0, none⟩)] ∧ BlkIs W2 (w.heap.size + 1) 4 #[.bool inn] ∧ Below w.heap.size w W2 from
    ⟨hso, H1.out.1.below hb2 H1.out.1.lt, H1.out.2.1.below hb2 H1.out.2.1.lt, H1.out.2.2.trans (hb2.mono H1.out.2.2.size)⟩)
  have HW := Lib.hid hown0
  clear hso hb2 hlo hown0 hz1
  gi_wp2
  obtain ⟨W3, hW3⟩ : ∃ W3, W3 = W2.alloc (.cells #[.pointer (some ⟨go, 0, none⟩)] 24) := ⟨_, rfl⟩
  have hb3 : Below W2.heap.size W2 W3 := by rw [hW3]; exact (Below.refl _ _).alloc (Nat.le_refl _) _
  have H3 := Lib.hid (show IntSet W3 (w.heap.size + 2) go kvo vvo [] ∧ BlkIs W3 w.heap.size 24 #[.pointer (some ⟨gb, 0, none⟩)] ∧ BlkIs W3 (w.heap.size + 1) 4 #[.bool inn] ∧ BlkIs W3 W2.heap.size 24 #[.pointer (some ⟨go, 0, none⟩)] ∧ Below w.heap.size w W3 from
    ⟨H2.out.1.later hb3, H2.out.2.1.below hb3 H2.out.2.1.lt, H2.out.2.2.1.below hb3 H2.out.2.2.1.lt, by rw [hW3]; exact BlkIs.new _ _ _, H2.out.2.2.2.trans (hb3.mono H2.out.2.2.2.size)⟩)
  rw [← hW3]
  clear hW3 hb3
  refine ⟨trivial, (callsIn_wide.2 (setAll_int (.pointer (some ⟨ga, 0, none⟩)) W3 ⟨_, rfl⟩)).mono ?_⟩
  rintro e W4 ⟨rfl, hc4, hl4, hb4⟩
  have H4 := Lib.hid (show IntSet W4 (w.heap.size + 2) go kvo vvo [] ∧ BlkIs W4 w.heap.size 24 #[.pointer (some ⟨gb, 0, none⟩)] ∧ BlkIs W4 (w.heap.size + 1) 4 #[.bool inn] ∧ BlkIs W4 W2.heap.size 24 #[.pointer (some ⟨go, 0, none⟩)] ∧ Below w.heap.size w W4 from
    ⟨H3.out.1.later hb4, H3.out.2.1.below hb4 H3.out.2.1.lt, H3.out.2.2.1.below hb4 H3.out.2.2.1.lt, H3.out.2.2.2.1.below hb4 H3.out.2.2.2.1.lt, H3.out.2.2.2.2.trans (hb4.mono H3.out.2.2.2.2.size)⟩)
  have hsa : IntSet W4 ba ga kva vva la := HA.out.1.later H4.out.2.2.2.2
  have IT := setAll1_int ba ga W3.heap.size kva vva la W4 hsa (by omega) hc4 hl4
  have hzw := H4.out.2.2.2.2.size
  have hz2 := H4.out.2.2.2.1.lt
  clear hb4 hsa hc4 hl4
  gi_wp2
  -- the loop
  refine wp_iter rfl (enters_of Try.func54 (by kernel_rfl) rfl) IT (Below.refl _ _) (fun _ => rfl)
    (fun B' pre W' => (IntOut (w.heap.size + 2) go W2.heap.size B' (pre.filter (partOf lb inn)) W' ∧ BlkIs W' w.heap.size 24 #[.pointer (some ⟨gb, 0, none⟩)]) ∧ (BlkIs W' (w.heap.size + 1) 4 #[.bool inn] ∧ BlkIs W' W2.heap.size 24 #[.pointer (some ⟨go, 0, none⟩)]) ∧ Below w.heap.size w W')
    (fun c pre W' => False)
    (fun B' pre x a' W' => a' = { tmps := #[.pointer (some ⟨ga, 0, none⟩), .pointer (some ⟨gb, 0, none⟩), .bool inn, undef, .pointer (some ⟨w.heap.size, 0, none⟩), .pointer (some ⟨w.heap.size + 1, 0, none⟩), .pointer none, .pointer (some ⟨W2.heap.size, 0, none⟩), Value.int .i64 x, .pointer (some ⟨go, 0, none⟩), .pointer (some ⟨ga, 0, none⟩), .func (.func 54) #[] #[.pointer (some ⟨W3.heap.size, 0, none⟩)], Value.int .i64 x, undef, undef, undef, undef, undef, undef, undef, undef, undef], defers := [] } ∧
      (IntOut (w.heap.size + 2) go W2.heap.size B' (pre.filter (partOf lb inn)) W' ∧ BlkIs W' w.heap.size 24 #[.pointer (some ⟨gb, 0, none⟩)]) ∧ (BlkIs W' (w.heap.size + 1) 4 #[.bool inn] ∧ BlkIs W' W2.heap.size 24 #[.pointer (some ⟨go, 0, none⟩)]) ∧ Below w.heap.size w W')
    (fun B' => (ownFrom_iOut _ _ _ _ _ _ |>.and (ownFrom_blk _ _ _ _)).and (((ownFrom_blk _ _ _ _).and (ownFrom_blk _ _ _ _)).and (ownFrom_below (Nat.le_refl _) hzw)))
    (fun c s X Y row hs hg hr => hs)
    (fun B' pre x a' s X Y row hs hg hr => ⟨hs.1, ((ownFrom_iOut (β := Unit) _ _ _ _ _ (fun _ => pre.filter (partOf lb inn)) |>.and (ownFrom_blk _ _ _ _)).and (((ownFrom_blk _ _ _ _).and (ownFrom_blk _ _ _ _)).and (ownFrom_below (Nat.le_refl _) hzw))) () X Y row hs.2 hg hr⟩)
    (fun W5 hg5 => ⟨⟨⟨_, _, H4.out.1.later (below_of_grown hg5), fun k hk => Or.inl (HW.out k hk)⟩, H4.out.2.1.grown hg5 (by simp)⟩, ⟨H4.out.2.2.1.grown hg5 (by simp), H4.out.2.2.2.1.grown hg5 (by simp)⟩, H4.out.2.2.2.2.trans ((below_of_grown hg5).mono hzw)⟩) ?assign ?body ?done ?stop
  case assign =>
    intro l' B' pre x W' hB1 hB2 hi hpre
    gi_wp2
    exact ⟨KeepsMid.refl _ _ _, trivial, hi⟩
  case body =>
    rintro l' B' pre x a' W' hB1 hB2 ⟨rfl, ⟨ho, hk0⟩, ⟨hk1, hk2⟩, hbw⟩ hpre
    have hsb : IntSet W' bb gb kvb vvb lb := HA.out.2.later hbw
    have h0 := Lib.hid (And.intro hk0 (And.intro hk1 hk2))
    have HB := Lib.hid (And.intro ho (And.intro hbw hpre))
    have c0 := hk0.cell 0
    have c1 := hk1.cell 0
    have c2 := hk2.cell 0
    clear hk0 hk1 hk2 ho hbw hpre IT
    simp only [List.getElem?_toArray, List.getElem?_cons_zero] at c0 c1 c2
    obtain ⟨bx, hbx⟩ : ∃ bx, bx = has lb x := ⟨_, rfl⟩
    gi_wp2
    gi_region_with_o (refine ⟨trivial, ?_⟩; gi_at_call 34; refine (CallsIn.inRound l' (callsIn_wide.2 (has_int bb gb kvb vvb lb x _ (by first | exact hsb | exact hsb.later (((DrawsOf.refl _).drewN _).below _) | exact hsb.later (((DrawsOf.refl _).drew).below _)) hnb))).mono ?_; rintro e w4 ⟨rfl, q, rfl⟩)
    all_goals (
      have hdr := ((DrawsOf.refl W').drewN (1 + q)).below W'.heap.size
      obtain ⟨WQ, hWQ⟩ : ∃ WQ, WQ = W'.drewN (1 + q) := ⟨_, rfl⟩
      rw [← hWQ] at hdr ⊢
      have hzq : WQ.heap.size = W'.heap.size := by rw [hWQ]; rfl
      have c2q : WQ.cell? ⟨W2.heap.size, 0, none⟩ = some (.pointer (some ⟨go, 0, none⟩)) := by rw [hWQ]; exact c2
      clear hWQ c0 c1 c2 hsb
      have HQ := Lib.hid hdr
      have hp : partOf lb inn x = (bx == inn) := by rw [hbx]; rfl
      clear hdr
      rw [← hbx]
      cases hbi : (bx == inn)
      · gi_wp2
        obtain ⟨kv, vv, hs, hown⟩ := HB.out.1
        have hdr := HQ.out
        have st := (part_step (inn := inn) (lb := lb) HR.out HB.out.2.2).2 (hp.trans hbi)
        refine ⟨KeepsMid.below hdr hB2, ⟨⟨kv, vv, ?_, hown⟩, h0.out.1.below hdr h0.out.1.lt⟩, ⟨h0.out.2.1.below hdr h0.out.2.1.lt, h0.out.2.2.below hdr h0.out.2.2.lt⟩, HB.out.2.1.trans (hdr.mono HB.out.2.1.size)⟩
        rw [← st]
        exact hs.later hdr
      · gi_wp2
        obtain ⟨kv, vv, hs, hown⟩ := HB.out.1
        have hdr := HQ.out
        have st := (part_step (inn := inn) (lb := lb) HR.out HB.out.2.2).1 (hp.trans hbi)
        have hlen : (pre.filter (partOf lb inn)).length < 1000000 := by
          have h1 := List.length_filter_le (partOf lb inn) pre
          have h2 := HB.out.2.2.length_le
          simp at h2
          omega
        refine ⟨trivial, (CallsIn.inRound l' (callsIn_wide.2 (add_int _ go kv vv _ x WQ (hs.later hdr) hlen))).mono ?_⟩
        rintro e w5 ⟨kv', vv', rfl, hs', hch, hown'⟩
        have hC : Chg (Own_ go kv vv) W' w5 := (Chg.of_below hdr).trans (hch.mono fun k _ h => Or.inl h)
        have hzz := HB.out.2.1.size
        have hnb0 : ∀ k, k < w.heap.size + 2 → ¬ Own_ go kv vv k := fun k hk ho => by have := (hs.own ho).1; omega
        have hfin := Lib.hid (show KeepsMid W4.heap.size B' W' w5 ∧ (IntOut (w.heap.size + 2) go W2.heap.size B' ((pre ++ [x]).filter (partOf lb inn)) w5 ∧ BlkIs w5 w.heap.size 24 #[.pointer (some ⟨gb, 0, none⟩)]) ∧ (BlkIs w5 (w.heap.size + 1) 4 #[.bool inn] ∧ BlkIs w5 W2.heap.size 24 #[.pointer (some ⟨go, 0, none⟩)]) ∧ Below w.heap.size w w5 from
          ⟨⟨hC.size, fun k a b => hC.block k (Nat.lt_of_lt_of_le b hB2) (fun ho => by rcases hown k ho with h | h <;> omega)⟩,
           ⟨⟨kv', vv', st.1 ▸ hs', fun k hk => (hown' k hk).elim (hown k) fun h => Or.inr (by omega)⟩, hC.blk h0.out.1 (hnb0 _ (by omega))⟩,
           ⟨hC.blk h0.out.2.1 (hnb0 _ (by omega)), hC.blk h0.out.2.2 (fun ho => by rcases hown _ ho with h | h <;> omega)⟩,
           HB.out.2.1.trans (hC.below hzz fun k ho => by have := (hs.own ho).1; omega)⟩)
        clear hs' hch hown' hC hown hs hnb0
        gi_wp2
        exact hfin.out)
  case done =>
    rintro D B' W' hD hB1 ⟨⟨ho, -⟩, ⟨-, hk2⟩, hbw⟩ hK
    have c2 := hk2.cell 0
    simp only [List.getElem?_toArray, List.getElem?_cons_zero] at c2
    have hj := (ownFrom_iOut (β := Unit) (w.heap.size + 2) go W2.heap.size B' W4.heap.size (fun _ => la.filter (partOf lb inn))).putObj (s := ()) (.deferred none) ho hD hK rfl
    have hb5 := (ownFrom_below (β := Unit) (w₀ := w) (n₀ := w.heap.size) (Nat.le_refl _) hzw).putObj (s := ()) (.deferred none) hbw hD hK rfl
    have HJ := Lib.hid (And.intro hj hb5)
    clear ho hk2 hbw hj hb5
    gi_wp2
    refine ⟨by simp, .inl ⟨_, _, rfl, run_takeDeferred hK, ?_⟩⟩
    obtain ⟨⟨kv, vv, hs, -⟩, hb⟩ := HJ.out
    exact ⟨_, results_tmp rfl _ _ _, go, kv, vv, rfl, hs.mono (Nat.le_add_right _ 2), hb⟩
  case stop => exact fun D c pre W' hD hpre hf hK => hf.elim
end Go.Proofs.Ytckhekkdidfefaa.Set
