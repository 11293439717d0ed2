/- reliquarylaw08.goes, walked: a map and its rising pairs. (Layer 08.) -/
import Derived.Test.YtckhekkdidfefaaSetP4
import Derived.Test.YtckhekkdidfefaaSetI6
import Derived.Test.YtckhekkdidfefaaSetP1
namespace Go.Proofs.Ytckhekkdidfefaa.Set
set_option linter.unusedVariables false
open Go.RowKit Go.Sort Go.Lib Go.Shelf
attribute [local go_sem] Oper.semAt_some
theorem ownFrom_blkf {β : Type} (B g : Nat) (t : TypeId) (cs : β → Array Value) : OwnFrom B (fun (s : β) W => BlkIs W g t (cs s)) := fun s W W' row hs hg hr => hs.grown hg fun e => by
  obtain ⟨_, o, ho, hc⟩ := hr g e.symm
  unfold BlkIs at hs
  rw [hs] at ho
  injection ho with ho
  subst ho
  cases hc
theorem prefix_last {α : Type} {pre l : List α} {x : α} (h : pre ++ [x] <+: l) : ∃ hk : pre.length < l.length, l[pre.length] = x := by
  obtain ⟨r, rfl⟩ := h
  refine ⟨by simp, ?_⟩
  simp
set_option maxRecDepth 100000 in
set_option maxHeartbeats 4000000 in
theorem goes_any (base g : Nat) (kv vv : Value) (L : Row) (v : Value) (w : World) (h : SMap w base g kv vv L) (hv : PairAt w v L) (hn : L.length ≤ 1000000) :
    Calls Try.prog 27 #[.pointer (some ⟨g, 0, none⟩), v] w fun e w' => e = .returned (.bool true) ∧ Below w.heap.size w w' := by
  have nod : ∀ m, Fence.wide.depth.isSome = true → 1 ≤ m := fun m h => absurd h (by decide)
  obtain ⟨ao, cap, rfl, hlc, hcm, hcell⟩ := hv
  obtain ⟨n, hnn⟩ : ∃ n, n = L.length := ⟨_, rfl⟩
  rw [← hnn] at hn hlc ⊢
  have H0 := Lib.hid (show ∃ W, W = ((w.alloc (.cells #[.slice ao n cap] 35)).alloc (.cells #[.bool false] 4)).alloc (.cells #[.int .i64 0] 3) ∧ BlkIs W w.heap.size 35 #[.slice ao n cap] ∧ BlkIs W (w.heap.size + 1) 4 #[.bool false] ∧ BlkIs W (w.heap.size + 1 + 1) 3 #[.int .i64 0] ∧ Below w.heap.size w W from
    ⟨_, rfl, ((BlkIs.new _ _ _).alloc _).alloc _, (BlkIs.new2 _ _ _ _).alloc _, BlkIs.new3 _ _ _ _ _, (((Below.refl _ _).alloc (Nat.le_refl _) _).alloc (by simp) _).alloc (by simp; omega) _⟩)
  have HA := Lib.hid (And.intro h hcell)
  have HL := Lib.hid hnn
  clear h hcell hnn
  refine (callsIn_wide (n := 9)).1 ?_
  refine callsIn_of_wp_marks Try.func27 rfl trivial ?_ rfl
  simp only [Try.ntmps27, List.size_toArray, List.length_cons, List.length_nil, Nat.reduceAdd, Nat.reduceSub, Array.replicate_succ, Array.replicate_zero, List.push_toArray, List.append_toArray, List.nil_append, List.cons_append]
  gi_wp2
  obtain ⟨W1, hW1, H1⟩ := H0.out
  have hz1 : W1.heap.size = w.heap.size + 3 := by rw [hW1]; simp
  rw [← hW1]
  have H1 := Lib.hid H1
  clear hW1 H0
  refine ⟨trivial, (callsIn_wide.2 (mapAll_p g W1)).mono ?_⟩
  rintro e W4 ⟨rfl, hc4, hl4, hb4⟩
  have H4 := Lib.hid (show BlkIs W4 w.heap.size 35 #[.slice ao n cap] ∧ BlkIs W4 (w.heap.size + 1) 4 #[.bool false] ∧ BlkIs W4 (w.heap.size + 1 + 1) 3 #[.int .i64 0] ∧ Below w.heap.size w W4 from
    ⟨H1.out.1.below hb4 H1.out.1.lt, H1.out.2.1.below hb4 H1.out.2.1.lt, H1.out.2.2.1.below hb4 H1.out.2.2.1.lt, H1.out.2.2.2.trans (hb4.mono H1.out.2.2.2.size)⟩)
  have hsa : SMap W4 base g kv vv L := HA.out.1.later H4.out.2.2.2
  have IT := mapAll1_p base g W1.heap.size kv vv L W4 hsa (by rw [← HL.out]; exact hn) hc4 hl4
  have hz4 : w.heap.size + 3 < W4.heap.size := by omega
  clear hb4 hsa hc4 hl4
  have hnf : ∀ (x : Addr) (W : World), (binOp .eql 81 (.func (.func 68) #[] #[.pointer (some x)]) .nilFunc).run Try.prog W = .ok (.bool false) W := fun x W => by kernel_rfl
  gi_wp2
  rw [hz1] at IT
  have hle4 : w.heap.size ≤ W4.heap.size := by omega
  refine wp_iter rfl (enters_of Try.func68 (by kernel_rfl) rfl) IT (Below.refl _ _) (fun _ => rfl)
    (fun B' pre W' => (BlkIs W' w.heap.size 35 #[.slice ao n cap] ∧ BlkIs W' (w.heap.size + 1) 4 #[.bool false]) ∧ (BlkIs W' (w.heap.size + 1 + 1) 3 #[.int .i64 (pre.length : Int)] ∧ Below w.heap.size w W'))
    (fun c pre W' => False)
    (fun B' pre x a' W' => a' = { tmps := #[.pointer (some ⟨g, 0, none⟩), .slice ao n cap, undef, .pointer (some ⟨w.heap.size, 0, none⟩), .pointer (some ⟨w.heap.size + 1, 0, none⟩), .pointer (some ⟨w.heap.size + 1 + 1, 0, none⟩), .func (.func 68) #[] #[.pointer (some ⟨w.heap.size + 3, 0, none⟩)], .string x.1, .int .i64 x.2, .pointer (some ⟨g, 0, none⟩), .func (.func 68) #[] #[.pointer (some ⟨w.heap.size + 3, 0, none⟩)], .func (.func 68) #[] #[.pointer (some ⟨w.heap.size + 3, 0, none⟩)], .bool false, .func (.func 68) #[] #[.pointer (some ⟨w.heap.size + 3, 0, none⟩)], .string x.1, .int .i64 x.2, undef, undef, undef, undef, undef, undef, undef, undef, undef, undef, undef, undef, undef, undef, undef, undef, undef, undef, undef, undef, undef, undef, undef, undef, undef, undef, undef, undef], defers := [] } ∧ (BlkIs W' w.heap.size 35 #[.slice ao n cap] ∧ BlkIs W' (w.heap.size + 1) 4 #[.bool false]) ∧ (BlkIs W' (w.heap.size + 1 + 1) 3 #[.int .i64 (pre.length : Int)] ∧ Below w.heap.size w W'))
    (fun B' => ((ownFrom_blk _ _ _ _).and (ownFrom_blk _ _ _ _)).and ((ownFrom_blkf _ _ _ _).and (ownFrom_below (Nat.le_refl _) hle4)))
    (fun c s X Y row hs hg hr => hs)
    (fun B' pre x a' s X Y row hs hg hr => ⟨hs.1, (((ownFrom_blk (β := Unit) _ _ _ _).and (ownFrom_blk _ _ _ _)).and ((ownFrom_blk _ _ _ _).and (ownFrom_below (Nat.le_refl _) hle4))) () X Y row hs.2 hg hr⟩)
    (fun W5 hg5 => ⟨⟨H4.out.1.grown hg5 (by simp), H4.out.2.1.grown hg5 (by simp)⟩, ⟨H4.out.2.2.1.grown hg5 (by simp), H4.out.2.2.2.trans ((below_of_grown hg5).mono hle4)⟩⟩) ?assign ?body ?done ?stop
  case assign =>
    intro l' B' pre x W' hB1 hB2 hi hpre
    gi_wp2
    exact ⟨KeepsMid.refl _ _ _, trivial, hi⟩
  case body =>
    rintro l' B' pre x a' W' hB1 hB2 ⟨rfl, ⟨hk0, hk1⟩, hk2, hbw⟩ hpre
    obtain ⟨hpl, hx⟩ := prefix_last hpre
    obtain ⟨b, off, rfl, hblt, hcell⟩ := HA.out.2 (by omega)
    obtain ⟨q0, q1⟩ := hcell pre.length hpl
    rw [hx, ← hbw.cell hblt] at q0 q1
    obtain ⟨x1, x2⟩ := x
    dsimp only at q0 q1 ⊢
    have c0 := hk0.cell 0
    have c1 := hk1.cell 0
    have c2 := hk2.cell 0
    have f2 := hk2.free 0
    simp only [List.getElem?_toArray, List.getElem?_cons_zero] at c0 c1 c2
    have HB := Lib.hid (And.intro hk0 (And.intro hk1 (And.intro hk2 hbw)))
    obtain ⟨k, hk⟩ : ∃ k, k = pre.length := ⟨_, rfl⟩
    have HK := Lib.hid hk
    rw [← hk] at c2 q0 q1
    have ki : (k : Int) < n := by rw [hk, HL.out]; omega
    have kb : k ≤ 1000000 := by omega
    clear hk0 hk1 hk2 hbw hpre hcell hk hx hpl IT
    gi_wp2
    have hz := HB.out.2.2.1.put 0 (.int .i64 ((k : Int) + 1))
    refine ⟨(KeepsMid.refl _ _ _).setCell (p := ⟨w.heap.size + 1 + 1, 0, none⟩) (Or.inl (by simp only; omega)) _, ⟨HB.out.1.far (p := ⟨w.heap.size + 1 + 1, 0, none⟩) (by simp only; omega) _, HB.out.2.1.far (p := ⟨w.heap.size + 1 + 1, 0, none⟩) (by simp only; omega) _⟩, ?_, HB.out.2.2.2.setCell (p := ⟨w.heap.size + 1 + 1, 0, none⟩) (by simp only; omega) _⟩
    rw [HK.out] at hz ⊢
    simpa using hz
  case done =>
    rintro D B' W' hD hB1 ⟨⟨hk0, hk1⟩, hk2, hbw⟩ hK
    have c0 := hk0.cell 0
    have c1 := hk1.cell 0
    have c2 := hk2.cell 0
    have f1 := hk1.free 0
    have lt1 := hk1.lt
    have HB := Lib.hid (And.intro hk1 hbw)
    simp only [List.getElem?_toArray, List.getElem?_cons_zero] at c0 c1 c2
    rw [← HL.out] at c2
    clear hk0 hk1 hk2 hbw
    gi_wp2
    have hne : D ≠ w.heap.size + 1 := by omega
    have hK' : (W'.setCell ⟨w.heap.size + 1, 0, none⟩ (.bool true)).heap[D]? = some (.deferred (some [])) := (Below.heap_setCell W' ⟨w.heap.size + 1, 0, none⟩ (.bool true) D hne).trans hK
    refine ⟨by simp, .inl ⟨_, _, rfl, run_takeDeferred hK', ?_⟩⟩
    have e1 : ((W'.setCell ⟨w.heap.size + 1, 0, none⟩ (.bool true)).putObj D (.deferred none)).cell? ⟨w.heap.size + 1, 0, none⟩ = some (.bool true) := by
      have hb : BlkIs ((W'.setCell ⟨w.heap.size + 1, 0, none⟩ (.bool true)).putObj D (.deferred none)) (w.heap.size + 1) 4 #[.bool true] := by
        have h1 := HB.out.1.put 0 (.bool true)
        exact (World.putObj_heap_other (Ne.symm hne)).trans h1
      exact hb.cell 0
    have e2 : Below w.heap.size w ((W'.setCell ⟨w.heap.size + 1, 0, none⟩ (.bool true)).putObj D (.deferred none)) := by
      have hb := HB.out.2.setCell (p := ⟨w.heap.size + 1, 0, none⟩) (Nat.le_succ _) (.bool true)
      exact ⟨hb.os, hb.tape, hb.output, by simpa using hb.size, fun k hk => (World.putObj_heap_other (by omega)).trans (hb.block k hk)⟩
    exact ⟨.bool true, by simp [results, Try.results27, go_sem, e1], rfl, e2⟩
  case stop => exact fun D c pre W' hD hpre hf hK => hf.elim
end Go.Proofs.Ytckhekkdidfefaa.Set
