/- Several texts in one. (Layer 19.) -/
import Derived.Test.YtljenganlknhbaaGreatPkQ
/- What the reference's padded and Sum compute, walked. -/
namespace Go.Proofs.YtljenganlknhbaaGreat.Sha
open Go.RowKit
theorem zeros_more (l : List UInt8) (n : Nat) (h : 1 ≤ n) : bcells (l ++ 128 :: List.replicate (n - 1) 0) ++ bcells [0] = bcells (l ++ 128 :: List.replicate (n + 1 - 1) 0) := by
  rw [bcells_append, List.append_assoc]
  congr 2
  rw [show n + 1 - 1 = (n - 1) + 1 by omega, List.replicate_succ']; rfl
set_option maxHeartbeats 400000 in
theorem padded_any (s : ByteArray) (w : World) (hs : s.size ≤ 140737488355232) :
    Calls Tryz.prog 143 #[.string s] w fun e w' => ∃ ao n cap, e = .returned (.slice ao n cap) ∧ SlIs w' w.heap.size 5 1 (.slice ao n cap) n (bcells (s.data.toList ++ padTail s.size)) ∧ Below w.heap.size w w' := by
  have hz := zeros_le s.size
  obtain ⟨ao0, cap0, w0, hrun, hsl0, hg0⟩ := run_bytes_sl (P := Tryz.prog) w 9 43 5 s Tryz.underlying9 Tryz.underlying43 Tryz.underlying5 (by unfold maxLen; omega)
  have hb0 : Below w.heap.size w w0 := (Below.refl _ _).grown (row := none) hg0 (Nat.le_refl _) (fun k hk => by cases hk)
  have H0' := Lib.hid (And.intro hsl0 hb0)
  clear hsl0 hb0 hg0
  obtain ⟨l, hl⟩ : ∃ l, l = s.data.toList := ⟨_, rfl⟩
  obtain ⟨N, hN⟩ : ∃ N, N = s.size := ⟨_, rfl⟩
  have hlN : l.length = N := by rw [hl, hN]; rfl
  have HL := Lib.hid (And.intro hl (And.intro hN hlN))
  have hNb : N ≤ 140737488355232 := by omega
  rw [← hN] at hz
  clear hl hlN hN
  go_enter Tryz.func143, Tryz.ntmps143
  go_wp2_with (first
    | (at_builtin
       refine wpList_append_sl rfl _ _ _ 43 rfl el_u8 (.slice ao0 s.size cap0) s.size (bcells s.data.toList) rfl (H0'.out.1.alloc _) _ 1 (bcells [128]) rfl (SrcIs.own Tryz.underlying43 (SlIs.made (base := 0) (BlkIs.new _ _ _) (Nat.zero_le _) rfl (by decide))) (bcells_one _) (by unfold maxLen; omega) (by omega) (by have := H0'.out.2.size; simp only [World.size_alloc]; omega) ?_
       intro v1 w1 hs1 hg1 hat1
       obtain ⟨ao1, cap1, rfl, hnc1, hcm1, hao1⟩ := hs1.form
       have hb1 := (H0'.out.2.alloc H0'.out.2.size _).grown hg1 (by have := H0'.out.2.size; simp only [World.size_alloc]; omega) fun k hk => (H0'.out.1.lt k hk).1
       have H1 := Lib.hid (And.intro hs1 hb1)
       clear hs1 hb1 hg1 hat1 hao1))
  go_loopw [3] (fun b wr => ∃ (m : Nat) (ao : Option Addr) (cap : Nat), N + 1 ≤ m ∧ m ≤ N + 1 + zeros N ∧ b = .slice ao m cap ∧ SlIs wr w.heap.size 5 1 (.slice ao m cap) m (bcells (l ++ 128 :: List.replicate (m - N - 1) 0)) ∧ Below w.heap.size w wr) (fun b _ => N + 100 - lenAt (some b))
  case atStart =>
    refine ⟨N + 1, ao1, cap1, by omega, by omega, by rw [HL.out.2.1], ?_, H1.out.2⟩
    have := H1.out.1
    rw [bcells_append] at this
    rw [show N + 1 - N - 1 = 0 by omega, HL.out.2.1, HL.out.1]
    exact this
  case round =>
    obtain ⟨m, ao, cap, hn1, hn2, rfl, hsl, hbe⟩ := hrel
    have H := Lib.hid (And.intro hsl hbe); clear hsl hbe
    have hbw := H.out.2.size
    by_cases hlt : m < N + 1 + zeros N
    · have hne : ((m : Int) % 64 != 56) = true := by
        have := zeros_hit N (m - N) (by omega) (by omega)
        simp; omega
      have hnb : (m : Int) ≤ 140737488355332 := by omega
      go_wp2_with (first
        | (at_builtin
           refine wpList_append_sl rfl _ _ _ 43 rfl el_u8 (.slice ao m cap) m (bcells (l ++ 128 :: List.replicate (m - N - 1) 0)) rfl (H.out.1.alloc _) _ 1 (bcells [0]) rfl (SrcIs.own Tryz.underlying43 (SlIs.made (base := 0) (BlkIs.new _ _ _) (Nat.zero_le _) rfl (by decide))) (bcells_one _) (by unfold maxLen; omega) (by omega) (by simp only [World.size_alloc]; omega) ?_
           intro v1 w1 hs1 hg1 hat1
           obtain ⟨ao2, cap2, rfl, hnc2, hcm2, hao2⟩ := hs1.form
           rw [show m - N - 1 = (m - N) - 1 from rfl, zeros_more l (m - N) (by omega)] at hs1
           have hb1 := (H.out.2.alloc hbw _).grown hg1 (by simp only [World.size_alloc]; omega) fun k hk => (H.out.1.lt k hk).1
           have H2 := Lib.hid (And.intro hs1 hb1)
           clear hs1 hb1 hg1 hat1 hao2))
      go_roundw
      case rel => exact ⟨m + 1, ao2, cap2, by omega, by omega, rfl, by rw [show m + 1 - N - 1 = m - N + 1 - 1 by omega]; exact H2.out.1, H2.out.2⟩
      case measure => show N + 100 - (m + 1) < N + 100 - m; omega
    · have hne : ((m : Int) % 64 != 56) = false := by
        have := zeros_hit N (m - N) (by omega) (by omega)
        simp; omega
      have hnb : (m : Int) ≤ 140737488355332 := by omega
      have hs3 : SlIs wr w.heap.size 5 1 (.slice ao m cap) m (bcells (l ++ 128 :: List.replicate (zeros N) 0)) := by
        have e : m - N - 1 = zeros N := by omega
        rw [← e]; exact H.out.1
      have H3 := Lib.hid (And.intro hs3 H.out.2)
      clear hs3
      have hNs : ((s.size : Nat) : Int) ≤ 140737488355332 := by omega
      obtain ⟨T, hT⟩ : ∃ T, T = N * 8 % 18446744073709551616 := ⟨_, rfl⟩
      have HT := Lib.hid hT
      have hTi : IntKind.u64.wrap ((s.size : Int) * 8) = (T : Int) := by rw [hT, HL.out.2.1, IntKind.wrap_u64]; omega
      have hTi2 : (s.size : Int) * 8 = (T : Int) := by rw [hT, HL.out.2.1]; omega
      clear hT
      obtain ⟨hd, hhd⟩ : ∃ hd, hd = l ++ (128 : UInt8) :: List.replicate (zeros N) 0 := ⟨_, rfl⟩
      have Hhd := Lib.hid hhd; clear hhd
      go_wp2_with fail
      clear hTi hTi2 hne hlt
      go_loopw [3, 5] (fun b i wr => ∃ (j : Nat) (ao : Option Addr) (cap : Nat), j ≤ 8 ∧ i = .int .i64 (56 - 8 * (j : Int)) ∧ b = .slice ao (m + j) cap ∧ SlIs wr w.heap.size 5 1 (.slice ao (m + j) cap) (m + j) (bcells (hd ++ (be8 T).take j)) ∧ Below w.heap.size w wr) (fun b _ _ => m + 100 - lenAt (some b))
      case atStart => exact ⟨0, _, _, by omega, rfl, rfl, by rw [List.take_zero, List.append_nil, Hhd.out]; exact H3.out.1, H3.out.2⟩
      case round =>
        obtain ⟨j, ao4, cap4, hj, rfl, rfl, hsl, hbe⟩ := hrel
        have H := Lib.hid (And.intro hsl hbe); clear hsl hbe
        have hbw := H.out.2.size
        by_cases hlt : j < 8
        · have h1 : (0 : Int) ≤ 56 - 8 * (j : Int) := by omega
          have h2 : 8 * (j : Int) ≤ 56 := by omega
          have ht : (56 - 8 * (j : Int)).toNat = 56 - 8 * j := by omega
          have hmb : m + j ≤ 140737488355341 := by omega
          go_wp2_with (first
            | (at_builtin
               refine wpList_append_sl rfl _ _ _ 43 rfl el_u8 (.slice ao4 (m + j) cap4) (m + j) (bcells (hd ++ (be8 T).take j)) rfl (H.out.1.alloc _) _ 1 [Value.int .u8 ((T : Int) / 2 ^ (56 - 8 * j) % 256)] rfl (SrcIs.own Tryz.underlying43 (SlIs.made (base := 0) (BlkIs.new _ _ _) (Nat.zero_le _) rfl (by decide))) (by rw [byte_cell]; exact bcells_one _) (by unfold maxLen; omega) (by omega) (by simp only [World.size_alloc]; omega) ?_
               intro v1 w1 hs1 hg1 hat1
               obtain ⟨ao5, cap5, rfl, hnc1, hcm1, hao5⟩ := hs1.form
               rw [byte_cell, bcells_append, List.append_assoc, ← be8_next T j hlt] at hs1
               have hb1 := (H.out.2.alloc hbw _).grown hg1 (by simp only [World.size_alloc]; omega) fun k hk => (H.out.1.lt k hk).1
               have H2 := Lib.hid (And.intro hs1 hb1)
               clear hs1 hb1 hg1 hat1 hao5))
          go_roundw
          case rel => exact ⟨j + 1, ao5, cap5, by omega, by go_num, rfl, H2.out.1, H2.out.2⟩
          case measure => show m + 100 - (m + (j + 1)) < m + 100 - (m + j); omega
        · obtain rfl : j = 8 := by omega
          go_wp2
          go_ret
          refine ⟨ao4, m + 8, cap4, rfl, ?_, H.out.2⟩
          have e := H.out.1
          rw [List.take_of_length_le (by rw [be8_length]; omega), Hhd.out, HT.out] at e
          rw [← HL.out.1, ← HL.out.2.1]
          have e2 : l ++ padTail N = l ++ (128 : UInt8) :: List.replicate (zeros N) 0 ++ be8 (N * 8 % 18446744073709551616) := by simp [padTail]
          rw [e2]
          exact e
end Go.Proofs.YtljenganlknhbaaGreat.Sha

/- What the reference's Sum computes: the same digest; and the law ShaSums. -/
namespace Go.Proofs.YtljenganlknhbaaGreat.Sha
open Go.RowKit
theorem absorb_fuel (f : Nat) : ∀ (g : Nat) (s : St) (l : List UInt8), l.length ≤ f → l.length ≤ g → absorb f s l = absorb g s l := by
  induction f with
  | zero => intro g s l h1 h2; rw [absorb_small g s l (by omega)]; rfl
  | succ f ih =>
    intro g s l h1 h2
    by_cases h64 : 64 ≤ l.length
    · obtain ⟨g', rfl⟩ : ∃ g', g = g' + 1 := ⟨g - 1, by omega⟩
      rw [absorb_step _ _ _ h64, absorb_step _ _ _ h64]
      exact ih g' _ _ (by rw [List.length_drop]; omega) (by rw [List.length_drop]; omega)
    · rw [absorb_small _ _ _ (by omega), absorb_small _ _ _ (by omega)]
theorem absorb_append (f : Nat) : ∀ (s : St) (l t : List UInt8), l.length ≤ f → absorb (f + t.length) s (l ++ t) = absorb ((absorb f s l).2.length + t.length) (absorb f s l).1 ((absorb f s l).2 ++ t) := by
  induction f with
  | zero =>
    intro s l t h
    have hl : l = [] := List.eq_nil_of_length_eq_zero (by omega)
    subst hl
    rfl
  | succ f ih =>
    intro s l t h
    by_cases h64 : 64 ≤ l.length
    · rw [absorb_step f s l h64, show f + 1 + t.length = (f + t.length) + 1 by omega, absorb_step _ _ _ (by rw [List.length_append]; omega)]
      rw [List.take_append_of_le_length h64, List.drop_append_of_le_length h64]
      exact ih _ _ _ (by rw [List.length_drop]; omega)
    · rw [absorb_small (f + 1) s l (by omega)]
      exact absorb_fuel _ _ _ _ (by simp; omega) (by simp)
/-- The digest in one go. -/
theorem sum_whole (l : List UInt8) : sum l = out (absorb (l ++ padTail l.length).length H0 (l ++ padTail l.length)).1.cells := by
  unfold sum finish
  rw [List.length_append, absorb_append l.length H0 l _ (Nat.le_refl _)]
theorem pad_mod (n : Nat) : (n + (padTail n).length) % 64 = 0 := by
  rw [padTail_length]; unfold zeros; omega

theorem quiet_load_row {P : Program} {o : Oper} {a : Act} {C : World → Prop} {K : Act → Prop} (ty : TypeId) (x : Operand) (ho : o.op = .load ty x) (g : Nat) (hx : a.eval x = .pointer (some ⟨g, 0, none⟩)) (t : TypeId) (cs : Array Value) (d : TypeDesc)
    (hg : ∀ w, C w → BlkIs w g t cs) (hu : P.underlying ty = some d) (hd : (match d with | .struct _ | .array _ _ => true | _ => false) = true) (hi : (P.info? ty).map (·.size) = some cs.size)
    (h : K (a.put o.dst (.agg cs))) : o.quiet P a C K := by
  refine ⟨.agg cs, fun w hw => ?_, h⟩
  have hr := run_loadVar_row (P := P) w g t ty cs (0, 0) d (hg w hw) hu hd hi
  unfold Oper.quietAt execOp
  simp only [ho, hx, Instr.loadAt, Instr.sureAddr, Sem.run_bind, Sem.run_pure, Result.andThen_ok, hr]
  exact ⟨rfl, rfl⟩
theorem block_len (s : St) (b off cap n : Nat) (w : World) (bs : List Int) (hn : n = 64) (hs : s.isW) (hl : bs.length = 64)
   (hb : b < w.heap.size) (hbs : ∀ x ∈ bs, isB x) (hc : ∀ j, j < 64 → w.cell? ⟨b, off + j, none⟩ = some (.int .u8 (bs.getD j 0))) :
    Calls Tryz.prog 144 #[.agg (nums .u32 s.cells), .slice (some ⟨b, off, none⟩) n cap, .agg (nums .u32 kTable)] w fun e w' => e = .returned (.agg (nums .u32 (mix s bs).cells)) ∧ Below w.heap.size w w' := by
  subst hn
  exact block_any s b off cap w bs hs hl hb hbs hc
set_option maxHeartbeats 1000000 in
set_option maxRecDepth 100000 in
theorem refsum_any (s : ByteArray) (w : World) (hs : s.size ≤ 140737488355232) :
    Calls Tryz.prog 99 #[.string s] w fun e w' => e = .returned (.string ⟨(sum s.data.toList).toArray⟩) ∧ Below w.heap.size w w' := by
  obtain ⟨K, hK⟩ : ∃ K, K = nums .u32 kTable := ⟨_, rfl⟩
  have hKs : K.size = 64 := by rw [hK]; rfl
  have hK1 : K.all (·.oneCell') = true := by rw [hK]; exact nums_one _ _
  have hinfoK : (Tryz.prog.info? 150).map (·.size) = some K.size := by rw [hKs]; kernel_rfl
  have hcon : ∀ w : World, Calls Tryz.prog 142 #[] w fun e w' => e = .returned (.agg K) ∧ Below w.heap.size w w' := by rw [hK]; exact consts_any
  have HK := Lib.hid (And.intro hK (And.intro hKs (And.intro hK1 (And.intro hinfoK hcon))))
  clear hK hKs hK1 hinfoK hcon
  go_enter Tryz.func99, Tryz.ntmps99
  go_upto_region 2 with (fail)
  refine gen_world (fun W => BlkIs W w.heap.size 149 (nums .u32 H0.cells) ∧ Below w.heap.size w W) ⟨BlkIs.new _ _ _, (Below.refl _ _).alloc (Nat.le_refl _) _⟩ ?_
  rintro W ⟨f0, fb⟩
  have F := Lib.hid (And.intro f0 fb); clear f0 fb
  go_wp2_with (first
    | (go_at_call 142; refine (HK.out.2.2.2.2 _).mono ?_; rintro e w1 ⟨rfl, hb1⟩)
    | (refine wpList_store_row_to rfl 150 _ _ rfl w1.heap.size K (by rfl) (by rfl) 150 _ (BlkIs.new _ _ _) HK.out.2.2.2.1 (by rw [HK.out.2.1]; rfl) HK.out.2.2.1 ?_
       intro w2 hk2 hg2)
    | (go_at_call 143; refine (padded_any s _ hs).mono ?_; rintro e w3 ⟨ao, n, cap, rfl, hsl3, hb3⟩))
  have hz1 : W.heap.size ≤ w1.heap.size := hb1.size
  have hWz : w.heap.size < W.heap.size := F.out.1.lt
  have hB : BlkIs w3 w.heap.size 149 (nums .u32 H0.cells) := (((F.out.1.below hb1 F.out.1.lt).alloc _).grown hg2 (by intro e; injection e; omega)).below hb3 (by have := hg2.size; simp only [World.size_alloc] at this; omega)
  have hKb : BlkIs w3 w1.heap.size 150 K := hk2.below hb3 hk2.lt
  have hbe3 : Below w.heap.size w w3 := ((F.out.2.trans (hb1.mono (by omega))).trans (((Below.refl _ _).alloc (by omega) _).trans (grown_below hg2 (by omega) (by simp only [World.size_alloc]; omega)))).trans (hb3.mono (by have := hg2.size; simp only [World.size_alloc] at this; omega))
  obtain ⟨P, hP⟩ : ∃ P, P = s.data.toList ++ padTail s.size := ⟨_, rfl⟩
  rw [← hP] at hsl3
  have hPn : P.length = n := by have := hsl3.1; rw [bcells_length] at this; omega
  have hsz : s.data.toList.length = s.size := rfl
  have hmod : n % 64 = 0 := by rw [← hPn, hP, List.length_append, hsz]; exact pad_mod s.size
  have hnb : n ≤ 140737488355328 := by
    rw [← hPn, hP, List.length_append, hsz, padTail_length]; have := zeros_le s.size; omega
  have hsl4 : SlIs w3 w.heap.size 5 1 (.slice ao n cap) n (bcells P) := hsl3.mono (by have := hg2.size; simp only [World.size_alloc] at this; omega)
  obtain ⟨ao', cap', hv', hnc, hcm, _⟩ := hsl4.form
  injection hv' with e1 _ e3
  subst e1 e3
  have H3 := Lib.hid (And.intro hB (And.intro hKb (And.intro hbe3 (And.intro hsl4 (And.intro hP (And.intro hPn hsz))))))
  have hmx : cap ≤ 9223372036854775807 := hcm
  clear hB hKb hbe3 hsl3 hsl4 hP hPn hsz hb1 hg2 hb3 hk2 hcm
  go_loopw [6] (fun i wr => ∃ (q f : Nat) (z : St), q ≤ n ∧ q % 64 = 0 ∧ i = .int .i64 q ∧ (P.drop q).length ≤ f ∧ absorb f z (P.drop q) = absorb P.length H0 P ∧ z.isW ∧ BlkIs wr w.heap.size 149 (nums .u32 z.cells) ∧ w3.grownBy wr (some w.heap.size)) (fun i _ => n - (intOf i).toNat)
  case atStart => exact ⟨0, P.length, H0, by omega, by omega, rfl, by simp, by rw [List.drop_zero], H0_isW, H3.out.1, World.grownBy.refl _ _⟩
  case round =>
    obtain ⟨q, f, z, hq, hqm, rfl, hf, habs, hzw, hblk, hgr⟩ := hrel
    have hni : (n : Int) ≤ 140737488355328 := by omega
    by_cases hlt : q < n
    · have h1 : (q : Int) < (n : Int) := by omega
      have hq64 : q + 64 ≤ n := by omega
      have hPn := H3.out.2.2.2.2.2.1
      have hsl : SlIs wr w.heap.size 5 1 (.slice ao n cap) n (bcells P) := H3.out.2.2.2.1.kept hgr (.inr (H3.out.2.2.2.1.ne_blk H3.out.1 (by decide)))
      obtain ⟨b, off, cap3, hv3, hbB, hbw, hnc3, hcm3, hcell, hfree⟩ := hsl.at_ (by omega)
      injection hv3 with e1 _ e3
      subst e1 e3
      have hKw : BlkIs wr w1.heap.size 150 K := H3.out.2.1.grown hgr (by intro e; injection e; omega)
      have hzx : ∀ w', (∃ x : LaterOf wr, w' = x.w) → BlkIs w' w.heap.size 149 (nums .u32 z.cells) := fun w' ⟨x, hx⟩ => hx ▸ x.blk hblk
      have hkx : ∀ w', (∃ x : LaterOf wr, w' = x.w) → BlkIs w' w1.heap.size 150 K := fun w' ⟨x, hx⟩ => hx ▸ x.blk hKw
      have hi8 : (Tryz.prog.info? 149).map (·.size) = some (nums .u32 z.cells).size := by kernel_rfl
      have hcall : ∀ x : LaterOf wr, Calls Tryz.prog 144 #[.agg (nums .u32 z.cells), .slice (some ⟨b, off + q, none⟩) 64 (cap - q), .agg K] x.w fun e w' => e = .returned (.agg (nums .u32 (mix z (ib ((P.drop q).take 64))).cells)) ∧ Below x.w.heap.size x.w w' := fun x => by
        rw [HK.out.1]
        refine block_len z b (off + q) (cap - q) _ x.w (ib ((P.drop q).take 64)) (by omega) hzw (by rw [ib_length, List.length_take, List.length_drop]; omega) (by have := x.h.size; omega) (ib_isB _) fun j hj => ?_
        rw [x.h.cell (p := ⟨b, off + q + j, none⟩) hbw, Nat.add_assoc, hcell (q + j) (by rw [bcells_length]; omega)]
        simp only [bcells, ib, List.getD, List.getElem?_map, List.getElem?_take, if_pos hj, List.getElem?_drop]
        rw [List.getElem?_eq_getElem (by omega)]; rfl
      have H4 := Lib.hid (And.intro hzx (And.intro hkx (And.intro hi8 (And.intro hcall (And.intro habs (And.intro hgr (And.intro hblk (And.intro hf hPn))))))))
      clear hzx hkx hi8 hcall habs hgr hblk hf hPn hcell hfree hKw hsl
      have e1 : IntKind.i64.wrap ((q : Int) + 64) = (q : Int) + 64 := IntWalk.i64_in _ (by omega)
      have n1 : ((q : Int) + 64).toNat = q + 64 := by omega
      have g1 : (0 : Int) ≤ (q : Int) + 64 := by omega
      have g2 : (q : Int) ≤ (q : Int) + 64 := by omega
      have g3 : (q : Int) + 64 ≤ (cap : Int) := by omega
      have g4 : ¬ cap = q := by omega
      go_upto_region 7 with (fail)
      refine wp_region_heads (fun w' => ∃ x : LaterOf wr, w' = x.w) 8 (by kernel_rfl) (by kernel_rfl) ⟨LaterOf.start wr, rfl⟩ ?_
      simp only [List.take_succ_cons, List.take_zero, List.drop_succ_cons, List.drop_zero]
      repeat (first
        | (go_big_quiet_want; refine quiet_load_row 149 _ rfl w.heap.size (by rfl) 149 (nums .u32 z.cells) _ H4.out.1 Tryz.underlying149 rfl H4.out.2.2.1 ?_; simp only [Act.put, List.setIfInBounds_toArray, List.set_cons_zero, List.set_cons_succ]; go_big_quiet_on)
        | (go_big_quiet_want; refine quiet_load_row 150 _ rfl w1.heap.size (by rfl) 150 K _ H4.out.2.1 Tryz.underlying150 rfl HK.out.2.2.2.1 ?_; simp only [Act.put, List.setIfInBounds_toArray, List.set_cons_zero, List.set_cons_succ]; go_big_quiet_on)
        | go_big_quiet_step (exact LaterOf.call _ (H4.out.2.2.2.1 _)))
      refine wpQuiet_nil ?_
      intro w5 hw5
      obtain ⟨x, rfl⟩ := hw5
      have hb5 := x.blk H4.out.2.2.2.2.2.2.1
      have hx5 := x.h
      generalize x.w = w5 at hb5 hx5 ⊢
      have hi9 : (Tryz.prog.info? 149).map (·.size) = some (nums .u32 (mix z (ib ((P.drop q).take 64))).cells).size := by kernel_rfl
      have H5 := Lib.hid (And.intro hb5 (And.intro hx5 hi9))
      clear hb5 hx5 hi9
      go_wp2_with (refine wpList_store_row_to rfl 149 _ _ rfl w.heap.size (nums .u32 (mix z (ib ((P.drop q).take 64))).cells) (by rfl) (by rfl) 149 _ H5.out.1 H5.out.2.2 rfl (nums_one _ _) ?_; intro w6 hb6 hg6)
      go_roundw
      case rel =>
        have hPn := H4.out.2.2.2.2.2.2.2.2
        have hf := H4.out.2.2.2.2.2.2.2.1
        rw [List.length_drop] at hf
        have hq1 : 64 ≤ (P.drop q).length := by rw [List.length_drop]; omega
        have hd : (P.drop q).drop 64 = P.drop (q + 64) := by rw [List.drop_drop]
        refine ⟨q + 64, f - 1, mix z (ib ((P.drop q).take 64)), by omega, by omega, by go_num, by rw [List.length_drop]; omega, ?_, mix_isW _ _, hb6, ?_⟩
        · rw [← H4.out.2.2.2.2.1, show f = (f - 1) + 1 by omega, absorb_step _ _ _ hq1, hd]; rfl
        · have hg := H4.out.2.2.2.2.2.1
          have hx5 := H5.out.2.1
          refine ⟨hg6.os.trans (hx5.os.trans hg.os), hg6.tape.trans (hx5.tape.trans hg.tape), hg6.output.trans (hx5.output.trans hg.output), Nat.le_trans hg.size (Nat.le_trans hx5.size hg6.size), fun k hk hne => ?_⟩
          have hkw : k < wr.heap.size := Nat.lt_of_lt_of_le hk hg.size
          rw [hg6.block k (Nat.lt_of_lt_of_le hkw hx5.size) hne, hx5.block k hkw, hg.block k hk hne]
      case measure => simp [intOf]; omega
    · have h1 : ¬ (q : Int) < (n : Int) := by omega
      have hPn := H3.out.2.2.2.2.2.1
      have hfin : (absorb P.length H0 P).1 = z := by
        rw [← habs, List.drop_eq_nil_of_le (by omega), absorb_small _ _ _ (by simp)]
      have hbe : Below w.heap.size w wr := H3.out.2.2.1.trans (grown_below hgr (Nat.le_refl _) (by have := H3.out.1.lt; omega))
      have H4 := Lib.hid (And.intro hblk (And.intro hzw (And.intro hfin hbe)))
      clear hblk hzw hfin hbe hgr habs
      go_wp2
      obtain ⟨wv, rfl⟩ : ∃ wv : World, wv = wr := ⟨_, rfl⟩
      clear h1 hlt
      go_loopw [7, 8] (fun b i wr => ∃ (j : Nat) (ao : Option Addr) (cap : Nat), j ≤ 8 ∧ i = .int .i64 j ∧ b = .slice ao (4 * j) cap ∧ SlIs wr w.heap.size 5 1 (.slice ao (4 * j) cap) (4 * j) (bcells (out (z.cells.take j))) ∧ BlkIs wr w.heap.size 149 (nums .u32 z.cells) ∧ Below w.heap.size w wr) (fun _ i _ => 8 - (intOf i).toNat)
      case atStart => exact ⟨0, _, _, by omega, rfl, rfl, SlIs.made (BlkIs.new _ _ _) (by have := H4.out.1.lt; omega) rfl (by decide), H4.out.1.alloc _, H4.out.2.2.2.alloc H4.out.2.2.2.size _⟩
      case round =>
        obtain ⟨j, ao2, cap2, hj, rfl, rfl, hsl, hblk, hbe⟩ := hrel
        have hbw := hbe.size
        by_cases hlt : j < 8
        · have h1 : (j : Int) < 8 := by omega
          obtain ⟨x, hx⟩ : ∃ x, x = z.cells.getD j 0 := ⟨_, rfl⟩
          have hxw : isW x := by
            obtain ⟨g1, g2, g3, g4, g5, g6, g7, g8⟩ := H4.out.2.1
            rw [hx]
            exact getD_all (p := isW) ⟨by decide, by decide⟩ _ (by
              intro x hx
              simp only [St.cells, List.mem_cons, List.not_mem_nil, or_false] at hx
              rcases hx with rfl | rfl | rfl | rfl | rfl | rfl | rfl | rfl <;> assumption) j
          have hcx : wr.cell? ⟨w.heap.size, j, none⟩ = some (.int .u32 x) := by rw [hblk.cell, nums_get _ _ _ hlt, hx]
          have hx0 := hxw.1
          have hne := hsl.ne_blk hblk (by decide)
          have H5 := Lib.hid (And.intro hsl (And.intro hblk (And.intro hbe (And.intro hx (And.intro hxw hne)))))
          clear hsl hblk hbe hx hxw hne
          go_upto_region 12 with (fail)
          go_region_held3 (fun w' => w'.cell? ⟨w.heap.size, j, none⟩ = some (.int .u32 x))
            (first | go_keep | exact q0)
            ((refine step_append_sl rfl _ _ _ 43 (by rfl) el_u8 (base := w.heap.size) (.slice ao2 (4 * j) cap2) (4 * j) (bcells (out (z.cells.take j))) (by rfl) (by first | exact (H5.out.1.alloc _).drew | exact H5.out.1.drew.alloc _) _ 4 (bcells (out4 x)) (by rfl) (by rw [out4_cells x H5.out.2.2.2.2.1]; exact SrcIs.own Tryz.underlying43 (SlIs.made (base := 0) (by first | exact (BlkIs.new _ _ _).drew | exact BlkIs.new _ _ _) (Nat.zero_le _) rfl (by decide))) (bcells_one _) (by unfold maxLen; omega) (by omega) (by simp; omega) ?_; intro v1 w5 hs1 hg1 hat1
              obtain ⟨ao3, cap3, rfl, hnc3, hcm3, hao3⟩ := hs1.form
              have hb5 : BlkIs w5 w.heap.size 149 (nums .u32 z.cells) := by first | exact ((H5.out.2.1.alloc _).drew).grown hg1 (Ne.symm H5.out.2.2.2.2.2) | exact (H5.out.2.1.drew.alloc _).grown hg1 (Ne.symm H5.out.2.2.2.2.2)
              have q0 : w5.cell? ⟨w.heap.size, j, none⟩ = some (.int .u32 x) := by rw [hb5.cell, nums_get _ _ _ hlt, H5.out.2.2.2.1]
              have hbe5 : Below w.heap.size w w5 := by
                first
                  | exact ((H5.out.2.2.1.alloc hbw _).drew).grown hg1 (by simp; omega) fun k hk => (H5.out.1.lt k hk).1
                  | exact ((H5.out.2.2.1.drew).alloc (by simp; omega) _).grown hg1 (by simp; omega) fun k hk => (H5.out.1.lt k hk).1
              have hs2 : SlIs w5 w.heap.size 5 1 (.slice ao3 (4 * j + 4) cap3) (4 * j + 4) (bcells (out (z.cells.take (j + 1)))) := by
                rw [out_snoc z.cells j hlt, ← H5.out.2.2.2.1, ← bcells_append]; exact hs1
              have H6 := Lib.hid (And.intro hs2 (And.intro hb5 hbe5))
              clear hs1 hg1 hat1 hao3 hs2 hb5 hbe5))
          go_wp2
          go_roundw
          case rel => exact ⟨j + 1, ao3, cap3, by omega, by go_num, by rw [show 4 * (j + 1) = 4 * j + 4 by omega], H6.out.1, H6.out.2.1, H6.out.2.2⟩
          case measure => simp [intOf]; omega
        · obtain rfl : j = 8 := by omega
          have hconv := hsl.text (P := Tryz.prog) (dst := 9) Tryz.underlying43 Tryz.underlying5 Tryz.underlying9
          have H5 := Lib.hid hbe
          clear hsl hblk hbe
          go_wp2
          go_ret
          refine ⟨?_, H5.out⟩
          rw [sum_whole, H3.out.2.2.2.2.2.2, ← H3.out.2.2.2.2.1, H4.out.2.2.1]
          rfl
end Go.Proofs.YtljenganlknhbaaGreat.Sha

