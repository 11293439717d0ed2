/- The reference's num, fan and Same (pack), walked. (Layer 07.) -/
import Derived.Test.YtabgpleiobpeoaaPack5
import Derived.Test.YtabgpleiobpeoaaRefRd
namespace Go.Proofs.Ytabgpleiobpeoaa.Pak
set_option linter.unusedVariables false
open Go.RowKit Go.Sort Go.Lib
open Oct (le32 val takeR Rd Moved RRd)
set_option maxRecDepth 100000 in
theorem rnum_any (s : ByteArray) (k : Nat) (w : World) (h : k + 4 ≤ s.size) (hs : s.size ≤ 140737488355328) :
    Calls Try.prog 33 #[.string s, .int .i64 (k : Int)] w fun e w' => e = .returned (.int .i64 ((nAt s.data.toList k : Nat) : Int)) ∧ Below w.heap.size w w' := by
  have k1 : (k : Int) + 4 ≤ s.size := by omega
  go_enter Try.func33, Try.ntmps33
  go_wp2_with fail
  have z : (s.extract k (k + 4)).size = 4 := by rw [ByteArray.size_extract]; omega
  have hv : val (takeR (s.extract k (k + 4)) false 4).1.data.toList = nAt s.data.toList k := by
    rw [show (4 : Int) = ((4 : Nat) : Int) from rfl, takeR_all _ 4 z, ext_list, Nat.add_sub_cancel_left]
    rfl
  generalize s.extract k (k + 4) = r at *
  refine (Oct.rrd_new r w (by rw [z]; decide)).mono ?_
  rintro e w1 ⟨rfl, h1, hb1⟩
  have H1 := Lib.hid hb1
  have R := Lib.hid (Oct.rrd_num _ r false w1 h1)
  rw [hv] at R
  have hlt : nAt s.data.toList k < 4294967296 := by rw [← hv]; exact Oct.val_takeR _ _
  obtain ⟨n, hn⟩ : ∃ n, n = nAt s.data.toList k := ⟨_, rfl⟩
  rw [← hn] at R hlt
  have HN := Lib.hid hn
  clear hn
  clear hb1 h1 hv z
  go_wp2_with fail
  refine R.out.mono ?_
  rintro e w2 ⟨rfl, _, hm⟩
  have H2 := Lib.hid (H1.out.trans (hm.below H1.out.size))
  clear hm R
  have hmod : wrap64 (n : Int) = n := by unfold wrap64; omega
  go_wp2_with fail
  go_ret
  exact ⟨by rw [← HN.out]; rfl, H2.out⟩
theorem fan_take (L : List It) (n k : Nat) (h : k < L.length) : fanN ((L.take (k + 1)).map (·.1)) n = fanN ((L.take k).map (·.1)) n + if first L[k].1 ≤ n then 1 else 0 := by
  rw [List.take_succ_eq_append_getElem h, List.map_append]
  unfold fanN
  rw [List.countP_append]
  simp [List.countP_cons]
set_option maxRecDepth 100000 in
theorem rfan_any (ao : Option Addr) (cap : Nat) (L : List It) (n : Nat) (w : World) (h : ItemsAt w ao L) (h0 : ∀ x ∈ L, 0 < x.1.size) (hn : n < 256) (hl : L.length ≤ 1000000) :
    Calls Try.prog 51 #[.slice ao L.length cap, .int .i64 (n : Int)] w fun e w' => e = .returned (.int .i64 ((fanN (L.map (·.1)) n : Nat) : Int)) ∧ w = w' := by
  have HI := Lib.hid h
  have H0 := Lib.hid h0
  clear h h0
  go_enter Try.func51, Try.ntmps51
  go_wp2_with fail
  go_loopw [5, 6] (fun c i wr => ∃ k : Nat, i = .int .i64 (k : Int) ∧ k ≤ L.length ∧ c = .int .i64 ((fanN ((L.take k).map (·.1)) n : Nat) : Int) ∧ w = wr) (fun _ i _ => ((L.length : Int) - intOf i).toNat)
  case atStart => exact ⟨0, rfl, by omega, rfl, rfl⟩
  case round =>
    obtain ⟨k, rfl, hk, rfl, rfl⟩ := hrel
    obtain ⟨c, hc⟩ : ∃ c, c = fanN ((L.take k).map (·.1)) n := ⟨_, rfl⟩
    have hcl : c ≤ L.length := by
      rw [hc]
      have := fanN_le ((L.take k).map (·.1)) n
      rw [List.length_map, List.length_take] at this
      omega
    rcases Nat.lt_or_ge k L.length with hk1 | hk1
    · obtain ⟨b, off, rfl, hlt, hcell⟩ := HI.out.2 (by omega)
      obtain ⟨c0, _⟩ := hcell k hk1
      have hst := fan_take L n k hk1
      have hs0 := H0.out _ (List.getElem_mem hk1)
      obtain ⟨y, hy⟩ : ∃ y, y = L[k].1 := ⟨_, rfl⟩
      rw [← hy] at c0 hs0 hst
      rw [first_at hs0, ← hc] at hst
      rw [← hc]
      have ki : (k : Int) < L.length := by omega
      have hw64 := wrap_byte y[0]
      by_cases hf : y[0].toNat ≤ n
      · have hle : decide (wrap64 (y[0].toNat : Int) ≤ n) = true := decide_eq_true (by rw [hw64]; omega)
        rw [if_pos hf] at hst
        have HS := Lib.hid hst
        clear hw64 hcell hy hst hf hc
        go_wp2_with fail
        refine ⟨⟨k + 1, rfl, hk1, by rw [HS.out]; rfl, by trivial⟩, ?_⟩
        simp [intOf]
        omega
      · have hle : decide (wrap64 (y[0].toNat : Int) ≤ n) = false := decide_eq_false (by rw [hw64]; omega)
        rw [if_neg hf] at hst
        have HS := Lib.hid hst
        clear hw64 hcell hy hst hf hc
        go_wp2_with fail
        refine ⟨⟨k + 1, rfl, hk1, by rw [HS.out]; rfl, by trivial⟩, ?_⟩
        simp [intOf]
        omega
    · have ki : (L.length : Int) ≤ (k : Int) := by omega
      obtain rfl : k = L.length := by omega
      rw [← hc]
      have HC := Lib.hid hc
      clear hc
      go_wp2_with fail
      go_ret
      exact ⟨by rw [HC.out, List.take_length]; rfl, rfl⟩
set_option maxRecDepth 100000 in
theorem rsame_any (ao1 ao2 : Option Addr) (cap1 cap2 : Nat) (L : List It) (w : World) (h1 : ItemsAt w ao1 L) (h2 : ItemsAt w ao2 L) :
    Calls Try.prog 15 #[.slice ao1 L.length cap1, .slice ao2 L.length cap2] w fun e w' => e = .returned (.bool true) ∧ Below w.heap.size w w' := by
  have HI := Lib.hid (And.intro h1 h2)
  have hl := h1.1
  clear h1 h2
  go_enter Try.func15, Try.ntmps15
  go_wp2_with fail
  go_loopw [5] (fun i wr => ∃ k : Nat, i = .int .i64 (k : Int) ∧ k ≤ L.length ∧ Hid (Below w.heap.size w wr)) (fun i _ => ((L.length : Int) - intOf i).toNat)
  case atStart => exact ⟨0, rfl, by omega, Lib.hid (Below.refl _ _)⟩
  case round =>
    obtain ⟨k, rfl, hk, HR⟩ := hrel
    rcases Nat.lt_or_ge k L.length with hk1 | hk1
    · obtain ⟨b1, off1, rfl, hlt1, hcell1⟩ := HI.out.1.2 (by omega)
      obtain ⟨b2, off2, rfl, hlt2, hcell2⟩ := HI.out.2.2 (by omega)
      obtain ⟨c0, c1⟩ := hcell1 k hk1
      obtain ⟨e0, e1⟩ := hcell2 k hk1
      rw [← HR.out.cell hlt1] at c0 c1
      rw [← HR.out.cell hlt2] at e0 e1
      obtain ⟨x, hx⟩ : ∃ x, x = L[k] := ⟨_, rfl⟩
      rw [← hx] at c0 c1 e0 e1
      have ki : (k : Int) < L.length := by omega
      clear hcell1 hcell2 hx
      go_wp2_with fail
      go_quiet (fail)
      go_wp2_with fail
      refine ⟨⟨k + 1, rfl, hk1, Lib.hid (below_drewN HR.out _)⟩, ?_⟩
      simp [intOf]
      omega
    · have ki : (L.length : Int) ≤ (k : Int) := by omega
      go_wp2_with fail
      go_ret
      exact ⟨rfl, HR.out⟩
end Go.Proofs.Ytabgpleiobpeoaa.Pak
