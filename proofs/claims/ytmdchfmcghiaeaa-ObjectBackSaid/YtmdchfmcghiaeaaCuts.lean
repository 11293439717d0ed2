/- The law ObjectCuts answers true: an object's bytes but a blob's, cut off or with more behind them, are none's. No conditions but the form's reach. -/
import Derived.Test.YtmdchfmcghiaeaaEncSize
import Derived.Test.YtmdchfmcghiaeaaGreat
import Derived.Test.YtmdchfmcghiaeaaDecodeAll
import Derived.Test.YtmdchfmcghiaeaaHeight
namespace Go.Proofs.Ytmdchfmcghiaeaa.Obj
open Go.RowKit
/-- The object's block, seven cells. -/
abbrev objCells (o : Plain) (es ps : Value) : Array Value := #[.int .i64 o.k, .string o.d, es, .string o.t, ps, .int .i64 o.h, .string o.n]
theorem dec_none_out (s : ByteArray) (w : World) (hs : (s.size : Int) ≤ 262144) (hd : dec s = none) :
    Calls Try.prog 20 #[.string s] w fun e w' => (∃ ao c1 ap c2, e = .returned (.tuple #[.agg #[.int .i64 none_.k, .string none_.d, .slice ao 0 c1, .string none_.t, .slice ap 0 c2, .int .i64 none_.h, .string none_.n], .int .i64 4])) ∧ Below w.heap.size w w' := by
  refine (decode_any s w hs).mono ?_
  rintro e w' ⟨⟨es, ps, h1, h2, he⟩, hb⟩
  rw [hd] at he h1 h2
  obtain ⟨ao, c1, rfl, -⟩ := h1
  obtain ⟨ap, c2, rfl, -⟩ := h2
  exact ⟨⟨ao, c1, ap, c2, he⟩, hb⟩
set_option maxRecDepth 100000 in
set_option maxHeartbeats 1000000 in
theorem cuts_law (o : Plain) (es ps : Value) (c : Int) (m : ByteArray) (w : World) (he : EntsV w es o) (hp : StrsC w ps o) (hm : m.size ≤ 140737488351232) :
    Calls Try.prog 9 #[obj o.k o.d es o.t ps o.h o.n, .int .i64 c, .string m] w fun e w' => e = .returned (.bool true) ∧ Below w.heap.size w w' := by
  have A := Lib.hid awake
  have G := Lib.hid (great_any o es ps)
  have E := Lib.hid (fun w he hp hn => encode_any o es ps w he hp hn)
  have hb := (Below.refl w.heap.size w).alloc (Nat.le_refl _) (.cells (objCells o es ps) 34)
  have k1 := BlkIs.new w 34 (objCells o es ps)
  have H0 := Lib.hid (And.intro k1 (And.intro (he.later hb) (And.intro (hp.later hb) hb)))
  obtain ⟨S, hS⟩ : ∃ S, S = enc o := ⟨_, rfl⟩
  obtain ⟨q, hq⟩ : ∃ q : Int, q = (if o.good then 0 else 1) := ⟨_, rfl⟩
  rw [← hS, ← hq] at E
  have hmain : o.good = true → o.k ≠ 1 → 0 < m.size → m.size ≤ 1000 → 0 < S.size ∧ S.size ≤ 80000 ∧
      (∀ n, n < S.size → ∀ w, Calls Try.prog 20 #[.string (S.extract 0 n)] w fun e w' => (∃ ao c1 ap c2, e = .returned (.tuple #[.agg #[.int .i64 none_.k, .string none_.d, .slice ao 0 c1, .string none_.t, .slice ap 0 c2, .int .i64 none_.h, .string none_.n], .int .i64 4])) ∧ Below w.heap.size w w') ∧
      (∀ w, Calls Try.prog 20 #[.string (S ++ m)] w fun e w' => (∃ ao c1 ap c2, e = .returned (.tuple #[.agg #[.int .i64 none_.k, .string none_.d, .slice ao 0 c1, .string none_.t, .slice ap 0 c2, .int .i64 none_.h, .string none_.n], .int .i64 4])) ∧ Below w.heap.size w w') := by
    intro hg hk h0 h1
    have hz := enc_size o hg
    have hf := (enc_first o hg ⟨#[]⟩).2.2
    rw [← hS] at hz hf
    refine ⟨hf, hz, fun n hn w => ?_, fun w => ?_⟩
    · have he : S = S.extract 0 n ++ S.extract n S.size := by
        rw [ByteArray.extract_append_extract]
        simp
      have h1 : (S.extract 0 n).size = n := by rw [ByteArray.size_extract]; omega
      have h2 : (S.extract n S.size).size = S.size - n := by rw [ByteArray.size_extract]; omega
      exact dec_none_out _ w (by omega) (dec_cut o hg hk _ _ (by rw [← hS]; exact he) (by omega))
    · have h2 : (S ++ m).size = S.size + m.size := ByteArray.size_append
      exact dec_none_out _ w (by omega) (by rw [hS]; exact dec_more o hg hk m h0)
  have hqg : (q = 0 ∧ o.good = true) ∨ q = 1 := by
    cases hg : o.good
    · rw [hg] at hq; right; simpa using hq
    · rw [hg] at hq; left; exact ⟨by simpa using hq, rfl⟩
  have hne := Path.empty_iff m
  have HM := Lib.hid hmain
  clear hb k1 he hp hS hq hmain
  have HQ := Lib.hid hqg
  clear hqg
  unfold obj at G E ⊢
  go_enter Try.func9, Try.ntmps9
  go_wp2_with fail
  refine (A.out _).mono ?_
  rintro e w1 ⟨rfl, hb1⟩
  have H1 := Lib.hid (And.intro (H0.out.1.below hb1 H0.out.1.lt) (And.intro (H0.out.2.1.later hb1) (And.intro (H0.out.2.2.1.later hb1) (H0.out.2.2.2.trans (hb1.mono H0.out.2.2.2.size)))))
  clear H0 hb1 A
  have c0 : w1.cell? ⟨w.heap.size, 0, none⟩ = some (.int .i64 o.k) := H1.out.1.cell 0
  have c1 : w1.cell? ⟨w.heap.size, 1, none⟩ = some (.string o.d) := H1.out.1.cell 1
  have c2 : w1.cell? ⟨w.heap.size, 2, none⟩ = some es := H1.out.1.cell 2
  have c3 : w1.cell? ⟨w.heap.size, 3, none⟩ = some (.string o.t) := H1.out.1.cell 3
  have c4 : w1.cell? ⟨w.heap.size, 4, none⟩ = some ps := H1.out.1.cell 4
  have c5 : w1.cell? ⟨w.heap.size, 5, none⟩ = some (.int .i64 o.h) := H1.out.1.cell 5
  have c6 : w1.cell? ⟨w.heap.size, 6, none⟩ = some (.string o.n) := H1.out.1.cell 6
  go_wp2_with fail
  refine (G.out _ H1.out.2.1 H1.out.2.2.1).mono ?_
  rintro e w2 ⟨⟨g, rfl, hg⟩, hb2⟩
  have H2 := Lib.hid (And.intro (H1.out.1.below hb2 H1.out.1.lt) (And.intro (H1.out.2.1.later hb2) (And.intro (H1.out.2.2.1.later hb2) (H1.out.2.2.2.trans (hb2.mono H1.out.2.2.2.size)))))
  clear H1 hb2 G c0 c1 c2 c3 c4 c5 c6
  cases g
  case true =>
    clear hg
    go_wp2_with fail
    go_ret
    exact ⟨rfl, H2.out.2.2.2⟩
  have hn : o.ne ≤ 1000000 := by have := (hg rfl).1; omega
  have hn := Lib.hid hn
  clear hg
  have c0 : w2.cell? ⟨w.heap.size, 0, none⟩ = some (.int .i64 o.k) := H2.out.1.cell 0
  have c1 : w2.cell? ⟨w.heap.size, 1, none⟩ = some (.string o.d) := H2.out.1.cell 1
  have c2 : w2.cell? ⟨w.heap.size, 2, none⟩ = some es := H2.out.1.cell 2
  have c3 : w2.cell? ⟨w.heap.size, 3, none⟩ = some (.string o.t) := H2.out.1.cell 3
  have c4 : w2.cell? ⟨w.heap.size, 4, none⟩ = some ps := H2.out.1.cell 4
  have c5 : w2.cell? ⟨w.heap.size, 5, none⟩ = some (.int .i64 o.h) := H2.out.1.cell 5
  have c6 : w2.cell? ⟨w.heap.size, 6, none⟩ = some (.string o.n) := H2.out.1.cell 6
  go_wp2_with fail
  refine (E.out _ H2.out.2.1 H2.out.2.2.1 hn.out).mono ?_
  rintro e w3 ⟨rfl, hb3⟩
  have H3 := Lib.hid (And.intro (H2.out.1.below hb3 H2.out.1.lt) (H2.out.2.2.2.trans (hb3.mono H2.out.2.2.2.size)))
  clear H2 hb3 E c0 c1 c2 c3 c4 c5 c6
  rcases HQ.out with ⟨rfl, hgood⟩ | rfl
  case inr =>
    go_wp2_with fail
    go_ret
    exact ⟨rfl, H3.out.2⟩
  have c0 : w3.cell? ⟨w.heap.size, 0, none⟩ = some (.int .i64 o.k) := H3.out.1.cell 0
  have Hg := Lib.hid hgood
  clear HQ hgood
  by_cases hk : o.k = 1
  case pos =>
    go_wp2_with fail
    go_ret
    exact ⟨rfl, H3.out.2⟩
  by_cases h0 : m.size = 0
  case pos =>
    have hne' : (m.toList == []) = true := by rw [hne]; exact decide_eq_true (by omega)
    clear hne
    go_wp2_with fail
    go_ret
    exact ⟨rfl, H3.out.2⟩
  have hne' : (m.toList == []) = false := by rw [hne]; exact decide_eq_false (by omega)
  clear hne
  by_cases h1000 : 1000 < (m.size : Int)
  case pos =>
    go_wp2_with fail
    go_ret
    exact ⟨rfl, H3.out.2⟩
  obtain ⟨z0, z1, D1, D2⟩ := HM.out Hg.out hk (by omega) (by omega)
  have D1 := Lib.hid D1
  have D2 := Lib.hid D2
  have hH3 := Lib.hid H3.out.2
  clear HM Hg
  obtain ⟨u, hu, hu1⟩ : ∃ u : Nat, IntKind.u64.wrap c = (u : Int) ∧ u < 18446744073709551616 := by
    refine ⟨(IntKind.u64.wrap c).toNat, ?_, ?_⟩
    · rw [IntKind.wrap_u64]; omega
    · rw [IntKind.wrap_u64]; omega
  obtain ⟨v, hv, hv1⟩ : ∃ v : Nat, (u : Int) % (S.size : Int) = (v : Int) ∧ v < S.size := ⟨u % S.size, by omega, Nat.mod_lt _ z0⟩
  have hwv : wrap64 (v : Int) = (v : Int) := by unfold wrap64; omega
  have hvi : (v : Int) ≤ S.size := by omega
  have hk' : (o.k == 1) = false := by simpa using hk
  have D1 := Lib.hid (D1.out v hv1)
  have hS1 : ¬ (9223372036854775807 < S.size + m.size) := by omega
  go_wp2_with fail
  refine (D1.out _).mono ?_
  rintro e w4 ⟨⟨ao, cap, ap, cp, rfl⟩, hb4⟩
  have hH4 := Lib.hid (hH3.out.trans (hb4.mono hH3.out.size))
  clear hb4 D1 hH3 c0
  have hz4 := hH4.out.size
  have hal := Lib.hid (hH4.out.alloc hz4 (.cells #[.int .i64 none_.k, .string none_.d, .slice ao 0 cap, .string none_.t, .slice ap 0 cp, .int .i64 none_.h, .string none_.n] 34))
  go_wp2_with fail
  refine (D2.out _).mono ?_
  rintro e w5 ⟨⟨bo, bap, bp, bcp, rfl⟩, hb5⟩
  have hH5 := hal.out.trans (hb5.mono hal.out.size)
  clear hb5 D2 hal
  have hz5 := hH5.size
  have hal := Lib.hid (hH5.alloc hz5 (.cells #[.int .i64 none_.k, .string none_.d, .slice bo 0 bap, .string none_.t, .slice bp 0 bcp, .int .i64 none_.h, .string none_.n] 34))
  clear hH5
  go_wp2_with fail
  go_ret
  exact ⟨rfl, hal.out⟩
end Go.Proofs.Ytmdchfmcghiaeaa.Obj
