/- The law ObjectReads answers true: the program's Decode and Id are the reference's. No conditions but the form's reach. -/
import Derived.Test.YtmdchfmcghiaeaaDecodeAll
import Derived.Test.YtmdchfmcghiaeaaRefDecode
import Derived.Test.YtmdchfmcghiaeaaRefSame
import Derived.Test.YtmdchfmcghiaeaaHeight
import Derived.Test.YtmdchfmcghiaeaaShaRef4
namespace Go.Proofs.Ytmdchfmcghiaeaa.Obj
open Go.RowKit
theorem ref_id_any (s : ByteArray) (w : World) (hs : s.size ≤ 140737488351232) : Calls Try.prog 24 #[.string s] w fun e w' => e = .returned (.string ⟨(Sha.sum s.data.toList).toArray⟩) ∧ Below w.heap.size w w' := by
  have H := Lib.hid (Sha.refsum_any s w (by omega))
  go_enter Try.func24, Try.ntmps24
  go_wp2_with fail
  refine H.out.mono ?_
  rintro e w1 ⟨rfl, hb1⟩
  go_wp2_with fail
  go_ret
  exact ⟨rfl, hb1⟩
set_option maxRecDepth 100000 in
set_option maxHeartbeats 1000000 in
theorem reads_law (s : ByteArray) (w : World) (hs : s.size ≤ 140737488351232) :
    Calls Try.prog 6 #[.string s] w fun e w' => e = .returned (.bool true) ∧ Below w.heap.size w w' := by
  have A := Lib.hid (awake w)
  obtain ⟨S, hS⟩ : ∃ S : ByteArray, S = ⟨(Sha.sum s.data.toList).toArray⟩ := ⟨_, rfl⟩
  have I1 := fun w => id_any s w (by omega)
  have I2 := fun w => ref_id_any s w hs
  rw [← hS] at I1 I2
  have I1 := Lib.hid I1
  have I2 := Lib.hid I2
  have hself : (S.toList == S.toList) = true := by simp
  by_cases hbig : 262144 < (s.size : Int)
  case pos =>
    clear I1 I2 hself hS
    go_enter Try.func6, Try.ntmps6
    go_wp2_with fail
    refine A.out.mono ?_
    rintro e w1 ⟨rfl, hb1⟩
    go_wp2_with fail
    go_ret
    exact ⟨rfl, hb1⟩
  have hsi : (s.size : Int) ≤ 262144 := by omega
  obtain ⟨o, ho⟩ : ∃ o, o = (dec s).getD none_ := ⟨_, rfl⟩
  obtain ⟨c, hc⟩ : ∃ c : Int, c = (if (dec s).isSome then 0 else 4) := ⟨_, rfl⟩
  have D1 : ∀ w, Calls Try.prog 20 #[.string s] w fun e w' => (∃ es ps, EntsV w' es o ∧ StrsV w' ps o ∧ e = .returned (.tuple #[.agg #[.int .i64 o.k, .string o.d, es, .string o.t, ps, .int .i64 o.h, .string o.n], .int .i64 c])) ∧ Below w.heap.size w w' := fun w => by
    have := decode_any s w hsi
    unfold DecOut obj at this
    rw [← ho, ← hc] at this
    exact this
  have D2 : ∀ w, Calls Try.prog 21 #[.string s] w fun e w' => (∃ es ps, EntsV w' es o ∧ StrsV w' ps o ∧ e = .returned (.tuple #[.agg #[.int .i64 o.k, .string o.d, es, .string o.t, ps, .int .i64 o.h, .string o.n], .int .i64 c])) ∧ Below w.heap.size w w' := fun w => by
    have := rdecode_any s w hsi
    unfold DecOut obj at this
    rw [← ho, ← hc] at this
    exact this
  have SM := fun (es ps es' ps' : Value) (w : World) he hp he' hp' => same_eq o es ps es' ps' w he hp he' hp'
  unfold obj at SM
  have D1 := Lib.hid D1
  have D2 := Lib.hid D2
  have SM := Lib.hid SM
  have hbg : decide (262144 < (s.size : Int)) = false := decide_eq_false hbig
  clear ho hc hS hbig
  go_enter Try.func6, Try.ntmps6
  go_wp2_with fail
  refine A.out.mono ?_
  rintro e w1 ⟨rfl, hb1⟩
  clear A
  go_wp2_with fail
  refine (D1.out w1).mono ?_
  rintro e w2 ⟨⟨es, ps, he, hp, rfl⟩, hb2⟩
  have hev := he
  have hpv := hp
  obtain ⟨ao, cap, rfl, -⟩ := he
  obtain ⟨ap, cp, rfl, -⟩ := hp
  have hb := hb1.trans (hb2.mono hb1.size)
  have hz2 := hb.size
  have bx := BlkIs.new w2 34 #[.int .i64 o.k, .string o.d, .slice ao o.ne cap, .string o.t, .slice ap o.np cp, .int .i64 o.h, .string o.n]
  have hba := hb.alloc hz2 (.cells #[.int .i64 o.k, .string o.d, .slice ao o.ne cap, .string o.t, .slice ap o.np cp, .int .i64 o.h, .string o.n] 34)
  have hl := (Below.refl w2.heap.size w2).alloc (Nat.le_refl _) (.cells #[.int .i64 o.k, .string o.d, .slice ao o.ne cap, .string o.t, .slice ap o.np cp, .int .i64 o.h, .string o.n] 34)
  have H2 := Lib.hid (And.intro (hev.later hl) (And.intro (hpv.later hl) (And.intro bx hba)))
  clear hev hpv hb1 hb2 hb bx hba hl D1
  go_wp2_with fail
  refine (D2.out _).mono ?_
  rintro e w3 ⟨⟨es', ps', he', hp', rfl⟩, hb3⟩
  have hev' := he'
  have hpv' := hp'
  obtain ⟨bo, bcap, rfl, -⟩ := he'
  obtain ⟨bp, bcp, rfl, -⟩ := hp'
  have bx := H2.out.2.2.1.below hb3 H2.out.2.2.1.lt
  have hb := H2.out.2.2.2.trans (hb3.mono H2.out.2.2.2.size)
  have hz3 := hb.size
  have hl := (Below.refl w3.heap.size w3).alloc (Nat.le_refl _) (.cells #[.int .i64 o.k, .string o.d, .slice bo o.ne bcap, .string o.t, .slice bp o.np bcp, .int .i64 o.h, .string o.n] 34)
  have hba := hb.alloc hz3 (.cells #[.int .i64 o.k, .string o.d, .slice bo o.ne bcap, .string o.t, .slice bp o.np bcp, .int .i64 o.h, .string o.n] 34)
  have hlx := bx.lt
  have c0 : w3.cell? ⟨w2.heap.size, 0, none⟩ = some (.int .i64 o.k) := bx.cell 0
  have c1 : w3.cell? ⟨w2.heap.size, 1, none⟩ = some (.string o.d) := bx.cell 1
  have c2 : w3.cell? ⟨w2.heap.size, 2, none⟩ = some (.slice ao o.ne cap) := bx.cell 2
  have c3 : w3.cell? ⟨w2.heap.size, 3, none⟩ = some (.string o.t) := bx.cell 3
  have c4 : w3.cell? ⟨w2.heap.size, 4, none⟩ = some (.slice ap o.np cp) := bx.cell 4
  have c5 : w3.cell? ⟨w2.heap.size, 5, none⟩ = some (.int .i64 o.h) := bx.cell 5
  have c6 : w3.cell? ⟨w2.heap.size, 6, none⟩ = some (.string o.n) := bx.cell 6
  have H3 := Lib.hid (And.intro ((H2.out.1.later hb3).later hl) (And.intro ((H2.out.2.1.later hb3).later hl) (And.intro (hev'.later hl) (And.intro (hpv'.later hl) hba))))
  clear hev' hpv' hb3 bx hb hl hba D2 H2
  have hcc : (c == c) = true := by simp
  go_wp2_with fail
  refine (SM.out _ _ _ _ _ H3.out.1 H3.out.2.1 H3.out.2.2.1 H3.out.2.2.2.1).mono ?_
  rintro e w4 ⟨rfl, hb4⟩
  have hb := H3.out.2.2.2.2.trans (hb4.mono H3.out.2.2.2.2.size)
  clear c0 c1 c2 c3 c4 c5 c6 H3 hb4 SM
  go_wp2_with fail
  refine (I1.out _).mono ?_
  rintro e w5 ⟨rfl, hb5⟩
  have hb := hb.trans (hb5.mono hb.size)
  clear hb5
  go_wp2_with fail
  refine (I2.out _).mono ?_
  rintro e w6 ⟨rfl, hb6⟩
  have hb := hb.trans (hb6.mono hb.size)
  clear hb6
  go_wp2_with fail
  go_ret
  exact ⟨rfl, hb⟩
end Go.Proofs.Ytmdchfmcghiaeaa.Obj
