/- slices.IndexFunc and ContainsFunc, mark.all and mark.rises, walked: at tokens, refs, tombs and numbers. At most 1,000,000 things. (Layer 12.) -/
import Derived.Test.YtljenganlknhbaaGreatPkE
import Derived.Lib.Hide
import Derived.WalkKit
import Derived.BigQuiet
import Derived.Deep.QuietTactic
import Derived.Deep.RegionHeld3
import Derived.IntWalk
import Derived.CallsIn
namespace Go.Proofs.YtljenganlknhbaaGreat.Mk
set_option linter.unusedVariables false
open Go.RowKit
set_option maxRecDepth 100000 in
set_option maxHeartbeats 1000000 in
theorem ix_tok (v : Value) (l : List Tok) (g : Nat) (lb : Array Value) (p : Tok → Bool) (w : World) (h : RowAt 3 vTok w v l) (hp : Tells g lb aTok p l w) (hn : l.length ≤ 1000000) :
    Calls Tryz.prog 181 #[v, .func (.func g) #[] lb] w fun e w' => e = .returned (.int .i64 (idxOf p l)) ∧ Below w.heap.size w w' := by
  obtain ⟨ao, cap, rfl, hlc, hcm, hcell⟩ := h
  obtain ⟨n, hnn⟩ : ∃ n, n = l.length := ⟨_, rfl⟩
  rw [← hnn] at hn hlc ⊢
  have HL := Lib.hid hnn
  have HC := Lib.hid hcell
  have HP := Lib.hid hp.2
  have eg := hp.1
  clear hcell hnn hp
  go_enter Tryz.func181, Tryz.ntmps181
  go_wp2_with fail
  go_loopw [8] (fun i wr => ∃ k : Nat, i = .int .i64 (k : Int) ∧ k ≤ n ∧ Hid (∀ x ∈ l.take k, p x = false) ∧ Hid (Below w.heap.size w wr)) (fun i _ => n - (intOf i).toNat)
  case atStart => exact ⟨0, rfl, Nat.zero_le _, Lib.hid (fun x hx => by simp at hx), Lib.hid (Below.refl _ _)⟩
  case round =>
    obtain ⟨k, rfl, hkl, HM, HB⟩ := hrel
    rcases Nat.lt_or_ge k n with hlt | hge
    · have ki : (k : Int) < n := by omega
      have hkL : k < l.length := by rw [← HL.out]; exact hlt
      obtain ⟨b, off, rfl, hblt, hc⟩ := HC.out (by rw [← HL.out]; omega)
      have hq := HP.out l[k] (List.getElem_mem hkL) wr HB.out
      have htk := take_snoc' hkL
      have hpl : p l[k] = true → idxOf p l = (k : Int) := idxOf_some hkL HM.out
      obtain ⟨x, hx⟩ : ∃ x, x = l[k] := ⟨_, rfl⟩
      rw [← hx] at hq hpl htk
      obtain ⟨a0, a1, a2⟩ := x
      have c0 : wr.cell? ⟨b, off + k * 3, none⟩ = some (.int .i64 a0) := by
        have := hc (k) hkL 0 (.int .i64 a0) (by rw [← hx]; rfl)
        rw [HB.out.cell hblt]; simpa using this
      have c1 : wr.cell? ⟨b, off + k * 3 + 1, none⟩ = some (.int .i64 a1) := by
        have := hc (k) hkL 1 (.int .i64 a1) (by rw [← hx]; rfl)
        rw [HB.out.cell hblt]; simpa using this
      have c2 : wr.cell? ⟨b, off + k * 3 + 2, none⟩ = some (.string a2) := by
        have := hc (k) hkL 2 (.string a2) (by rw [← hx]; rfl)
        rw [HB.out.cell hblt]; simpa using this
      obtain ⟨pv, hpv⟩ : ∃ pv, pv = p ⟨a0, a1, a2⟩ := ⟨_, rfl⟩
      rw [← hpv] at hq hpl
      have hq2 : Calls Tryz.prog g (#[.agg #[.int .i64 a0, .int .i64 a1, .string a2]] ++ lb) wr fun e w' => e = .returned (.bool pv) ∧ Below wr.heap.size wr w' := hq
      have HQ := Lib.hid hq2
      have HI := Lib.hid (And.intro hpl (And.intro htk hpv))
      clear hc hq hq2 hx hpl htk hpv
      cases pv
      · go_wp2_with (go_at_fn g; refine HQ.out.mono ?_; rintro e w2 ⟨rfl, hb2⟩; have H2 := Lib.hid (HB.out.trans (hb2.mono HB.out.size)); clear hb2)
        refine ⟨⟨k + 1, by simp, by omega, Lib.hid ?_, H2⟩, by simp [intOf]; omega⟩
        rw [HI.out.2.1]
        intro y hy
        rcases List.mem_append.1 hy with hy | hy
        · exact HM.out y hy
        · rcases List.mem_singleton.1 hy with rfl
          exact HI.out.2.2.symm
      · go_wp2_with (go_at_fn g; refine HQ.out.mono ?_; rintro e w2 ⟨rfl, hb2⟩; have H2 := Lib.hid (HB.out.trans (hb2.mono HB.out.size)); clear hb2)
        go_ret
        exact ⟨by rw [HI.out.1 (by simp)]; rfl, H2.out⟩
    · have ki : decide (k < n) = false := decide_eq_false (by omega)
      obtain rfl : k = n := by omega
      go_wp2_with fail
      go_ret
      have := HM.out
      rw [HL.out, List.take_length] at this
      exact ⟨by rw [idxOf_none this]; rfl, HB.out⟩
theorem cf_tok (v : Value) (l : List Tok) (g : Nat) (lb : Array Value) (p : Tok → Bool) (w : World) (h : RowAt 3 vTok w v l) (hp : Tells g lb aTok p l w) (hn : l.length ≤ 1000000) :
    Calls Tryz.prog 164 #[v, .func (.func g) #[] lb] w fun e w' => e = .returned (.bool (l.any p)) ∧ Below w.heap.size w w' := by
  have I := Lib.hid (ix_tok v l g lb p w h hp hn)
  obtain ⟨ao, cap, rfl, -, -⟩ := h.form
  have hia := idxOf_any p l
  obtain ⟨i, hi⟩ : ∃ i, i = idxOf p l := ⟨_, rfl⟩
  obtain ⟨n, hnn⟩ : ∃ n, n = l.length := ⟨_, rfl⟩
  rw [← hi] at I hia
  rw [← hnn] at I ⊢
  rw [← hia]
  clear h hp hi hia hnn hn
  go_enter Tryz.func164, Tryz.ntmps164
  go_wp2_with fail
  refine I.out.mono ?_
  rintro e w2 ⟨rfl, hb⟩
  have H := Lib.hid hb
  clear I hb
  go_wp2_with fail
  go_ret
  exact ⟨rfl, H.out⟩
set_option maxRecDepth 100000 in
set_option maxHeartbeats 1000000 in
theorem ix_rf (v : Value) (l : List Rf) (g : Nat) (lb : Array Value) (p : Rf → Bool) (w : World) (h : RowAt 3 vRf w v l) (hp : Tells g lb aRf p l w) (hn : l.length ≤ 1000000) :
    Calls Tryz.prog 161 #[v, .func (.func g) #[] lb] w fun e w' => e = .returned (.int .i64 (idxOf p l)) ∧ Below w.heap.size w w' := by
  obtain ⟨ao, cap, rfl, hlc, hcm, hcell⟩ := h
  obtain ⟨n, hnn⟩ : ∃ n, n = l.length := ⟨_, rfl⟩
  rw [← hnn] at hn hlc ⊢
  have HL := Lib.hid hnn
  have HC := Lib.hid hcell
  have HP := Lib.hid hp.2
  have eg := hp.1
  clear hcell hnn hp
  go_enter Tryz.func161, Tryz.ntmps161
  go_wp2_with fail
  go_loopw [8] (fun i wr => ∃ k : Nat, i = .int .i64 (k : Int) ∧ k ≤ n ∧ Hid (∀ x ∈ l.take k, p x = false) ∧ Hid (Below w.heap.size w wr)) (fun i _ => n - (intOf i).toNat)
  case atStart => exact ⟨0, rfl, Nat.zero_le _, Lib.hid (fun x hx => by simp at hx), Lib.hid (Below.refl _ _)⟩
  case round =>
    obtain ⟨k, rfl, hkl, HM, HB⟩ := hrel
    rcases Nat.lt_or_ge k n with hlt | hge
    · have ki : (k : Int) < n := by omega
      have hkL : k < l.length := by rw [← HL.out]; exact hlt
      obtain ⟨b, off, rfl, hblt, hc⟩ := HC.out (by rw [← HL.out]; omega)
      have hq := HP.out l[k] (List.getElem_mem hkL) wr HB.out
      have htk := take_snoc' hkL
      have hpl : p l[k] = true → idxOf p l = (k : Int) := idxOf_some hkL HM.out
      obtain ⟨x, hx⟩ : ∃ x, x = l[k] := ⟨_, rfl⟩
      rw [← hx] at hq hpl htk
      obtain ⟨a0, a1, a2⟩ := x
      have c0 : wr.cell? ⟨b, off + k * 3, none⟩ = some (.string a0) := by
        have := hc (k) hkL 0 (.string a0) (by rw [← hx]; rfl)
        rw [HB.out.cell hblt]; simpa using this
      have c1 : wr.cell? ⟨b, off + k * 3 + 1, none⟩ = some (.string a1) := by
        have := hc (k) hkL 1 (.string a1) (by rw [← hx]; rfl)
        rw [HB.out.cell hblt]; simpa using this
      have c2 : wr.cell? ⟨b, off + k * 3 + 2, none⟩ = some (.int .i64 a2) := by
        have := hc (k) hkL 2 (.int .i64 a2) (by rw [← hx]; rfl)
        rw [HB.out.cell hblt]; simpa using this
      obtain ⟨pv, hpv⟩ : ∃ pv, pv = p ⟨a0, a1, a2⟩ := ⟨_, rfl⟩
      rw [← hpv] at hq hpl
      have hq2 : Calls Tryz.prog g (#[.agg #[.string a0, .string a1, .int .i64 a2]] ++ lb) wr fun e w' => e = .returned (.bool pv) ∧ Below wr.heap.size wr w' := hq
      have HQ := Lib.hid hq2
      have HI := Lib.hid (And.intro hpl (And.intro htk hpv))
      clear hc hq hq2 hx hpl htk hpv
      cases pv
      · go_wp2_with (go_at_fn g; refine HQ.out.mono ?_; rintro e w2 ⟨rfl, hb2⟩; have H2 := Lib.hid (HB.out.trans (hb2.mono HB.out.size)); clear hb2)
        refine ⟨⟨k + 1, by simp, by omega, Lib.hid ?_, H2⟩, by simp [intOf]; omega⟩
        rw [HI.out.2.1]
        intro y hy
        rcases List.mem_append.1 hy with hy | hy
        · exact HM.out y hy
        · rcases List.mem_singleton.1 hy with rfl
          exact HI.out.2.2.symm
      · go_wp2_with (go_at_fn g; refine HQ.out.mono ?_; rintro e w2 ⟨rfl, hb2⟩; have H2 := Lib.hid (HB.out.trans (hb2.mono HB.out.size)); clear hb2)
        go_ret
        exact ⟨by rw [HI.out.1 (by simp)]; rfl, H2.out⟩
    · have ki : decide (k < n) = false := decide_eq_false (by omega)
      obtain rfl : k = n := by omega
      go_wp2_with fail
      go_ret
      have := HM.out
      rw [HL.out, List.take_length] at this
      exact ⟨by rw [idxOf_none this]; rfl, HB.out⟩
theorem cf_rf (v : Value) (l : List Rf) (g : Nat) (lb : Array Value) (p : Rf → Bool) (w : World) (h : RowAt 3 vRf w v l) (hp : Tells g lb aRf p l w) (hn : l.length ≤ 1000000) :
    Calls Tryz.prog 128 #[v, .func (.func g) #[] lb] w fun e w' => e = .returned (.bool (l.any p)) ∧ Below w.heap.size w w' := by
  have I := Lib.hid (ix_rf v l g lb p w h hp hn)
  obtain ⟨ao, cap, rfl, -, -⟩ := h.form
  have hia := idxOf_any p l
  obtain ⟨i, hi⟩ : ∃ i, i = idxOf p l := ⟨_, rfl⟩
  obtain ⟨n, hnn⟩ : ∃ n, n = l.length := ⟨_, rfl⟩
  rw [← hi] at I hia
  rw [← hnn] at I ⊢
  rw [← hia]
  clear h hp hi hia hnn hn
  go_enter Tryz.func128, Tryz.ntmps128
  go_wp2_with fail
  refine I.out.mono ?_
  rintro e w2 ⟨rfl, hb⟩
  have H := Lib.hid hb
  clear I hb
  go_wp2_with fail
  go_ret
  exact ⟨rfl, H.out⟩
set_option maxRecDepth 100000 in
set_option maxHeartbeats 1000000 in
theorem ix_tb (v : Value) (l : List TbR) (g : Nat) (lb : Array Value) (p : TbR → Bool) (w : World) (h : RowAt 5 vTb w v l) (hp : Tells g lb aTb p l w) (hn : l.length ≤ 1000000) :
    Calls Tryz.prog 163 #[v, .func (.func g) #[] lb] w fun e w' => e = .returned (.int .i64 (idxOf p l)) ∧ Below w.heap.size w w' := by
  obtain ⟨ao, cap, rfl, hlc, hcm, hcell⟩ := h
  obtain ⟨n, hnn⟩ : ∃ n, n = l.length := ⟨_, rfl⟩
  rw [← hnn] at hn hlc ⊢
  have HL := Lib.hid hnn
  have HC := Lib.hid hcell
  have HP := Lib.hid hp.2
  have eg := hp.1
  clear hcell hnn hp
  go_enter Tryz.func163, Tryz.ntmps163
  go_wp2_with fail
  go_loopw [8] (fun i wr => ∃ k : Nat, i = .int .i64 (k : Int) ∧ k ≤ n ∧ Hid (∀ x ∈ l.take k, p x = false) ∧ Hid (Below w.heap.size w wr)) (fun i _ => n - (intOf i).toNat)
  case atStart => exact ⟨0, rfl, Nat.zero_le _, Lib.hid (fun x hx => by simp at hx), Lib.hid (Below.refl _ _)⟩
  case round =>
    obtain ⟨k, rfl, hkl, HM, HB⟩ := hrel
    rcases Nat.lt_or_ge k n with hlt | hge
    · have ki : (k : Int) < n := by omega
      have hkL : k < l.length := by rw [← HL.out]; exact hlt
      obtain ⟨b, off, rfl, hblt, hc⟩ := HC.out (by rw [← HL.out]; omega)
      have hq := HP.out l[k] (List.getElem_mem hkL) wr HB.out
      have htk := take_snoc' hkL
      have hpl : p l[k] = true → idxOf p l = (k : Int) := idxOf_some hkL HM.out
      obtain ⟨x, hx⟩ : ∃ x, x = l[k] := ⟨_, rfl⟩
      rw [← hx] at hq hpl htk
      obtain ⟨⟨a0, a1, a2, a5, a6⟩, a3, a4⟩ := x
      have c0 : wr.cell? ⟨b, off + k * 5, none⟩ = some (.int .i64 a0) := by
        have := hc (k) hkL 0 (.int .i64 a0) (by rw [← hx]; rfl)
        rw [HB.out.cell hblt]; simpa using this
      have c1 : wr.cell? ⟨b, off + k * 5 + 1, none⟩ = some (.int .i64 a1) := by
        have := hc (k) hkL 1 (.int .i64 a1) (by rw [← hx]; rfl)
        rw [HB.out.cell hblt]; simpa using this
      have c2 : wr.cell? ⟨b, off + k * 5 + 2, none⟩ = some (.string a2) := by
        have := hc (k) hkL 2 (.string a2) (by rw [← hx]; rfl)
        rw [HB.out.cell hblt]; simpa using this
      have c3 : wr.cell? ⟨b, off + k * 5 + 3, none⟩ = some (a3) := by
        have := hc (k) hkL 3 (a3) (by rw [← hx]; rfl)
        rw [HB.out.cell hblt]; simpa using this
      have c4 : wr.cell? ⟨b, off + k * 5 + 4, none⟩ = some (a4) := by
        have := hc (k) hkL 4 (a4) (by rw [← hx]; rfl)
        rw [HB.out.cell hblt]; simpa using this
      obtain ⟨pv, hpv⟩ : ∃ pv, pv = p ⟨⟨a0, a1, a2, a5, a6⟩, a3, a4⟩ := ⟨_, rfl⟩
      rw [← hpv] at hq hpl
      have hq2 : Calls Tryz.prog g (#[.agg #[.int .i64 a0, .int .i64 a1, .string a2, a3, a4]] ++ lb) wr fun e w' => e = .returned (.bool pv) ∧ Below wr.heap.size wr w' := hq
      have HQ := Lib.hid hq2
      have HI := Lib.hid (And.intro hpl (And.intro htk hpv))
      clear hc hq hq2 hx hpl htk hpv
      cases pv
      · go_wp2_with (go_at_fn g; refine HQ.out.mono ?_; rintro e w2 ⟨rfl, hb2⟩; have H2 := Lib.hid (HB.out.trans (hb2.mono HB.out.size)); clear hb2)
        refine ⟨⟨k + 1, by simp, by omega, Lib.hid ?_, H2⟩, by simp [intOf]; omega⟩
        rw [HI.out.2.1]
        intro y hy
        rcases List.mem_append.1 hy with hy | hy
        · exact HM.out y hy
        · rcases List.mem_singleton.1 hy with rfl
          exact HI.out.2.2.symm
      · go_wp2_with (go_at_fn g; refine HQ.out.mono ?_; rintro e w2 ⟨rfl, hb2⟩; have H2 := Lib.hid (HB.out.trans (hb2.mono HB.out.size)); clear hb2)
        go_ret
        exact ⟨by rw [HI.out.1 (by simp)]; rfl, H2.out⟩
    · have ki : decide (k < n) = false := decide_eq_false (by omega)
      obtain rfl : k = n := by omega
      go_wp2_with fail
      go_ret
      have := HM.out
      rw [HL.out, List.take_length] at this
      exact ⟨by rw [idxOf_none this]; rfl, HB.out⟩
theorem cf_tb (v : Value) (l : List TbR) (g : Nat) (lb : Array Value) (p : TbR → Bool) (w : World) (h : RowAt 5 vTb w v l) (hp : Tells g lb aTb p l w) (hn : l.length ≤ 1000000) :
    Calls Tryz.prog 131 #[v, .func (.func g) #[] lb] w fun e w' => e = .returned (.bool (l.any p)) ∧ Below w.heap.size w w' := by
  have I := Lib.hid (ix_tb v l g lb p w h hp hn)
  obtain ⟨ao, cap, rfl, -, -⟩ := h.form
  have hia := idxOf_any p l
  obtain ⟨i, hi⟩ : ∃ i, i = idxOf p l := ⟨_, rfl⟩
  obtain ⟨n, hnn⟩ : ∃ n, n = l.length := ⟨_, rfl⟩
  rw [← hi] at I hia
  rw [← hnn] at I ⊢
  rw [← hia]
  clear h hp hi hia hnn hn
  go_enter Tryz.func131, Tryz.ntmps131
  go_wp2_with fail
  refine I.out.mono ?_
  rintro e w2 ⟨rfl, hb⟩
  have H := Lib.hid hb
  clear I hb
  go_wp2_with fail
  go_ret
  exact ⟨rfl, H.out⟩
set_option maxRecDepth 100000 in
set_option maxHeartbeats 1000000 in
theorem ix_int (v : Value) (l : List Int) (g : Nat) (lb : Array Value) (p : Int → Bool) (w : World) (h : RowAt 1 vInt w v l) (hp : Tells g lb aInt p l w) (hn : l.length ≤ 1000000) :
    Calls Tryz.prog 182 #[v, .func (.func g) #[] lb] w fun e w' => e = .returned (.int .i64 (idxOf p l)) ∧ Below w.heap.size w w' := by
  obtain ⟨ao, cap, rfl, hlc, hcm, hcell⟩ := h
  obtain ⟨n, hnn⟩ : ∃ n, n = l.length := ⟨_, rfl⟩
  rw [← hnn] at hn hlc ⊢
  have HL := Lib.hid hnn
  have HC := Lib.hid hcell
  have HP := Lib.hid hp.2
  have eg := hp.1
  clear hcell hnn hp
  go_enter Tryz.func182, Tryz.ntmps182
  go_wp2_with fail
  go_loopw [8] (fun i wr => ∃ k : Nat, i = .int .i64 (k : Int) ∧ k ≤ n ∧ Hid (∀ x ∈ l.take k, p x = false) ∧ Hid (Below w.heap.size w wr)) (fun i _ => n - (intOf i).toNat)
  case atStart => exact ⟨0, rfl, Nat.zero_le _, Lib.hid (fun x hx => by simp at hx), Lib.hid (Below.refl _ _)⟩
  case round =>
    obtain ⟨k, rfl, hkl, HM, HB⟩ := hrel
    rcases Nat.lt_or_ge k n with hlt | hge
    · have ki : (k : Int) < n := by omega
      have hkL : k < l.length := by rw [← HL.out]; exact hlt
      obtain ⟨b, off, rfl, hblt, hc⟩ := HC.out (by rw [← HL.out]; omega)
      have hq := HP.out l[k] (List.getElem_mem hkL) wr HB.out
      have htk := take_snoc' hkL
      have hpl : p l[k] = true → idxOf p l = (k : Int) := idxOf_some hkL HM.out
      obtain ⟨a0, hx⟩ : ∃ x, x = l[k] := ⟨_, rfl⟩
      rw [← hx] at hq hpl htk
      have c0 : wr.cell? ⟨b, off + k, none⟩ = some (.int .i64 a0) := by
        have := hc (k) hkL 0 (.int .i64 a0) (by rw [← hx]; rfl)
        rw [HB.out.cell hblt]; simpa using this
      obtain ⟨pv, hpv⟩ : ∃ pv, pv = p a0 := ⟨_, rfl⟩
      rw [← hpv] at hq hpl
      have hq2 : Calls Tryz.prog g (#[.int .i64 a0] ++ lb) wr fun e w' => e = .returned (.bool pv) ∧ Below wr.heap.size wr w' := hq
      have HQ := Lib.hid hq2
      have HI := Lib.hid (And.intro hpl (And.intro htk hpv))
      clear hc hq hq2 hx hpl htk hpv
      cases pv
      · go_wp2_with (go_at_fn g; refine HQ.out.mono ?_; rintro e w2 ⟨rfl, hb2⟩; have H2 := Lib.hid (HB.out.trans (hb2.mono HB.out.size)); clear hb2)
        refine ⟨⟨k + 1, by simp, by omega, Lib.hid ?_, H2⟩, by simp [intOf]; omega⟩
        rw [HI.out.2.1]
        intro y hy
        rcases List.mem_append.1 hy with hy | hy
        · exact HM.out y hy
        · rcases List.mem_singleton.1 hy with rfl
          exact HI.out.2.2.symm
      · go_wp2_with (go_at_fn g; refine HQ.out.mono ?_; rintro e w2 ⟨rfl, hb2⟩; have H2 := Lib.hid (HB.out.trans (hb2.mono HB.out.size)); clear hb2)
        go_ret
        exact ⟨by rw [HI.out.1 (by simp)]; rfl, H2.out⟩
    · have ki : decide (k < n) = false := decide_eq_false (by omega)
      obtain rfl : k = n := by omega
      go_wp2_with fail
      go_ret
      have := HM.out
      rw [HL.out, List.take_length] at this
      exact ⟨by rw [idxOf_none this]; rfl, HB.out⟩
theorem cf_int (v : Value) (l : List Int) (g : Nat) (lb : Array Value) (p : Int → Bool) (w : World) (h : RowAt 1 vInt w v l) (hp : Tells g lb aInt p l w) (hn : l.length ≤ 1000000) :
    Calls Tryz.prog 166 #[v, .func (.func g) #[] lb] w fun e w' => e = .returned (.bool (l.any p)) ∧ Below w.heap.size w w' := by
  have I := Lib.hid (ix_int v l g lb p w h hp hn)
  obtain ⟨ao, cap, rfl, -, -⟩ := h.form
  have hia := idxOf_any p l
  obtain ⟨i, hi⟩ : ∃ i, i = idxOf p l := ⟨_, rfl⟩
  obtain ⟨n, hnn⟩ : ∃ n, n = l.length := ⟨_, rfl⟩
  rw [← hi] at I hia
  rw [← hnn] at I ⊢
  rw [← hia]
  clear h hp hi hia hnn hn
  go_enter Tryz.func166, Tryz.ntmps166
  go_wp2_with fail
  refine I.out.mono ?_
  rintro e w2 ⟨rfl, hb⟩
  have H := Lib.hid hb
  clear I hb
  go_wp2_with fail
  go_ret
  exact ⟨rfl, H.out⟩
end Go.Proofs.YtljenganlknhbaaGreat.Mk
