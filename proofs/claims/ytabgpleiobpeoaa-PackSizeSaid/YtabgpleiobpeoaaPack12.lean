/- pack.Find, walked, in a pack that is right. Conditions: at most 4,194,304 bytes. (Layer 07.) -/
import Derived.Test.YtabgpleiobpeoaaPack11
import Derived.Test.YtabgpleiobpeoaaPack7
namespace Go.Proofs.Ytabgpleiobpeoaa.Pak
set_option linter.unusedVariables false
open Go.RowKit Go.Sort Go.Lib
open Oct (le32 val takeR Rd Moved)
theorem ident_good (s : ByteArray) (w : World) : Calls Try.prog 37 #[.string s] w fun e w' => e = .returned (.bool ((s.size : Int) == 32)) ∧ w = w' := by
  go_enter Try.func37, Try.ntmps37
  go_wp2_with fail
  go_ret
  exact ⟨rfl, rfl⟩
/-- What Find answers of an id, in a pack that is right. -/
def FindOut (l id : List UInt8) (w w' : World) (e : Ending) : Prop :=
  ((∃ i, i < many l ∧ idAt l i = id ∧ e = .returned (.tuple #[.string ⟨(dataAt l i).toArray⟩, .bool true, .int .i64 0])) ∨
    ((∀ i, i < many l → idAt l i ≠ id) ∧ e = .returned (.tuple #[.string ⟨#[]⟩, .bool false, .int .i64 0]))) ∧ Below w.heap.size w w'
theorem find_arg (s t : ByteArray) (w : World) (ht : t.size ≠ 32) :
    Calls Try.prog 17 #[.string s, .string t] w fun e w' => e = .returned (.tuple #[.string ⟨#[]⟩, .bool false, .int .i64 1]) ∧ Below w.heap.size w w' := by
  have G := ident_good t w
  rw [show ((t.size : Int) == 32) = false from by simp; omega] at G
  have G := Lib.hid G
  clear ht
  go_enter Try.func17, Try.ntmps17
  go_wp2_with fail
  refine G.out.mono ?_
  rintro e w1 ⟨rfl, rfl⟩
  clear G
  go_wp2_with fail
  refine bodyPost_ret (v := .tuple #[.string ⟨#[]⟩, .bool false, .int .i64 1]) (by simp [results, Try.results17, go_sem]) rfl ?_
  exact ⟨rfl, Below.refl _ _⟩
/-- Where an id may stand. -/
theorem span_of {l : List UInt8} (hS : Shaped l) (c : Nat) (hc : c < 256) :
    loAt l c = fanPrev (idsOf l (many l)) c ∧ nAt l (12 + 4 * c) = fanN (idsOf l (many l)) c ∧ loAt l c ≤ nAt l (12 + 4 * c) ∧ nAt l (12 + 4 * c) ≤ many l ∧
    ∀ i, i < many l → ((idAt l i).headD 0).toNat = c → loAt l c ≤ i ∧ i < nAt l (12 + 4 * c) := by
  have hf := hS.fan
  have hlen := hS.head.fits
  have h2 : nAt l (12 + 4 * c) = fanN (idsOf l (many l)) c := hf c hc
  have h1 : loAt l c = fanPrev (idsOf l (many l)) c := by
    unfold loAt
    cases c with
    | zero => rfl
    | succ b =>
      rw [if_neg (by omega), Nat.add_sub_cancel]
      exact hf b (by omega)
  have hp := firsts_of_steps hS.rise (by omega)
  refine ⟨h1, h2, ?_, ?_, ?_⟩
  · rw [h1, h2]; exact fanPrev_le _ _
  · rw [h2]
    have := fanN_le (idsOf l (many l)) c
    rwa [idsOf_length] at this
  · intro i hi hc'
    have hi' : i < (idsOf l (many l)).length := by rw [idsOf_length]; exact hi
    have hfi : first (idsOf l (many l))[i] = c := by rw [idsOf_get]; exact hc'
    rw [h1, h2]
    refine ⟨?_, (fan_iff c _ hp i hi').2 (by omega)⟩
    cases c with
    | zero => exact Nat.zero_le _
    | succ b =>
      rcases Nat.lt_or_ge i (fanN (idsOf l (many l)) b) with h | h
      · have := (fan_iff b _ hp i hi').1 h
        omega
      · exact h
set_option maxRecDepth 100000 in
set_option maxHeartbeats 2000000 in
theorem find_any (s t : ByteArray) (w : World) (hs : s.size ≤ 4194304) (hS : Shaped s.data.toList) (hR : Right s.data.toList) (ht : t.size = 32) :
    Calls Try.prog 17 #[.string s, .string t] w fun e w' => FindOut s.data.toList t.data.toList w w' e := by
  have hsl : s.data.toList.length = s.size := by rw [Array.length_toList]; rfl
  have h0 : 1112 ≤ s.size := by have h1 := hS.head.fits; have h2 := hS.head.one; omega
  have G := ident_good t w
  rw [show ((t.size : Int) == 32) = true from by simp; omega] at G
  have G := Lib.hid G
  have C := count_any s w h0 (by omega)
  rw [holds_true hS.head] at C
  have ht0 : 0 < t.size := by omega
  have hft := first_at ht0
  have hc := t[0].toNat_lt
  have SP := Lib.hid (fun w => span_any s t[0].toNat hc w h0 (by omega))
  obtain ⟨l, hl⟩ : ∃ l, l = s.data.toList := ⟨_, rfl⟩
  rw [← hl] at C SP hS hR hsl ⊢
  have hsp := span_of hS t[0].toNat hc
  obtain ⟨n, hn⟩ : ∃ n, n = many l := ⟨_, rfl⟩
  rw [← hn] at C hsp
  have C := Lib.hid C
  obtain ⟨lo, hlo⟩ : ∃ lo, lo = loAt l t[0].toNat := ⟨_, rfl⟩
  obtain ⟨hi, hhi⟩ : ∃ hi, hi = nAt l (12 + 4 * t[0].toNat) := ⟨_, rfl⟩
  rw [← hlo, ← hhi] at SP hsp
  have hle := hsp.2.2.1
  have hhn := hsp.2.2.2.1
  have hn1 : n ≤ 1024 := by rw [hn]; exact hS.head.most
  have hfit : 1036 + 44 * n + 32 ≤ s.size := by rw [hn, ← hsl]; exact hS.head.fits
  have E := Lib.hid (show ∀ i, i < n → ∀ w, Calls Try.prog 40 #[.string s, .int .i64 (i : Int)] w fun e w' => e = .returned (.agg (entryV l i)) ∧ Below w.heap.size w w' from fun i hi w => by rw [hl]; exact entryAt_any s i w (by omega) (by omega) (by omega))
  have HB := Lib.hid (show ∀ i, i < n → ¬ (lo ≤ i ∧ i < hi) → idAt l i ≠ t.data.toList from fun i hi hno he => hno (hsp.2.2.2.2 i hi (by rw [he, ← hft]; rfl)))
  have HS := Lib.hid (And.intro hl (And.intro hn (And.intro hS (And.intro hR hsl))))
  clear hsp hlo hhi hl hn hS hR hsl hft hc ht
  have d1 : decide ((s.size : Int) < 1112) = false := decide_eq_false (by omega)
  have d2 : decide (hi < lo) = false := decide_eq_false (by omega)
  have d3 : decide (n < hi) = false := decide_eq_false (by omega)
  have k1 : 1036 + (n : Int) * 44 ≤ (s.size : Int) - 32 := by omega
  have k2 : (1112 : Int) ≤ s.size := by omega
  go_enter Try.func17, Try.ntmps17
  go_wp2_with fail
  refine G.out.mono ?_
  rintro e w1 ⟨rfl, rfl⟩
  clear G
  go_wp2_with fail
  refine C.out.mono ?_
  rintro e w1 ⟨rfl, hb1⟩
  have H1 := Lib.hid hb1
  clear hb1 C
  go_wp2_with fail
  refine (SP.out w1).mono ?_
  rintro e w2 ⟨rfl, hb2⟩
  have H2 := Lib.hid (H1.out.trans (hb2.mono H1.out.size))
  clear hb2 SP H1
  go_wp2_with fail
  obtain ⟨D, hD⟩ : ∃ D, D = s.extract (1036 + n * 44) (s.size - 32) := ⟨_, rfl⟩
  rw [← hD]
  have hDs : D.size + (1036 + 44 * n + 32) = s.size := by rw [hD, ByteArray.size_extract]; omega
  have HDD := Lib.hid hD
  clear hD k1 k2 d2 d3
  go_loopw [12] (fun i wr => ∃ k : Nat, i = .int .i64 (k : Int) ∧ lo ≤ k ∧ k ≤ hi ∧ Hid ((∀ j, j < n → lo ≤ j → j < k → idAt l j ≠ t.data.toList) ∧ Below w2.heap.size w2 wr)) (fun i _ => ((hi : Int) - intOf i).toNat)
  case atStart => exact ⟨lo, rfl, Nat.le_refl _, hle, Lib.hid ⟨fun j _ h1 h2 => by omega, Below.refl _ _⟩⟩
  case round =>
    obtain ⟨k, rfl, hlk, hk, HR⟩ := hrel
    have hbw := HR.out.2.size
    rcases Nat.lt_or_ge k hi with hk1 | hk1
    · have ki : (k : Int) < hi := by omega
      have hkn : k < n := by omega
      have EK := Lib.hid (E.out k hkn wr)
      obtain ⟨idb, hid⟩ : ∃ idb : ByteArray, idb = ⟨(idAt l k).toArray⟩ := ⟨_, rfl⟩
      obtain ⟨at_, hat⟩ : ∃ a, a = atAt l k := ⟨_, rfl⟩
      obtain ⟨sz, hsz⟩ : ∃ a, a = szAt l k := ⟨_, rfl⟩
      obtain ⟨ck, hck⟩ : ∃ a, a = ckAt l k := ⟨_, rfl⟩
      have hev : entryV l k = #[.string idb, .int .i64 at_, .int .i64 sz, .int .u32 ck] := by rw [hid, hat, hsz, hck]; rfl
      have hat2 : at_ = sumTo l k := by rw [hat]; exact HS.out.2.2.1.ats k (by rw [← HS.out.2.1]; exact hkn)
      have hsz2 : sz ≤ 131072 := by rw [hsz]; exact HS.out.2.2.1.szs k (by rw [← HS.out.2.1]; exact hkn)
      have hfit2 : at_ + sz ≤ D.size := by
        have e1 : at_ + sz = sumTo l (k + 1) := by rw [hat2, hsz]; rfl
        have e2 := HS.out.2.2.1.whole
        rw [← HS.out.2.1, HS.out.2.2.2.2] at e2
        have e3 : sumTo l (k + 1) ≤ sumTo l n := sumTo_mono l hkn
        omega
      have EK := Lib.hid (show Calls Try.prog 40 #[.string s, .int .i64 (k : Int)] wr fun e w' => e = .returned (.agg #[.string idb, .int .i64 at_, .int .i64 sz, .int .u32 ck]) ∧ Below wr.heap.size wr w' from by rw [← hev]; exact EK.out)
      have hr := HS.out.2.2.2.1 k (by rw [← HS.out.2.1]; exact hkn)
      obtain ⟨d, hd⟩ : ∃ d, d = D.extract at_ (at_ + sz) := ⟨_, rfl⟩
      have hdl : d.data.toList = dataAt l k := by
        rw [hd, ext_list, HDD.out, ext_list, Nat.add_sub_cancel_left, List.drop_take, List.drop_drop, List.take_take]
        unfold dataAt
        rw [← HS.out.1, ← HS.out.2.1, ← hsz, ← hat2]
        congr 1
        · omega
        · congr 1; omega
      have hds : d.size ≤ 140737488355328 := by rw [hd, ByteArray.size_extract]; omega
      rw [← hdl, ← hck] at hr
      have HE := Lib.hid (And.intro hid (And.intro hdl (And.intro hr.1 hd)))
      clear hid hat hsz hck hev hat2 hdl hr hd
      go_wp2_with fail
      refine EK.out.mono ?_
      rintro e w3 ⟨rfl, hb3⟩
      have H3 := Lib.hid (show ∃ W, W = w3.alloc (.cells #[.string idb, .int .i64 at_, .int .i64 sz, .int .u32 ck] 66) ∧ BlkIs W w3.heap.size 66 #[.string idb, .int .i64 at_, .int .i64 sz, .int .u32 ck] ∧ Below w2.heap.size w2 W from ⟨_, rfl, BlkIs.new _ _ _, HR.out.2.trans ((hb3.mono hbw).alloc (by have := hb3.size; omega) _)⟩)
      clear hb3 EK
      go_upto_region 16 with (fail)
      obtain ⟨W, hW, H3⟩ := H3.out
      rw [← hW]
      have H3 := Lib.hid H3
      clear hW
      have x0 : W.cell? ⟨w3.heap.size, 0, none⟩ = some (.string idb) := H3.out.1.cell 0
      have x1 : W.cell? ⟨w3.heap.size, 1, none⟩ = some (.int .i64 at_) := H3.out.1.cell 1
      have x2 : W.cell? ⟨w3.heap.size, 2, none⟩ = some (.int .i64 sz) := H3.out.1.cell 2
      by_cases he : idb = t
      · have hz := eq_list he
        have HT := Lib.hid he
        clear he
        have d5 : decide ((131072 : Int) < sz) = false := decide_eq_false (by omega)
        have d6 : decide ((D.size : Int) < (at_ : Int) + sz) = false := decide_eq_false (by omega)
        have k3 : (at_ : Int) + sz ≤ D.size := by omega
        go_upto_region 20 with (fail)
        have HDX := HE.out.2.2.2
        rw [← HDX]
        clear HDX
        obtain ⟨cv, hcv⟩ : ∃ cv, cv = crc d.data.toList := ⟨_, rfl⟩
        have e3 : ∀ u : LaterOf W, u.w.cell? ⟨w3.heap.size, 3, none⟩ = some (.int .u32 ck) := fun u => (u.blk H3.out.1).cell 3
        have CC := Lib.hid (fun u : LaterOf W => crcsum_any d u.w hds)
        rw [HE.out.2.2.1] at CC
        have d7 : ((ck : Int) != (ck : Int)) = false := by simp
        clear hcv cv x0 x1 x2 d5 d6 k3
        refine wp_region_all (fun w' => ∃ u : LaterOf W, w' = u.w) (by kernel_rfl) (by kernel_rfl) ⟨LaterOf.start W, rfl⟩ ?_
        repeat (go_big_quiet_step (first | with_reducible exact LaterOf.call _ (CC.out _)))
        refine wpQuiet_nil ?_
        intro w8 hw8
        obtain ⟨u, hu⟩ := hw8
        have H8 := Lib.hid (show Below w2.heap.size w2 w8 from by rw [hu]; exact H3.out.2.trans (u.h.mono H3.out.2.size))
        clear hu u e3 CC
        go_wp2_with fail
        refine bodyPost_ret (v := .tuple #[.string d, .bool true, .int .i64 0]) (by simp [results, Try.results17, go_sem]) rfl ?_
        refine ⟨Or.inl ⟨k, by rw [← HS.out.2.1]; exact hkn, by rw [← HT.out, HE.out.1], ?_⟩, H2.out.trans (H8.out.mono H2.out.size)⟩
        rw [← HE.out.2.1]
      · have hz := ne_list he
        have HT := Lib.hid he
        clear he
        go_wp2_with fail
        refine ⟨⟨k + 1, rfl, by omega, hk1, Lib.hid ⟨fun j hj h1 h2 => ?_, H3.out.2⟩⟩, ?_⟩
        · rcases Nat.lt_or_ge j k with h3 | h3
          · exact HR.out.1 j hj h1 h3
          · obtain rfl : j = k := by omega
            intro h4
            exact HT.out (by rw [HE.out.1, h4])
        · simp [intOf]
          omega
    · obtain rfl : k = hi := by omega
      have ki : decide ((k : Int) < k) = false := by simp
      go_wp2_with fail
      refine bodyPost_ret (v := .tuple #[.string ⟨#[]⟩, .bool false, .int .i64 0]) (by simp [results, Try.results17, go_sem]) rfl ?_
      refine ⟨Or.inr ⟨fun i hi => ?_, rfl⟩, H2.out.trans (HR.out.2.mono H2.out.size)⟩
      rw [← HS.out.2.1] at hi
      by_cases hin : lo ≤ i ∧ i < k
      · exact HR.out.1 i hi hin.1 hin.2
      · exact HB.out i hi hin
end Go.Proofs.Ytabgpleiobpeoaa.Pak
