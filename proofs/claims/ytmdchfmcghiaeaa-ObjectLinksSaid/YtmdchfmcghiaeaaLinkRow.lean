/- A row of links (two cells each): slices.Compact at api.Link, walked. Conditions: the row lies in a block of the call's own, as the sort's contract leaves it. -/
import Derived.Test.YtmdchfmcghiaeaaSame
import Derived.Test.YtmdchfmcghiaeaaOctet1
import Derived.Shelf.GgSortFunc.RowK
import Derived.Lib.SlicesCompact
import Derived.Lib.SliceRun
import Derived.Lib.Hide
namespace Go.Proofs.Ytmdchfmcghiaeaa.Obj
open Go.RowKit Go.Sort Go.Lib
open Oct (Moved)
abbrev Lk := Int × ByteArray
def encL (x : Lk) : List Value := [.int .i64 x.1, .string x.2]
theorem encL_length (x : Lk) : (encL x).length = 2 := rfl
/-- The links of a slice, and where they lie. -/
def LinksAt (w : World) (ao : Option Addr) (n : Nat) (f : Nat → Lk) : Prop :=
  (n : Int) ≤ 9223372036854775807 ∧ (0 < n → ∃ b off, ao = some ⟨b, off, none⟩ ∧ b < w.heap.size ∧
    ∀ i, i < n → w.cell? ⟨b, off + i * 2, none⟩ = some (.int .i64 (f i).1) ∧ w.cell? ⟨b, off + i * 2 + 1, none⟩ = some (.string (f i).2))
theorem LinksAt.later {w w' : World} {ao : Option Addr} {n : Nat} {f : Nat → Lk} (h : LinksAt w ao n f) (hb : Below w.heap.size w w') : LinksAt w' ao n f := by
  refine ⟨h.1, fun hn => ?_⟩
  obtain ⟨b, off, ha, hlt, hc⟩ := h.2 hn
  exact ⟨b, off, ha, Nat.lt_of_lt_of_le hlt hb.size, fun i hi => by rw [hb.cell hlt, hb.cell hlt]; exact hc i hi⟩
section
variable {α : Type} [Inhabited α]
/-- An element's k cells laid. -/
theorem setMany_set (enc : α → List Value) (k : Nat) (hk : ∀ x, (enc x).length = k) (d : Array α) (i : Nat) (x : α) (hi : i < d.size) : setMany (flatK enc k d) (i * k) (enc x) = flatK enc k (d.setIfInBounds i x) := by
  refine ext_get! (by simp) fun t ht => ?_
  have ht' : t < d.size * k := by simpa using ht
  have k0 : 0 < k := by rcases Nat.eq_zero_or_pos k with h | h; · subst h; simp at ht'
                        · exact h
  rw [get_setMany _ _ _ t (by simpa using ht'), get_flatK _ _ _ t ht', get_flatK _ _ _ t (by simpa using ht'), hk]
  by_cases a : t / k = i
  · rw [if_pos ((blk_iff k i t k0).2 a)]
    have m : t - i * k = t % k := by subst a; rw [Nat.mod_eq_sub_div_mul]
    rw [m, a, getElem!_set_same _ _ _ hi]
  · rw [if_neg (fun h => a ((blk_iff k i t k0).1 h))]
    have : (d.setIfInBounds i x)[t / k]! = d[t / k]! := by
      have hlt : t / k < d.size := (Nat.div_lt_iff_lt_mul k0).2 ht'
      rw [getElem!_pos (d.setIfInBounds i x) _ (by simpa using hlt), getElem!_pos d _ hlt, Array.getElem_setIfInBounds, if_neg (Ne.symm a)]
    rw [this]
theorem putRowK_set (enc : α → List Value) (k : Nat) (hk : ∀ x, (enc x).length = k) (w : World) (blk off : Nat) (d : Array α) (i : Nat) (x : α) (hi : i < d.size) :
    (putRowK enc k w blk off d).setCells blk (off + i * k) (enc x) = putRowK enc k w blk off (d.setIfInBounds i x) := by
  have b : i * k + k ≤ d.size * k := by
    have := Nat.mul_le_mul_right k (show i + 1 ≤ d.size from hi); rwa [Nat.add_mul, Nat.one_mul] at this
  unfold putRowK
  rw [setCells_putRow _ _ _ _ _ _ (by rw [hk, size_flatK]; exact b), setMany_set enc k hk d i x hi]
end
theorem run_clear_links (w : World) (b o n c : Nat) (hn : 0 < n) (hc : ∀ j, j < n * 2 → (w.cell? ⟨b, o + j, none⟩).isSome = true) (hf : ∀ j, j < n * 2 → w.frozen? ⟨b, o + j, none⟩ = false) :
    ∃ zs : List Value, zs.length = n * 2 ∧ ∀ ty, (Builtin.clear_ #[50] ty #[.slice (some ⟨b, o, none⟩) n c]).run Try.prog w = .ok (.tuple #[]) (w.setCells b o zs) := by
  have hv : ∀ w, (zeroValue 53).run Try.prog w = .ok (.agg #[.int .i64 0, .string ⟨#[]⟩]) w := Try.zeroValue53
  have ht := Try.underlying50
  have hz : (Value.agg #[.int .i64 0, .string ⟨#[]⟩]).cells = #[.int .i64 0, .string ⟨#[]⟩] := rfl
  have hl : (Builtin.zeroCells #[.int .i64 0, .string ⟨#[]⟩] n).toList.length = n * 2 := by simp [Builtin.zeroCells]
  have h1 : ∀ v ∈ (Builtin.zeroCells #[.int .i64 0, .string ⟨#[]⟩] n).toList, v.oneCell' = true := by
    intro v hv
    simp only [Builtin.zeroCells, Array.toList_map, List.mem_map] at hv
    obtain ⟨i, _, rfl⟩ := hv
    have : i % 2 < 2 := Nat.mod_lt _ (by decide)
    show (#[Value.int .i64 0, .string ⟨#[]⟩][i % 2]!).oneCell' = true
    match i % 2, this with
    | 0, _ => rfl
    | 1, _ => rfl
  have hst := run_storeCells_cells (P := Try.prog) b o (Builtin.zeroCells #[.int .i64 0, .string ⟨#[]⟩] n).toList 0 w (by rw [hl]; simpa using hc) (by rw [hl]; simpa using hf) h1
  simp only [Nat.add_zero] at hst
  refine ⟨_, hl, fun ty => ?_⟩
  obtain ⟨m, rfl⟩ : ∃ m, n = m + 1 := ⟨n - 1, by omega⟩
  simp [Builtin.clear_, run_underlying ht, hv, hz, hst]
theorem moved_putRowK (w : World) (q blk off : Nat) (d : Array Lk) : Moved blk w (putRowK encL 2 (Sort.ahead w q) blk off d) :=
  ⟨rfl, rfl, rfl, by unfold putRowK; simp [Sort.ahead], fun g _ hne => by
    unfold putRowK putRow mapBlock
    simp [Array.getElem?_modify, Sort.ahead]
    intro h
    exact absurd h.symm (by simpa using hne)⟩
theorem moved_setCells (b : Nat) : ∀ (vs : List Value) (o : Nat) (w w0 : World), Moved b w0 w → Moved b w0 (w.setCells b o vs)
  | [], _, _, _, h => h
  | v :: r, o, w, w0, h => by
    rw [World.setCells]
    exact moved_setCells b r (o + 1) _ w0 (h.setCell rfl v)
/-- What Compact leaves: the first links of the row are those kept; only the row's block is written. -/
def CompOut (w w' : World) (blk off cap : Nat) (d : Array Lk) (e : Ending) : Prop :=
  e = .returned (.slice (some ⟨blk, off, none⟩) (compactUpTo d d.size).length cap) ∧ LinksAt w' (some ⟨blk, off, none⟩) (compactUpTo d d.size).length (fun i => (compactUpTo d d.size)[i]!) ∧ Moved blk w w'
theorem compactUpTo_le (d : Array Lk) (m : Nat) : (compactUpTo d m).length ≤ m := by
  unfold compactUpTo
  rw [List.length_map]
  exact Nat.le_trans (List.length_filter_le _ _) (by simp)
theorem linksAt_holds {w : World} {blk off : Nat} {d : Array Lk} {n : Nat} {f : Nat → Lk} (h : HoldsK encL 2 w blk off d) (hblk : blk < w.heap.size) (hn : n ≤ d.size) (hsz : d.size ≤ 9223372036854775807) (hf : ∀ i, i < n → d[i]! = f i) : LinksAt w (some ⟨blk, off, none⟩) n f :=
  ⟨by omega, fun _ => ⟨blk, off, rfl, hblk, fun i hi => by
    have h0 := (h.cell (i := i) (c := 0) (by omega) (by omega)).1
    have h1 := (h.cell (i := i) (c := 1) (by omega) (by omega)).1
    rw [hf i hi] at h0 h1
    exact ⟨h0, h1⟩⟩⟩
theorem comp_same {w : World} {blk off cap : Nat} {d : Array Lk} (hH : HoldsK encL 2 w blk off d) (hblk : blk < w.heap.size) (hsz : d.size ≤ 9223372036854775807) (hall : ∀ j, j < d.size → keeps d j = true) {w' : World} (hd : DrawsOf w w') :
    CompOut w w' blk off cap d (.returned (.slice (some ⟨blk, off, none⟩) d.size cap)) := by
  have e : compactUpTo d d.size = d.toList := by rw [compactUpTo_all d _ hall, range_map_get]
  have hl : (compactUpTo d d.size).length = d.size := by rw [e]; simp
  unfold CompOut
  rw [hl]
  have hb := hd.below w.heap.size
  refine ⟨rfl, (linksAt_holds hH hblk (Nat.le_refl _) hsz fun i hi => ?_).later hb, Moved.of_below hb⟩
  rw [e]
  simp [hi]
theorem eq_false_of_ne {x y : Lk} (h : x ≠ y) : x.1 ≠ y.1 ∨ (x.1 = y.1 ∧ x.2 ≠ y.2) := by
  by_cases h1 : x.1 = y.1
  · exact Or.inr ⟨h1, fun h2 => h (Prod.ext h1 h2)⟩
  · exact Or.inl h1
set_option maxRecDepth 100000 in
set_option maxHeartbeats 2000000 in
theorem compact_link (blk off cap : Nat) (d : Array Lk) (w : World) (hH : HoldsK encL 2 w blk off d) (hblk : blk < w.heap.size) (hsz : d.size ≤ 9223372036854775807) (hcap : d.size ≤ cap) :
    Calls Try.prog 71 #[.slice (some ⟨blk, off, none⟩) d.size cap] w fun e w' => CompOut w w' blk off cap d e ∧ True := by
  have hself : ∀ S : ByteArray, (S.toList == S.toList) = true := fun S => by simp
  have SAME := Lib.hid (fun hall {w'} => @comp_same w blk off cap d hH hblk hsz hall w')
  have HH := Lib.hid hH
  generalize hCO : CompOut w = CO at *
  have HCO := Lib.hid hCO
  clear hCO hH
  by_cases h2 : d.size < 2
  case pos =>
    have h2' : (d.size : Int) < 2 := by omega
    go_enter Try.func71, Try.ntmps71
    go_wp2_with fail
    go_ret
    exact ⟨SAME.out (fun j hj => keeps_lt_one d j (by omega)) (DrawsOf.refl _), trivial⟩
  have h2' : ¬ ((d.size : Int) < 2) := by omega
  go_enter Try.func71, Try.ntmps71
  go_wp2_with fail
  go_loopw [3] (fun s3 wr => ∃ k : Nat, s3 = .int .i64 (k : Int) ∧ 1 ≤ k ∧ k ≤ d.size ∧ Hid (∀ j, j < k → keeps d j = true) ∧ DrawsOf w wr) (fun i _ => ((d.size : Int) - intOf i).toNat)
  case atStart => exact ⟨1, rfl, by omega, by omega, Lib.hid (keeps_lt_one d), DrawsOf.refl _⟩
  case round =>
    obtain ⟨k, rfl, hk1, hk, hall, hd⟩ := hrel
    rcases Nat.lt_or_ge k d.size with hlt | hge
    case inr =>
      obtain rfl : k = d.size := by omega
      have Hd := Lib.hid hd
      clear hd
      go_wp2_with fail
      go_ret
      exact ⟨SAME.out hall.out Hd.out, trivial⟩
    case inl =>
      have ki : (k : Int) < d.size := by omega
      have km : (k : Int) - 1 = ((k - 1 : Nat) : Int) := by omega
      have kw : wrap64 ((k : Int) - 1) = ((k - 1 : Nat) : Int) := by rw [km]; unfold wrap64; omega
      have c10 := (HH.out.cell (i := k) (c := 0) hlt (by omega)).1
      have c11 := (HH.out.cell (i := k) (c := 1) hlt (by omega)).1
      have c00 := (HH.out.cell (i := k - 1) (c := 0) (by omega) (by omega)).1
      have c01 := (HH.out.cell (i := k - 1) (c := 1) (by omega) (by omega)).1
      rw [← hd.cell] at c10 c11 c00 c01
      generalize hx : d[k]! = x at c10 c11
      generalize hy : d[k - 1]! = y at c00 c01
      obtain ⟨x0, x1⟩ := x
      obtain ⟨y0, y1⟩ := y
      have B := Lib.hid (And.intro hx hy)
      change wr.cell? ⟨blk, off + k * 2, none⟩ = some (.int .i64 x0) at c10
      change wr.cell? ⟨blk, off + k * 2 + 1, none⟩ = some (.string x1) at c11
      change wr.cell? ⟨blk, off + (k - 1) * 2, none⟩ = some (.int .i64 y0) at c00
      change wr.cell? ⟨blk, off + (k - 1) * 2 + 1, none⟩ = some (.string y1) at c01
      have Hd := Lib.hid hd
      clear hx hy hd km
      by_cases hxy : (x0, x1) = (y0, y1)
      case neg =>
        have hnew : Hid (∀ j, j < k + 1 → keeps d j = true) := Lib.hid fun j hj => by
          by_cases e : j = k
          · subst e
            exact keeps_pos (by rw [B.out.1, B.out.2]; exact hxy)
          · exact hall.out j (by omega)
        rcases eq_false_of_ne hxy with hz | ⟨hz, hz2⟩
        · have z : (x0 == y0) = false := by simpa using hz
          clear hz hxy
          go_wp2_with fail
          go_quiet (fail)
          go_wp2_with fail
          refine ⟨⟨k + 1, rfl, by omega, hlt, hnew, Hd.out.drewN _⟩, ?_⟩
          simp [intOf]
          omega
        · obtain rfl : x0 = y0 := hz
          have z := ne_list hz2
          clear hz2 hxy
          go_wp2_with fail
          go_quiet (fail)
          go_wp2_with fail
          refine ⟨⟨k + 1, rfl, by omega, hlt, hnew, Hd.out.drewN _⟩, ?_⟩
          simp [intOf]
          omega
      case pos =>
        obtain ⟨rfl, rfl⟩ : x0 = y0 ∧ x1 = y1 := by simpa using hxy
        have z := hself x1
        clear hxy
        go_wp2_with fail
        go_quiet (fail)
        go_wp2_with fail
        have Hd' := Lib.hid (Hd.out.drewN nq)
        clear c10 c11 c00 c01 z
        go_loopw [3, 5] (fun s3 s5 wr => ∃ (kk k2 q2 : Nat) (dk : Array Lk), s3 = .int .i64 (kk : Int) ∧ s5 = .int .i64 (k2 : Int) ∧ 1 ≤ k2 ∧ k + k2 ≤ d.size ∧ Hid (wr = putRowK encL 2 (Sort.ahead w q2) blk off dk) ∧ Hid (CompInv d (k + k2) kk dk)) (fun _ i _ => ((d.size : Int) - intOf i).toNat)
        case atStart =>
          obtain ⟨q, hq⟩ := Hd'.out
          refine ⟨k, 1, q, d, rfl, rfl, Nat.le_refl _, by omega, Lib.hid ?_, Lib.hid (CompInv.start hall.out (keeps_neg (by omega) (by rw [B.out.1, B.out.2])))⟩
          rw [hq]
          exact (putRowK_self encL 2 (Sort.ahead w q) blk off d (holdsK_ahead encL 2 w q blk off d HH.out)).symm
        case round =>
          obtain ⟨kk, k2, q2, dk, rfl, rfl, h1, hle, hwr, hI⟩ := hrel
          have hkk := hI.out.lt
          have hds := hI.out.size
          have hHk : HoldsK encL 2 wr blk off dk := by rw [hwr.out]; exact holdsK_putRowK encL 2 _ blk off d dk (holdsK_ahead encL 2 w q2 blk off d HH.out) hds
          have k2w : wrap64 ((k2 : Int) - 1) = ((k2 - 1 : Nat) : Int) := by unfold wrap64; omega
          have k2m : (k2 : Int) - 1 = ((k2 - 1 : Nat) : Int) := by omega
          rcases Nat.lt_or_ge (k + k2) d.size with hlt2 | hge2
          case inl =>
            have k2i : (k2 : Int) < ((d.size - k : Nat) : Int) := by omega
            have c10 := (hHk.cell (i := k + k2) (c := 0) (by omega) (by omega)).1
            have c11 := (hHk.cell (i := k + k2) (c := 1) (by omega) (by omega)).1
            have c00 := (hHk.cell (i := k + k2 - 1) (c := 0) (by omega) (by omega)).1
            have c01 := (hHk.cell (i := k + k2 - 1) (c := 1) (by omega) (by omega)).1
            have ck0 := hHk.cell (i := kk) (c := 0) (by omega) (by omega)
            have ck1 := hHk.cell (i := kk) (c := 1) (by omega) (by omega)
            rw [hI.out.high (k + k2) (by omega), show off + (k + k2) * 2 = off + k * 2 + k2 * 2 by omega] at c10 c11
            rw [hI.out.high (k + k2 - 1) (by omega), show off + (k + k2 - 1) * 2 = off + k * 2 + (k2 - 1) * 2 by omega] at c00 c01
            generalize hx : d[k + k2]! = x at c10 c11
            generalize hy : d[k + k2 - 1]! = y at c00 c01
            obtain ⟨x0, x1⟩ := x
            obtain ⟨y0, y1⟩ := y
            have C := Lib.hid (And.intro hx hy)
            change wr.cell? ⟨blk, off + k * 2 + k2 * 2, none⟩ = some (.int .i64 x0) at c10
            change wr.cell? ⟨blk, off + k * 2 + k2 * 2 + 1, none⟩ = some (.string x1) at c11
            change wr.cell? ⟨blk, off + k * 2 + (k2 - 1) * 2, none⟩ = some (.int .i64 y0) at c00
            change wr.cell? ⟨blk, off + k * 2 + (k2 - 1) * 2 + 1, none⟩ = some (.string y1) at c01
            generalize dk[kk]! = old at ck0 ck1
            obtain ⟨o0, o1⟩ := old
            change wr.cell? ⟨blk, off + kk * 2, none⟩ = some (.int .i64 o0) ∧ wr.frozen? ⟨blk, off + kk * 2, none⟩ = false at ck0
            change wr.cell? ⟨blk, off + kk * 2 + 1, none⟩ = some (.string o1) ∧ wr.frozen? ⟨blk, off + kk * 2 + 1, none⟩ = false at ck1
            obtain ⟨ck0, fk0⟩ := ck0
            obtain ⟨ck1, fk1⟩ := ck1
            have hki : (kk : Int) < (d.size : Int) := by omega
            clear hx hy hHk k2m
            by_cases hxy : (x0, x1) = (y0, y1)
            case pos =>
              obtain ⟨rfl, rfl⟩ : x0 = y0 ∧ x1 = y1 := by simpa using hxy
              have z := hself x1
              clear hxy
              go_wp2_with fail
              go_quiet (fail)
              go_wp2_with fail
              refine ⟨⟨kk, k2 + 1, q2 + nq, dk, rfl, rfl, by omega, by omega, Lib.hid ?_, Lib.hid ?_⟩, ?_⟩
              · rw [hwr.out, putRowK_drewN]
              · exact hI.out.skip (keeps_neg (by omega) (by rw [C.out.1, C.out.2]))
              · simp [intOf]
                omega
            case neg =>
              have hxn := Lib.hid hxy
              rcases eq_false_of_ne hxy with hz | ⟨hz, hz2⟩
              · have z : (x0 == y0) = false := by simpa using hz
                clear hz hxy
                go_wp2_with fail
                go_quiet (fail)
                go_wp2_with fail
                refine ⟨⟨kk + 1, k2 + 1, q2 + nq, dk.setIfInBounds kk (x0, x1), rfl, rfl, by omega, by omega, Lib.hid ?_, Lib.hid ?_⟩, ?_⟩
                · show (wr.drewN nq).setCells blk (off + kk * 2) (encL (x0, x1)) = _
                  rw [hwr.out, putRowK_drewN, putRowK_set encL 2 encL_length _ _ _ _ _ _ (by omega)]
                · have := hI.out.keep hlt2 (keeps_pos (by rw [C.out.1, C.out.2]; exact hxn.out))
                  rw [C.out.1] at this
                  exact this
                · simp [intOf]
                  omega
              · obtain rfl : x0 = y0 := hz
                have z := ne_list hz2
                clear hz2 hxy
                go_wp2_with fail
                go_quiet (fail)
                go_wp2_with fail
                refine ⟨⟨kk + 1, k2 + 1, q2 + nq, dk.setIfInBounds kk (x0, x1), rfl, rfl, by omega, by omega, Lib.hid ?_, Lib.hid ?_⟩, ?_⟩
                · show (wr.drewN nq).setCells blk (off + kk * 2) (encL (x0, x1)) = _
                  rw [hwr.out, putRowK_drewN, putRowK_set encL 2 encL_length _ _ _ _ _ _ (by omega)]
                · have := hI.out.keep hlt2 (keeps_pos (by rw [C.out.1, C.out.2]; exact hxn.out))
                  rw [C.out.1] at this
                  exact this
                · simp [intOf]
                  omega
          case inr =>
            have k2i : ((d.size - k : Nat) : Int) ≤ (k2 : Int) := by omega
            have hend : k + k2 = d.size := by omega
            have hat : ∀ j, j < (d.size - kk) * 2 → wr.cell? ⟨blk, off + kk * 2 + j, none⟩ = some (encL dk[kk + j / 2]!)[j % 2]! ∧ wr.frozen? ⟨blk, off + kk * 2 + j, none⟩ = false := fun j hj => by
              have h := hHk.cell (i := kk + j / 2) (c := j % 2) (by omega) (Nat.mod_lt _ (by decide))
              rw [show off + (kk + j / 2) * 2 + j % 2 = off + kk * 2 + j by omega] at h
              exact h
            obtain ⟨zs, hzl, hcl⟩ := run_clear_links wr blk (off + kk * 2) (d.size - kk) (cap - kk) (by omega) (fun j hj => by rw [(hat j hj).1]; rfl) (fun j hj => (hat j hj).2)
            have hki : (kk : Int) ≤ (d.size : Int) := by omega
            have hkc : (kk : Int) ≤ (cap : Int) := by omega
            have HHk := Lib.hid hHk
            have Hzl := Lib.hid hzl
            clear hat hHk hzl k2m k2w
            go_wp2_with fail
            go_ret
            refine ⟨?_, trivial⟩
            have hI := hI.out
            rw [hend] at hI
            have hCO := HCO.out
            rw [← hCO]
            unfold CompOut
            rw [hI.len]
            refine ⟨rfl, ⟨by omega, fun hn => ⟨blk, off, rfl, ?_, fun i hi => ?_⟩⟩, ?_⟩
            · have := (moved_setCells blk zs (off + kk * 2) wr w (by rw [hwr.out]; exact moved_putRowK w q2 blk off dk)).size
              exact Nat.lt_of_lt_of_le hblk this
            · have hl := hI.low i hi
              have hv : (compactUpTo d d.size)[i]! = dk[i]! := by
                rw [List.getElem!_eq_getElem?_getD, hl]
                rfl
              show (wr.setCells blk (off + kk * 2) zs).cell? ⟨blk, off + i * 2, none⟩ = some (.int .i64 (compactUpTo d d.size)[i]!.1) ∧ (wr.setCells blk (off + kk * 2) zs).cell? ⟨blk, off + i * 2 + 1, none⟩ = some (.string (compactUpTo d d.size)[i]!.2)
              rw [hv, World.cell?_setCells_out _ _ _ _ _ (fun _ _ => Or.inl (by show off + i * 2 < off + kk * 2; omega)), World.cell?_setCells_out _ _ _ _ _ (fun _ _ => Or.inl (by show off + i * 2 + 1 < off + kk * 2; omega))]
              exact ⟨(HHk.out.cell (i := i) (c := 0) (by omega) (by omega)).1, (HHk.out.cell (i := i) (c := 1) (by omega) (by omega)).1⟩
            · exact moved_setCells blk zs (off + kk * 2) wr w (by rw [hwr.out]; exact moved_putRowK w q2 blk off dk)
end Go.Proofs.Ytmdchfmcghiaeaa.Obj
