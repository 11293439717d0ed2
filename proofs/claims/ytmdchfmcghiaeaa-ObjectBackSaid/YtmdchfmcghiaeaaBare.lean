/- The reference's Bare: an object without the fields that play no part. No conditions but the slices' own cells. -/
import Derived.Test.YtmdchfmcghiaeaaSame
namespace Go.Proofs.Ytmdchfmcghiaeaa.Obj
open Go.RowKit
theorem bare_one (o : Plain) (h : o.k = 1) : bare o = { none_ with k := 1, d := o.d } := by unfold bare; rw [if_pos h]
theorem bare_two (o : Plain) (h : o.k = 2) : bare o = { none_ with k := 2, ne := o.ne, nm := o.nm, kd := o.kd, id := o.id } := by unfold bare; rw [if_neg (by omega), if_pos h]
theorem bare_other (o : Plain) (h1 : o.k ≠ 1) (h2 : o.k ≠ 2) : bare o = { none_ with k := o.k, t := o.t, np := o.np, f := o.f, h := o.h, n := o.n } := by unfold bare; rw [if_neg h1, if_neg h2]
theorem results_cell1 {P : Program} {fn : Func} {p : Tmp} {ty : TypeId} (h : fn.results = #[.cell p ty]) (tmps : Array Value) (w : World) (g : Nat) (t : TypeId) (cs : Array Value) (fr : Nat × Nat) (d : TypeDesc)
    (hp : tmps.getD p undef = .pointer (some ⟨g, 0, none⟩)) (hg : w.heap[g]? = some (.cells cs t fr))
    (hu : P.underlying ty = some d) (hd : (match d with | .struct _ | .array _ _ => true | _ => false) = true) (hi : (P.info? ty).map (·.size) = some cs.size) :
    (results fn tmps).run P w = .ok (.agg cs) w := by
  have hp' : tmps[p]?.getD undef = .pointer (some ⟨g, 0, none⟩) := by simpa using hp
  simp [results, h, hp', asAddr, run_loadVar_row w g t ty cs fr d hg hu hd hi]
theorem bare_end (w w8 : World) (b : Nat) (x : Array Value) (tmps : Array Value) (h2 : tmps.getD 2 undef = .pointer (some ⟨b, 0, none⟩)) (hx : x.size = 7) (k : BlkIs w8 b 34 x) (hb : Below w.heap.size w w8) :
    bodyPost Try.prog Try.f30 (fun e w' => e = .returned (.agg x) ∧ Below w.heap.size w w') Exit.ret ⟨tmps, []⟩ w8 := by
  have hinfo : (Try.prog.info? 34).map (·.size) = some x.size := by rw [hx]; kernel_rfl
  refine bodyPost_ret (results_cell1 rfl _ _ b 34 x (0, 0) _ h2 k Try.underlying34 rfl hinfo) rfl ?_
  exact ⟨rfl, hb⟩
theorem bare_walk (k : Int) (d : ByteArray) (ao : Option Addr) (n cap : Nat) (t : ByteArray) (ap : Option Addr) (m cp : Nat) (h : Int) (nt : ByteArray) (w : World) :
    Calls Try.prog 30 #[obj k d (.slice ao n cap) t (.slice ap m cp) h nt] w fun e w' =>
      e = .returned (if k = 1 then obj 1 d (.slice none 0 0) ⟨#[]⟩ (.slice none 0 0) 0 ⟨#[]⟩ else if k = 2 then obj 2 ⟨#[]⟩ (.slice ao n cap) ⟨#[]⟩ (.slice none 0 0) 0 ⟨#[]⟩ else obj k ⟨#[]⟩ (.slice none 0 0) t (.slice ap m cp) h nt) ∧ Below w.heap.size w w' := by
  by_cases h1 : k = 1
  case pos =>
    subst h1
    rw [if_pos rfl]
    have Hb := Lib.hid (((Below.refl w.heap.size w).alloc (Nat.le_refl _) (.cells #[.int .i64 1, .string d, .slice ao n cap, .string t, .slice ap m cp, .int .i64 h, .string nt] 34)).alloc (by simp) (.cells #[.int .i64 1, .string d, .slice none 0 0, .string ⟨#[]⟩, .slice none 0 0, .int .i64 0, .string ⟨#[]⟩] 34))
    unfold obj
    go_enter Try.func30, Try.ntmps30
    go_wp2_with fail
    exact bare_end w _ (w.heap.size + 1) #[.int .i64 1, .string d, .slice none 0 0, .string ⟨#[]⟩, .slice none 0 0, .int .i64 0, .string ⟨#[]⟩] _ (by kernel_rfl) rfl (BlkIs.new2 _ _ _ _) Hb.out
  rw [if_neg h1]
  by_cases h2 : k = 2
  case pos =>
    subst h2
    rw [if_pos rfl]
    have Hb := Lib.hid (((Below.refl w.heap.size w).alloc (Nat.le_refl _) (.cells #[.int .i64 2, .string d, .slice ao n cap, .string t, .slice ap m cp, .int .i64 h, .string nt] 34)).alloc (by simp) (.cells #[.int .i64 2, .string ⟨#[]⟩, .slice ao n cap, .string ⟨#[]⟩, .slice none 0 0, .int .i64 0, .string ⟨#[]⟩] 34))
    unfold obj
    go_enter Try.func30, Try.ntmps30
    go_wp2_with fail
    exact bare_end w _ (w.heap.size + 1) #[.int .i64 2, .string ⟨#[]⟩, .slice ao n cap, .string ⟨#[]⟩, .slice none 0 0, .int .i64 0, .string ⟨#[]⟩] _ (by kernel_rfl) rfl (BlkIs.new2 _ _ _ _) Hb.out
  rw [if_neg h2]
  have Hb := Lib.hid (((Below.refl w.heap.size w).alloc (Nat.le_refl _) (.cells #[.int .i64 k, .string d, .slice ao n cap, .string t, .slice ap m cp, .int .i64 h, .string nt] 34)).alloc (by simp) (.cells #[.int .i64 k, .string ⟨#[]⟩, .slice none 0 0, .string t, .slice ap m cp, .int .i64 h, .string nt] 34))
  unfold obj
  have z1 : (k == 1) = false := by simpa using h1
  have z2 : (k == 2) = false := by simpa using h2
  go_enter Try.func30, Try.ntmps30
  go_wp2_with fail
  exact bare_end w _ (w.heap.size + 1) #[.int .i64 k, .string ⟨#[]⟩, .slice none 0 0, .string t, .slice ap m cp, .int .i64 h, .string nt] _ (by kernel_rfl) rfl (BlkIs.new2 _ _ _ _) Hb.out
/-- Its fields' slices, named once for all worlds. -/
theorem bare_any (o : Plain) (es ps : Value) (w : World) (he : EntsV w es o) (hp : StrsC w ps o) : ∃ es' ps', ∀ w', EntsV w' es o → StrsC w' ps o → EntsV w' es' (bare o) ∧ StrsV w' ps' (bare o) ∧
    Calls Try.prog 30 #[obj o.k o.d es o.t ps o.h o.n] w' fun e w'' => e = .returned (obj (bare o).k (bare o).d es' (bare o).t ps' (bare o).h (bare o).n) ∧ Below w'.heap.size w' w'' := by
  obtain ⟨ao, cap, rfl, -⟩ := he
  obtain ⟨ap, cp, rfl, -, -⟩ := hp
  by_cases h1 : o.k = 1
  · refine ⟨.slice none 0 0, .slice none 0 0, fun w' _ _ => ?_⟩
    rw [bare_one o h1]
    refine ⟨entsV_nil _ _ rfl, strsV_nil _ _ rfl, ?_⟩
    have h := bare_walk o.k o.d ao o.ne cap o.t ap o.np cp o.h o.n w'
    rw [if_pos h1] at h
    exact h
  by_cases h2 : o.k = 2
  · refine ⟨.slice ao o.ne cap, .slice none 0 0, fun w' g1 _ => ?_⟩
    rw [bare_two o h2]
    refine ⟨g1, strsV_nil _ _ rfl, ?_⟩
    have h := bare_walk o.k o.d ao o.ne cap o.t ap o.np cp o.h o.n w'
    rw [if_neg h1, if_pos h2] at h
    exact h
  · refine ⟨.slice none 0 0, .slice ap o.np cp, fun w' _ g2 => ?_⟩
    rw [bare_other o h1 h2]
    refine ⟨entsV_nil _ _ rfl, g2.strs, ?_⟩
    have h := bare_walk o.k o.d ao o.ne cap o.t ap o.np cp o.h o.n w'
    rw [if_neg h1, if_neg h2] at h
    exact h
end Go.Proofs.Ytmdchfmcghiaeaa.Obj
