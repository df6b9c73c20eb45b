/- The law TreeRestores: for every input it says true: the files of any entries, from any chunks, or what is amiss first, and where. No condition. -/
import Derived.Test.YtmekcbbieacioaaGreatDoorP4
import Derived.Test.YtmekcbbieacioaaGreatDoorRows
import Derived.Test.YtmekcbbieacioaaGreatDoorTie
import Derived.Test.YtmekcbbieacioaaGreatDoorCards
import Derived.Lay
import Derived.LaidMore
import Derived.LaidHandle
import Derived.LaidOnce
import Derived.FnData
import Derived.Test.YtmekcbbieacioaaGreatDoorAlZr
set_option linter.all false
namespace Go.Proofs.YtmekcbbieacioaaGreatDoorFn
open Go.Proofs.YtmekcbbieacioaaGreatDoorAl Go.Proofs.Tryz
attribute [local irreducible] IntKind.wrap CodeOk OpsL OpG ACalls thn inBlk rndR cutR WkR Wk fnR DW ExtOk partsOf
theorem b6 : HasBody prog 6 := ⟨f6, func6, Option.some_ne_none _, by decide⟩
theorem lostAt_ge (cs : List ByteArray) : ∀ (l : List EV) (i : Nat) {k : Nat}, lostAt cs l i = some k → i ≤ k
  | [], i, k, h => by cases h
  | e :: r, i, k, h => by
    unfold lostAt at h
    split at h
    · cases h; exact Nat.le_refl _
    · have := lostAt_ge cs r (i + 1) h; omega
set_option maxHeartbeats 4000000 in
theorem rest_long (o' : Obj) (l : List EV) (cs : List ByteArray) (hu : ACalls prog 10 1 [] [(0, .fact 0 o')] fun r h => r = B true ∧ h = [(0, .fact 0 o')])
    (hs : ACalls prog 16 0 [.st (.sl 3 (l.map rowE))] [] fun r h => r = B (shortE l) ∧ h = []) (h : shortE l = false ∨ 1000 < cs.length) (ht : cs.length ≤ 140737488351232) :
    ACalls prog 6 1 [.st (.sl 3 (l.map rowE)), .st (.sl 1 (cs.map rowS))] [(0, .fact 0 o')] fun r h => r = B true ∧ h = [(0, .fact 0 o')] := by
  have hmc : (List.map rowS cs).length = cs.length := List.length_map _
  refine fnC lay_ok func6 rfl rfl rfl rfl rfl ?_
  cases hse : shortE l with
  | false =>
    rw [hse] at hs
    repeat' first | refine wr (by omega) ?_ | refine ln ?_ | refine stp lay_ok rfl ?_ | refine fin ?_ | refine n_thn ?_ | refine n_blk ?_ | refine e_thn ?_ | refine e_hit ?_ | refine e_miss rfl ?_ | refine r_thn ?_ | refine r_blk ?_ | refine e_rr ?_ | refine r_rr ?_ | refine e_cr ?_ | refine r_cr ?_ | refine .seq ?_ | refine reg ?_ | refine .block ?_ | refine .skip ?_ | refine .ret ?_ | refine .exit ?_ | refine cndT rfl ?_ | refine cndF rfl ?_ | refine c_dec rfl (fun hc => ?_) (fun hc => ?_) | refine c_ndec rfl (fun hc => ?_) (fun hc => ?_) | refine cnd rfl (fun hc => ?_) (fun hc => ?_) | ((first | refine o_none rfl ?_ | refine o_none_ ?_ | refine o_yes rfl rfl rfl ?_ | refine o_yes_ rfl rfl ?_); first | refine st_callK [0] (hu) b10 rfl rfl rfl rfl rfl (by (repeat' first | exact trivial | refine And.intro ?_ ?_ | rfl); first | done | fail) ?_ | refine st_pure (hs) b16 rfl rfl rfl rfl ?_) | refine gd rfl rfl rfl (fun hg => ?_) (fun hg => ?_) | refine gn rfl rfl rfl (fun hg => ?_) (fun hg => ?_)
    refine f_r [(0, .fact 0 o')] rfl (by (repeat' first | exact trivial | refine And.intro ?_ ?_ | rfl); first | done | fail) rfl ⟨?_, rfl⟩
    rfl
  | true =>
    have h2 : 1000 < cs.length := by
      rcases h with h | h
      · rw [hse] at h; cases h
      · exact h
    rw [hse] at hs
    repeat' first | refine wr (by omega) ?_ | refine ln ?_ | refine stp lay_ok rfl ?_ | refine fin ?_ | refine n_thn ?_ | refine n_blk ?_ | refine e_thn ?_ | refine e_hit ?_ | refine e_miss rfl ?_ | refine r_thn ?_ | refine r_blk ?_ | refine e_rr ?_ | refine r_rr ?_ | refine e_cr ?_ | refine r_cr ?_ | refine .seq ?_ | refine reg ?_ | refine .block ?_ | refine .skip ?_ | refine .ret ?_ | refine .exit ?_ | refine cndT rfl ?_ | refine cndF rfl ?_ | refine c_dec rfl (fun hc => ?_) (fun hc => ?_) | refine c_ndec rfl (fun hc => ?_) (fun hc => ?_) | refine cnd rfl (fun hc => ?_) (fun hc => ?_) | ((first | refine o_none rfl ?_ | refine o_none_ ?_ | refine o_yes rfl rfl rfl ?_ | refine o_yes_ rfl rfl ?_); first | refine st_callK [0] (hu) b10 rfl rfl rfl rfl rfl (by (repeat' first | exact trivial | refine And.intro ?_ ?_ | rfl); first | done | fail) ?_ | refine st_pure (hs) b16 rfl rfl rfl rfl ?_) | refine gd rfl rfl rfl (fun hg => ?_) (fun hg => ?_) | refine gn rfl rfl rfl (fun hg => ?_) (fun hg => ?_)
    all_goals first
      | (exfalso; omega)
      | skip
    refine f_r [(0, .fact 0 o')] rfl (by (repeat' first | exact trivial | refine And.intro ?_ ?_ | rfl); first | done | fail) rfl ⟨?_, rfl⟩
    rfl
set_option maxHeartbeats 4000000 in
theorem rest_spot (o' : Obj) (hO : LaidE o') (l : List EV) (cs : List ByteArray) (i n : Nat) (hn : n ≠ 0) (hu : ACalls prog 10 1 [] [(0, .fact 0 o')] fun r h => r = B true ∧ h = [(0, .fact 0 o')])
    (hs : ACalls prog 16 0 [.st (.sl 3 (l.map rowE))] [] fun r h => r = B true ∧ h = []) (ht : cs.length ≤ 1000)
    (h1 : ACalls prog 23 0 [.st (.sl 3 (l.map rowE)), .st (.sl 1 (cs.map rowS))] [] fun r h => r = .tuple [.st .nilsl, spotE i n] ∧ h = [])
    (h2 : ACalls prog 24 0 [.st (.sl 3 (l.map rowE)), .st (.sl 1 (cs.map rowS))] [] fun r h => r = .tuple [.st .nilsl, I n, I i] ∧ h = []) :
    ACalls prog 6 1 [.st (.sl 3 (l.map rowE)), .st (.sl 1 (cs.map rowS))] [(0, .fact 0 o')] fun r h => r = B true ∧ h = [(0, .fact 0 o')] := by
  have hmc : (List.map rowS cs).length = cs.length := List.length_map _
  have h3 := toldSpot_ok o' hO i n
  refine fnC lay_ok func6 rfl rfl rfl rfl rfl ?_
  repeat' first | refine wr (by omega) ?_ | refine ln ?_ | refine stp lay_ok rfl ?_ | refine fin ?_ | refine n_thn ?_ | refine n_blk ?_ | refine e_thn ?_ | refine e_hit ?_ | refine e_miss rfl ?_ | refine r_thn ?_ | refine r_blk ?_ | refine e_rr ?_ | refine r_rr ?_ | refine e_cr ?_ | refine r_cr ?_ | refine .seq ?_ | refine reg ?_ | refine .block ?_ | refine .skip ?_ | refine .ret ?_ | refine .exit ?_ | refine cndT rfl ?_ | refine cndF rfl ?_ | refine c_dec rfl (fun hc => ?_) (fun hc => ?_) | refine c_ndec rfl (fun hc => ?_) (fun hc => ?_) | refine cnd rfl (fun hc => ?_) (fun hc => ?_) | ((first | refine o_none rfl ?_ | refine o_none_ ?_ | refine o_yes rfl rfl rfl ?_ | refine o_yes_ rfl rfl ?_); first | refine st_callK [0] (hu) b10 rfl rfl rfl rfl rfl (by (repeat' first | exact trivial | refine And.intro ?_ ?_ | rfl); first | done | fail) ?_ | refine st_pure (hs) b16 rfl rfl rfl rfl ?_ | refine st_pure (h1) b23 rfl rfl rfl rfl ?_ | refine st_pure (h2) b24 rfl rfl rfl rfl ?_ | refine st_callK [0] (h3) b14 rfl rfl rfl rfl rfl (by (repeat' first | exact trivial | refine And.intro ?_ ?_ | rfl); first | done | fail) ?_) | refine gd rfl rfl rfl (fun hg => ?_) (fun hg => ?_) | refine gn rfl rfl rfl (fun hg => ?_) (fun hg => ?_)
  all_goals first
    | (exfalso; omega)
    | skip
  refine f_r [(0, .fact 0 o')] rfl (by (repeat' first | exact trivial | refine And.intro ?_ ?_ | rfl); first | done | fail) rfl ⟨?_, rfl⟩
  rfl
set_option maxHeartbeats 4000000 in
theorem lawRestores_ok (o' : Obj) (hO : LaidE o') (l : List EV) (cs : List ByteArray) (hcl : cs.length ≤ 140737488351232) :
    ACalls prog 6 1 [.st (.sl 3 (l.map rowE)), .st (.sl 1 (cs.map rowS))] [(0, .fact 0 o')] fun r h => r = B true ∧ h = [(0, .fact 0 o')] := by
  have hu := up_ok o' hO
  have hs := short4_ok l
  have hmc : (List.map rowS cs).length = cs.length := List.length_map _
  by_cases hno : shortE l = false ∨ 1000 < cs.length
  · exact rest_long o' l cs hu hs hno hcl
  have hse : shortE l = true := by
    cases h : shortE l with
    | true => rfl
    | false => exact absurd (.inl h) hno
  have ht2 : cs.length ≤ 1000 := by
    rcases Nat.lt_or_ge 1000 cs.length with h | h
    · exact absurd (.inr h) hno
    · exact h
  rw [hse] at hs
  obtain ⟨h100, hall⟩ := short_bounds' hse
  have hl : l.length ≤ 4000000000 := by omega
  have hp : ∀ e ∈ l, e.path.size ≤ 4000000000 - 1 := fun e he => by have := hall e he; omega
  have hk : ∀ e ∈ l, e.keys.length ≤ 4000000000 := fun e he => by have := hall e he; omega
  have h1 := restore_ok l cs hl hp hk (by omega)
  have h2 := refRestore_ok l cs hl hp hk (by omega)
  unfold restR at h1
  unfold restP checkP at h2
  by_cases h32 : 32 < l.length
  · rw [if_pos h32] at h1
    simp only [if_pos h32] at h2
    rw [if_pos (by decide)] at h2
    have h3 : ACalls prog 14 0 [errE 7, I 7, I (-1)] [] fun r h => r = B true ∧ h = [] := toldCode_ok 7 7 (by decide) (by decide)
    refine fnC lay_ok func6 rfl rfl rfl rfl rfl ?_
    repeat' first | refine wr (by omega) ?_ | refine ln ?_ | refine stp lay_ok rfl ?_ | refine fin ?_ | refine n_thn ?_ | refine n_blk ?_ | refine e_thn ?_ | refine e_hit ?_ | refine e_miss rfl ?_ | refine r_thn ?_ | refine r_blk ?_ | refine e_rr ?_ | refine r_rr ?_ | refine e_cr ?_ | refine r_cr ?_ | refine .seq ?_ | refine reg ?_ | refine .block ?_ | refine .skip ?_ | refine .ret ?_ | refine .exit ?_ | refine cndT rfl ?_ | refine cndF rfl ?_ | refine c_dec rfl (fun hc => ?_) (fun hc => ?_) | refine c_ndec rfl (fun hc => ?_) (fun hc => ?_) | refine cnd rfl (fun hc => ?_) (fun hc => ?_) | ((first | refine o_none rfl ?_ | refine o_none_ ?_ | refine o_yes rfl rfl rfl ?_ | refine o_yes_ rfl rfl ?_); first | refine st_callK [0] (hu) b10 rfl rfl rfl rfl rfl (by (repeat' first | exact trivial | refine And.intro ?_ ?_ | rfl); first | done | fail) ?_ | refine st_pure (hs) b16 rfl rfl rfl rfl ?_ | refine st_pure (h1) b23 rfl rfl rfl rfl ?_ | refine st_pure (h2) b24 rfl rfl rfl rfl ?_ | refine st_pure (h3) b14 rfl rfl rfl rfl ?_) | refine gd rfl rfl rfl (fun hg => ?_) (fun hg => ?_) | refine gn rfl rfl rfl (fun hg => ?_) (fun hg => ?_)
    all_goals first
      | (exfalso; omega)
      | skip
    refine f_r [(0, .fact 0 o')] rfl (by (repeat' first | exact trivial | refine And.intro ?_ ?_ | rfl); first | done | fail) rfl ⟨?_, rfl⟩
    rfl
  rw [if_neg h32] at h1
  simp only [if_neg h32] at h2
  cases hb : badFrom l l.length 0 with
  | some x =>
    obtain ⟨i, n⟩ := x
    rw [hb] at h1 h2
    simp only at h1 h2
    have hn := badFrom_nat l _ _ hb
    obtain ⟨m, rfl⟩ : ∃ m : Nat, n = m := ⟨n.toNat, by omega⟩
    rw [if_pos (by omega)] at h2
    exact rest_spot o' hO l cs i m (by omega) hu hs ht2 h1 h2
  | none =>
    rw [hb] at h1 h2
    simp only at h1 h2
    rw [if_neg (by simp)] at h2
    cases hlo : lostAt cs l 0 with
    | some i =>
      rw [hlo] at h1 h2
      exact rest_spot o' hO l cs i 3 (by decide) hu hs ht2 h1 h2
    | none =>
      rw [hlo] at h1 h2
      simp only at h1 h2
      have h3 := files_ok (l.map backF) (l.map backF) (by simp; omega) (by simp; omega)
      rw [decide_eq_true rfl] at h3
      generalize l.map backF = fs at *
      refine fnC lay_ok func6 rfl rfl rfl rfl rfl ?_
      repeat' first | refine wr (by omega) ?_ | refine ln ?_ | refine stp lay_ok rfl ?_ | refine fin ?_ | refine n_thn ?_ | refine n_blk ?_ | refine e_thn ?_ | refine e_hit ?_ | refine e_miss rfl ?_ | refine r_thn ?_ | refine r_blk ?_ | refine e_rr ?_ | refine r_rr ?_ | refine e_cr ?_ | refine r_cr ?_ | refine .seq ?_ | refine reg ?_ | refine .block ?_ | refine .skip ?_ | refine .ret ?_ | refine .exit ?_ | refine cndT rfl ?_ | refine cndF rfl ?_ | refine c_dec rfl (fun hc => ?_) (fun hc => ?_) | refine c_ndec rfl (fun hc => ?_) (fun hc => ?_) | refine cnd rfl (fun hc => ?_) (fun hc => ?_) | ((first | refine o_none rfl ?_ | refine o_none_ ?_ | refine o_yes rfl rfl rfl ?_ | refine o_yes_ rfl rfl ?_); first | refine st_callK [0] (hu) b10 rfl rfl rfl rfl rfl (by (repeat' first | exact trivial | refine And.intro ?_ ?_ | rfl); first | done | fail) ?_ | refine st_pure (hs) b16 rfl rfl rfl rfl ?_ | refine st_pure (h1) b23 rfl rfl rfl rfl ?_ | refine st_pure (h2) b24 rfl rfl rfl rfl ?_ | refine st_pure (h3) b25 rfl rfl rfl rfl ?_) | refine gd rfl rfl rfl (fun hg => ?_) (fun hg => ?_) | refine gn rfl rfl rfl (fun hg => ?_) (fun hg => ?_)
      all_goals first
        | (exfalso; omega)
        | skip
      refine f_r [(0, .fact 0 o')] rfl (by (repeat' first | exact trivial | refine And.intro ?_ ?_ | rfl); first | done | fail) rfl ⟨?_, rfl⟩
      rfl
end Go.Proofs.YtmekcbbieacioaaGreatDoorFn
namespace Go.Proofs.YtmekcbbieacioaaGreatDoor
open Go.Proofs.YtmekcbbieacioaaGreatDoorAl Go.ChangeAt Go.RowKit
open Go.Proofs.YtmekcbbieacioaaGreatDoorFn
theorem own : ownKnob Tryz.prog.godebug = none := by kernel_rfl
theorem laidOut : laidOutB Tryz.prog = true := by kernel_rfl
def pars : List Par := [⟨27, false, ΦL 3 48 ΦE⟩, ⟨39, false, ΦL 1 16 ΦS⟩]
theorem pars_ok : ParsOk Tryz.prog pars :=
  ⟨rdLE, ⟨_, Tryz.underlying27, rfl⟩, by kernel_rfl, of_decide_eq_true (by kernel_rfl),
   rdLS, ⟨_, Tryz.underlying39, rfl⟩, by kernel_rfl, of_decide_eq_true (by kernel_rfl), trivial⟩
theorem law_ok : LawOkF Tryz.prog 6 pars LaidE := by
  rintro svs ⟨_, _, rfl, ⟨r0, h0, hr0, hl0⟩, _, _, rfl, ⟨r1, h1, hr1, hl1⟩, rfl⟩ o hO
  cases h0
  obtain ⟨x0, rfl, hm0⟩ := rows_map (f := rowE) (Ok := EV.inMem) (fun row hm => ofE (hr0 row hm))
  simp only [List.length_map] at hl0
  cases h1
  obtain ⟨x1, rfl, hm1⟩ := ofSs hr1
  simp only [List.length_map] at hl1
  have hreach : reachBytes ≤ 140737488351232 := by decide
  exact lawRestores_ok o hO x0 x1 (by omega)
theorem hE (W : World) (h : laidMetH Tryz.prog Rows.treeRestoresRow.laid W) : ∃ o, W.heap[0]? = some o ∧ LaidE o := by
  have h' : laidMet Tryz.prog [("unicode/utf8.acceptRanges", Rows.laid_unicode_utf8_acceptRanges), ("unicode/utf8.first", Rows.laid_unicode_utf8_first)] W ∧ handlesMet Tryz.prog [("errors.errorType", Rows.laid_errors_errorType)] W := h
  obtain ⟨name, u, ty, e1, e2, e3, e4, e5⟩ := h'.2 _ (List.mem_singleton.2 rfl)
  have en : name = [101, 114, 114, 111, 114] := (Option.some.inj e1).symm
  subst en
  obtain rfl := Option.some.inj ((show (Tryz.prog.cutTypes.find? (·.1 == "internal/reflectlite.rtype")).map (·.2) = some 139 by kernel_rfl).symm.trans e2)
  have hm : ty ∈ (List.range Tryz.prog.types.size).filter fun t => Tryz.prog.rowNamed t [101, 114, 114, 111, 114] := List.mem_filter.2 ⟨List.mem_range.2 e3, e4⟩
  rw [show ((List.range Tryz.prog.types.size).filter fun t => Tryz.prog.rowNamed t [101, 114, 114, 111, 114]) = [29] by kernel_rfl] at hm
  obtain rfl := List.mem_singleton.1 hm
  rw [show typeHandle Tryz.prog 29 = .pointer (some ⟨4, 29, none⟩) by kernel_rfl] at e5
  have hc := World.var?_cell (show Tryz.prog.globalNamed "errors.errorType" = some 0 by kernel_rfl) e5 0
  unfold World.cell? at hc
  split at hc
  · rename_i c T fr ho
    exact ⟨_, ho, c, T, fr, rfl, by simpa using hc⟩
  · cases hc
def plain : List (String × DataW Unit) := [("unicode/utf8.acceptRanges", Rows.laid_unicode_utf8_acceptRanges), ("unicode/utf8.first", Rows.laid_unicode_utf8_first)]
noncomputable def w0 (os : Os) : World := { World.holding Tryz.prog os ⟨#[], #[], []⟩ with heap := (World.holding Tryz.prog os ⟨#[], #[], []⟩).heap.modify 0 fun
  | .cells _ t fr => .cells #[.iface 139 (.agg #[.pointer (some ⟨4, 29, none⟩)])] t fr
  | o => o }
noncomputable def w1 (os : Os) : World := (w0 os).layVars Tryz.prog plain
theorem plain_met (os : Os) : laidMet Tryz.prog plain (w1 os) := by
  have e1 : (plain.filter fun x => (plain.map (·.1)).contains x.1) = plain := List.filter_eq_self.2 fun x hx => List.contains_iff_mem.2 (List.mem_map.2 ⟨x, hx, rfl⟩)
  have e2 : (plain.filter fun x => !(plain.map (·.1)).contains x.1) = [] := List.filter_eq_nil_iff.2 fun x hx => by rw [List.contains_iff_mem.2 (List.mem_map.2 ⟨x, hx, rfl⟩)]; simp
  exact laidMet_layVars (w0 := w0 os) (plain.map (·.1)) [] (by rw [e1]; rfl) (by rw [e1]; kernel_rfl) (by rw [e1]; kernel_rfl) (by rw [e2]; exact LaidIn.none)
theorem door_met (os : Os) (args : Array Value) : laidMetH Tryz.prog Rows.treeRestoresRow.laid ((w1 os).forCall (fun _ _ => 0) ⟨#[], args, []⟩).memory :=
  laidMetH_of_parts (show laidMet Tryz.prog plain _ from (plain_met os).of_heap (by simp [World.memory, World.forCall, Input.heap])) (by kernel_rfl)
set_option maxRecDepth 100000 in
theorem law_lift (os : Os) (started : os.Started) (H : Type) (enc : TypeId × Value → H) :
    ReturnsInHanded {} Tryz.checked os 6 .any (fun w args => (Rows.treeRestoresSpec.pre enc Tryz.prog Tryz.f6 [] false w args ∧ laidMetH Tryz.prog Rows.treeRestoresRow.laid w) ∧ sizedMet enc Tryz.prog Tryz.f6 (OpenSpec.ofChange Rows.treeRestoresSpec) false w args) (Rows.treeRestoresSpec.post enc Tryz.prog Tryz.f6 false true false false) :=
  law_liftedF (C := Tryz.checked) (ps := pars) own started (by kernel_rfl) Tryz.func6
    (ChangeSpec.witness_shaped (enc := enc) (C := Tryz.checked) (os := os) (X := fun w _ => laidMetH Tryz.prog Rows.treeRestoresRow.laid w) false (w1 os) #[.slice none 0 0, .slice none 0 0] 8 (World.layVars_os _ _ _)
      (World.shaped_of_ZipB (by kernel_rfl) (by kernel_rfl)) (by kernel_rfl) (by kernel_rfl) (by kernel_rfl) (door_met os _))
    laidOut rfl rfl Tryz.underlying4 rfl
    (fun ds hds => by
      match ds, hds with
      | [_, _], _ => rfl) pars_ok LaidE hE law_ok
theorem law_over : Rows.treeRestoresRow.holds Tryz.pinned (OpenSpec.ofChange Rows.treeRestoresSpec) :=
  OpenClaim.holds_of_wide 6 Tryz.f6 rfl rfl rfl rfl rfl rfl rfl ⟨rfl, rfl, rfl, rfl, rfl⟩ rfl rfl rfl rfl rfl (by kernel_rfl) Tryz.func6 (by kernel_rfl)
    (of_decide_eq_true (by kernel_rfl)) (by unfold Func.isWrapper; first | (rw [if_pos (by decide +kernel)]; kernel_rfl) | (rw [if_neg (by decide +kernel)]; exact ⟨rfl, rfl⟩))
    (fun os started H enc _ => law_lift os started H enc)
theorem TreeRestores_holds : Rows.TreeRestoresCardSaid :=
  Claim7.holds_tied_plain_at .later [] [.data, .handle, .pinned] true Rows.treeRestoresCard.stood.harness Rows.treeRestoresCard.stood.looks law_over (fun _ h => by cases h) (by kernel_rfl) (fun _ h => by cases h) treeRestores_row_tie rfl ⟨rfl, rfl⟩ (by kernel_rfl) rfl
    (fun f fn hf hfn => by
      obtain rfl : f = 6 := Option.some.inj ((show Tryz.prog.funcNamed "becket/becketlaw04.TreeRestores" = some 6 by kernel_rfl).symm.trans hf) |>.symm
      obtain rfl : fn = Tryz.f6 := (Option.some.inj (Tryz.func6.symm.trans hfn)).symm
      exact ⟨by kernel_rfl, fun j t ht => by
        have hm : t ∈ ([27, 39] : List Nat) := by
          have e := Array.mem_of_getElem? ht
          rw [Tryz.params6] at e
          simpa using e
        have hall : (([27, 39] : List Nat).all fun u => !Tryz.prog.wantsStandIn u) = true := by kernel_rfl
        exact (show Tryz.prog.wantsStandIn t = false by simpa using List.all_eq_true.1 hall t hm)⟩)
    (by kernel_rfl)
#print axioms TreeRestores_holds
end Go.Proofs.YtmekcbbieacioaaGreatDoor
