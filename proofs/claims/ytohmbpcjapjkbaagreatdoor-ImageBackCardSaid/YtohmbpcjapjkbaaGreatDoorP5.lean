/- The law ImageBack: for every input it says true: what was put is got as it was; what was got is put as those bytes. No condition. -/
import Derived.Test.YtohmbpcjapjkbaaGreatDoorP4
import Derived.Test.YtohmbpcjapjkbaaGreatDoorRows
import Derived.Test.YtohmbpcjapjkbaaGreatDoorTie
import Derived.Test.YtohmbpcjapjkbaaGreatDoorCards
set_option linter.all false
namespace Go.Proofs.YtohmbpcjapjkbaaGreatDoorFn
open Go.Proofs.YtohmbpcjapjkbaaGreatDoorAl Go.Proofs.Tryz
attribute [local irreducible] IntKind.wrap CodeOk OpsL OpG ACalls thn inBlk rndR cutR WkR Wk fnR DW ExtOk partsOf
theorem b6 : HasBody prog 6 := ⟨f6, func6, Option.some_ne_none _, by decide⟩
/-! ### what was put is got as it was; what was got is put as those bytes -/
set_option maxHeartbeats 16000000 in
set_option maxRecDepth 4000 in
theorem lawBack_ok (ds : List DV) (b0 : List UInt8) (hb0 : b0.length ≤ 140737488351232) : ACalls prog 6 0 [.st (.sl 6 (ds.map rowD)), Bs b0] [] fun r h => r = B true ∧ h = [] := by
  have hup := up_ok
  have hsh := shortD_ok ds
  have hN := newC_ok
  have hm : (List.map rowD ds).length = ds.length := List.length_map _
  have hm0 : (List.map rowB b0).length = b0.length := List.length_map _
  by_cases hSS : shortD ds = true ∧ b0.length ≤ 20000
  case neg =>
    refine fnC lay_ok func6 rfl rfl rfl rfl rfl ?_
    cases hS : shortD ds <;> rw [hS] at hsh
    all_goals
      repeat' first | refine ln ?_ | refine stp lay_ok rfl ?_ | refine fin ?_ | refine n_thn ?_ | refine r_thn ?_ | refine .seq ?_ | refine reg ?_ | refine .block ?_ | refine .skip ?_ | refine .ret ?_ | refine cndT rfl ?_ | refine c_dec rfl (fun hc => ?_) (fun hc => ?_) | (refine o_none rfl ?_; (first | refine st_pure (hup) b28 rfl rfl rfl rfl ?_ | refine st_pure (hsh) b29 rfl rfl rfl rfl ?_ | refine st_callF 2 (hN) b30 rfl rfl rfl rfl rfl rfl (by (repeat' first | exact trivial | refine And.intro ?_ ?_ | rfl); first | done | fail) rfl ?_)) | fail
      all_goals first
        | (exfalso; exact hSS ⟨hS, by omega⟩)
        | (refine f_r [] rfl trivial rfl ⟨?_, rfl⟩; rfl)
  obtain ⟨hS, hb⟩ := hSS
  rw [hS] at hsh
  refine fnC lay_ok func6 rfl rfl rfl rfl rfl ?_
  repeat' first | refine ln ?_ | refine stp lay_ok rfl ?_ | refine fin ?_ | refine n_thn ?_ | refine r_thn ?_ | refine .seq ?_ | refine reg ?_ | refine .block ?_ | refine .skip ?_ | refine .ret ?_ | refine c_dec rfl (fun hc => ?_) (fun hc => ?_) | (refine o_none rfl ?_; (first | refine st_pure (hup) b28 rfl rfl rfl rfl ?_ | refine st_pure (hsh) b29 rfl rfl rfl rfl ?_ | refine st_callF 2 (hN) b30 rfl rfl rfl rfl rfl rfl (by (repeat' first | exact trivial | refine And.intro ?_ ?_ | rfl); first | done | fail) rfl ?_)) | fail
  all_goals first
    | (exfalso; omega)
    | skip
  refine lpR (fun (k, l, b) => k ≤ ds.length ∧ k ≤ 80 ∧ CatP l ∧ (b = true → l = [])) (fun (k, l, b) => ds.length - k) (fun (k, l, b) => [(8, I k)]) (fun (k, l, b) => [(0, .cells [.lsl 2 4 (gN b) (l.map rowN).length]), (2, .arr 4 (l.map rowN ++ gR b))]) ((0, [], false)) [0, 1, 5, 7] [0] [1] rfl rfl rfl (.of [1] (by (repeat' first | exact trivial | refine And.intro ?_ ?_ | rfl); first | done | fail) (by (repeat' first | exact trivial | refine And.intro ?_ ?_ | rfl); first | done | fail) rfl) ?_ ?_
  · exact ⟨Nat.zero_le _, Nat.zero_le _, catP_nil, by simp⟩
  rintro ⟨k, l, b⟩ ⟨g1, g2, g3, g4⟩
  refine nrm rfl rfl ?_
  by_cases hk : k < ds.length ∧ k < 80
  · obtain ⟨hk, hk80⟩ := hk
    have hat : (ds.map rowD)[((k : Nat) : Int).toNat]? = some (rowD ds[k]) := by simp [hk]
    have hfit := shortD_at hS hk hk80
    generalize ds[k] = d at *
    obtain ⟨c, o⟩ := d
    simp only at hfit
    have hdo := do_ok l b c o g4 g3 hfit
    have hC2 := doP_cat c o g3
    have hB2 := fun h => doB_nil (c := c) (o := o) g4 h
    generalize doP l c o = R at *
    generalize doB l b c o = b2 at *
    obtain ⟨l2, a⟩ := R
    simp only at hC2 hB2 hdo
    obtain ⟨kd, nm, p, oks, n⟩ := o
    repeat' first | refine ln ?_ | refine stp lay_ok rfl ?_ | refine fin ?_ | refine n_thn ?_ | refine e_thn ?_ | refine e_hit ?_ | refine e_rr ?_ | refine .seq ?_ | refine reg ?_ | refine .block ?_ | refine .skip ?_ | refine .exit ?_ | refine cndF rfl ?_ | refine c_dec rfl (fun hc => ?_) (fun hc => ?_) | refine gd rfl rfl rfl (fun hg => ?_) (fun hg => ?_) | fail
    all_goals first
      | (exfalso; omega)
      | skip
    refine dreg [(0, [], [48, 49, 50, 51, 52, 53, 54, 55, 56, 57]), (1, [], [47, 49, 53, 54, 55, 56, 57]), (2, [], [47, 48, 53, 54, 55, 56, 57]), (3, [1, 2], [47, 53, 54, 55, 56, 57]), (4, [1, 2, 3], [47, 53, 54, 55, 56, 57]), (5, [1, 2, 3, 4], [47, 53, 54, 55, 56, 57]), (6, [], [47, 48, 49, 50, 51, 52, 54]), (7, [], [47, 48, 49, 50, 51, 52, 53]), (8, [6, 7], [47, 48, 49, 50, 51, 52]), (9, [6, 7, 8], [47, 48, 49, 50, 51, 52]), (10, [6, 7, 8, 9], [47, 48, 49, 50, 51, 52]), (11, [0, 1, 2, 3, 4, 5, 6, 7, 8, 9, 10], [])] mixed (by kernel_rfl) ?_
    repeat' first | refine wr (by omega) ?_ | refine stp lay_ok rfl ?_ | refine fin ?_ | refine n_thn ?_ | refine n_blk ?_ | refine reg ?_ | refine dws lay_ok rfl rfl rfl rfl rfl rfl rfl ?_ | refine dw_end ?_ | refine dwG [0,2] rfl rfl rfl rfl (by refine st_callG [0,2] 1 (hdo) b27 rfl rfl rfl rfl rfl (by (repeat' first | exact trivial | refine And.intro ?_ ?_ | rfl); first | done | fail) rfl ?_; exact fin rfl) rfl rfl rfl rfl rfl ?_ | refine dwb rfl rfl rfl rfl rfl (by (first | refine st_index (rowD ⟨c, kd, nm, p, oks, n⟩) lay_ok rfl rfl rfl rfl (by omega) hat ?_ | refine st_callG [0,2] 1 (hdo) b27 rfl rfl rfl rfl rfl (by (repeat' first | exact trivial | refine And.intro ?_ ?_ | rfl); first | done | fail) rfl ?_); exact fin rfl) rfl rfl ?_ | fail
    refine n_rr ((k + 1, l2, b2)) ?_ (.of [3] (by (repeat' first | exact trivial | refine And.intro ?_ ?_ | rfl | exact congrArg (fun z : Int => some (AV.st (.int .i64 z))) (show (k : Int) + 1 = ((k + 1 : Nat) : Int) by omega)); first | done | fail) (by (repeat' first | exact trivial | refine And.intro ?_ ?_ | rfl | exact congrArg (fun z : Int => some (AV.st (.int .i64 z))) (show (k : Int) + 1 = ((k + 1 : Nat) : Int) by omega)); first | done | fail) rfl) ?_
    · show ds.length - (k + 1) < ds.length - k; omega
    · exact ⟨hk, hk80, hC2, hB2⟩
  obtain ⟨c1, c2, c3, c4, c5⟩ := g3.nice
  have hput := putX_ok l b g4 g3
  have hget := get_ok (putL l) l (by omega) (getR_cat g3)
  have hsn := snapsX_ok l b g4 (by omega) c4
  have hsn2 := snaps_ok l (by omega) c4
  have hsame := same9_ok l l (by omega) (by omega) c4 c4
  rw [decide_eq_true rfl] at hsame
  clear c2 c3 c5
  cases hG : getR b0 with
  | none =>
    have hg0 := get_no b0 (by omega) hG
    repeat' first | refine o_frb 3 [.sl 4 (l.map rowN)] rfl rfl rfl (by (repeat' first | exact trivial | refine And.intro ?_ ?_ | rfl); first | done | fail) (by (repeat' first | exact trivial | refine And.intro ?_ ?_ | rfl); first | done | fail) rfl rfl ?_ | refine ln ?_ | refine stp lay_ok rfl ?_ | refine fin ?_ | refine n_thn ?_ | refine e_thn ?_ | refine e_hit ?_ | refine r_thn ?_ | refine e_rr ?_ | refine .seq ?_ | refine reg ?_ | refine .block ?_ | refine .skip ?_ | refine .ret ?_ | refine .exit ?_ | refine cndT rfl ?_ | refine cndF rfl ?_ | refine c_dec rfl (fun hc => ?_) (fun hc => ?_) | ((first | refine o_none rfl ?_ | refine o_yes rfl rfl rfl ?_); (first | refine st_callK [0,2] (hput) b31 rfl rfl rfl rfl rfl (by (repeat' first | exact trivial | refine And.intro ?_ ?_ | rfl); first | done | fail) ?_ | refine st_callF 1 (hget) b32 rfl rfl rfl rfl rfl rfl (by (repeat' first | exact trivial | refine And.intro ?_ ?_ | rfl); first | done | fail) rfl ?_ | refine st_callK [0,2] (hsn) b19 rfl rfl rfl rfl rfl (by (repeat' first | exact trivial | refine And.intro ?_ ?_ | rfl); first | done | fail) ?_ | refine st_pure (hsn2) b19 rfl rfl rfl rfl ?_ | refine st_pure (hsame) b18 rfl rfl rfl rfl ?_ | refine st_pure (hg0) b32 rfl rfl rfl rfl ?_)) | refine gd rfl rfl rfl (fun hg => ?_) (fun hg => ?_) | fail
    all_goals first
      | (exfalso; omega)
      | skip
    all_goals
      refine f_r [] rfl trivial rfl ⟨?_, rfl⟩
      first
        | rfl
        | (simp [retOf, B]; done)
  | some l0 =>
    have hC0 := getR_from hG
    obtain ⟨e1, e2, e3, e4, e5⟩ := hC0.nice
    have hg0 := get_ok b0 l0 (by omega) hG
    have hp0 := put_ok l0 (by omega) (by omega) e3 e4
    rw [putL_getR hG] at hp0
    repeat' first | refine o_frb 3 [.sl 4 (l.map rowN)] rfl rfl rfl (by (repeat' first | exact trivial | refine And.intro ?_ ?_ | rfl); first | done | fail) (by (repeat' first | exact trivial | refine And.intro ?_ ?_ | rfl); first | done | fail) rfl rfl ?_ | refine o_frb 4 [.sl 4 (l0.map rowN)] rfl rfl rfl (by (repeat' first | exact trivial | refine And.intro ?_ ?_ | rfl); first | done | fail) (by (repeat' first | exact trivial | refine And.intro ?_ ?_ | rfl); first | done | fail) rfl rfl ?_ | refine ln ?_ | refine stp lay_ok rfl ?_ | refine fin ?_ | refine n_thn ?_ | refine e_thn ?_ | refine e_hit ?_ | refine e_rr ?_ | refine .seq ?_ | refine reg ?_ | refine .block ?_ | refine .skip ?_ | refine .ret ?_ | refine .exit ?_ | refine cndF rfl ?_ | refine c_dec rfl (fun hc => ?_) (fun hc => ?_) | ((first | refine o_none rfl ?_ | refine o_yes rfl rfl rfl ?_); (first | refine st_callK [0,2] (hput) b31 rfl rfl rfl rfl rfl (by (repeat' first | exact trivial | refine And.intro ?_ ?_ | rfl); first | done | fail) ?_ | refine st_callF 1 (hget) b32 rfl rfl rfl rfl rfl rfl (by (repeat' first | exact trivial | refine And.intro ?_ ?_ | rfl); first | done | fail) rfl ?_ | refine st_callK [0,2] (hsn) b19 rfl rfl rfl rfl rfl (by (repeat' first | exact trivial | refine And.intro ?_ ?_ | rfl); first | done | fail) ?_ | refine st_pure (hsn2) b19 rfl rfl rfl rfl ?_ | refine st_pure (hsame) b18 rfl rfl rfl rfl ?_ | refine st_callF 1 (hg0) b32 rfl rfl rfl rfl rfl rfl (by (repeat' first | exact trivial | refine And.intro ?_ ?_ | rfl); first | done | fail) rfl ?_ | refine st_pure (hp0) b31 rfl rfl rfl rfl ?_ | refine st_strOf lay_ok rfl rfl rfl rfl rfl rfl rfl ?_)) | refine gd rfl rfl rfl (fun hg => ?_) (fun hg => ?_) | fail
    all_goals first
      | (exfalso; omega)
      | skip
    all_goals
      refine f_r [] rfl trivial rfl ⟨?_, rfl⟩
      first
        | rfl
        | (simp [retOf, B]; done)
end Go.Proofs.YtohmbpcjapjkbaaGreatDoorFn
namespace Go.Proofs.YtohmbpcjapjkbaaGreatDoor
open Go.Proofs.YtohmbpcjapjkbaaGreatDoorAl Go.ChangeAt Go.RowKit
open Go.Proofs.YtohmbpcjapjkbaaGreatDoorFn
theorem own : ownKnob Tryz.prog.godebug = none := by kernel_rfl
theorem laidOut : laidOutB Tryz.prog = true := by kernel_rfl
def pars : List Par := [⟨58, false, ΦL 6 80 ΦD⟩, ⟨59, false, ΦL 1 1 ΦU8⟩]
theorem pars_ok : ParsOk Tryz.prog pars :=
  ⟨rdLD, ⟨_, Tryz.underlying58, rfl⟩, by kernel_rfl, of_decide_eq_true (by kernel_rfl),
   rdLB, ⟨_, Tryz.underlying59, rfl⟩, by kernel_rfl, of_decide_eq_true (by kernel_rfl), trivial⟩
theorem law_ok : LawOk Tryz.prog 6 pars := by
  rintro svs ⟨_, _, rfl, ⟨r0, h0, hr0, hl0⟩, _, _, rfl, ⟨r1, h1, hr1, hl1⟩, rfl⟩
  cases h0
  obtain ⟨x0, rfl, hm0⟩ := rows_map (f := rowD) (Ok := DV.inMem) (fun row hm => ofD (hr0 row hm))
  simp only [List.length_map] at hl0
  cases h1
  obtain ⟨x1, rfl⟩ := ofB hr1
  simp only [List.length_map] at hl1
  have hreach : reachBytes ≤ 140737488351232 := by decide
  exact lawBack_ok x0 x1 (by omega)
set_option maxRecDepth 100000 in
theorem law_lift (os : Os) (started : os.Started) (H : Type) (enc : TypeId × Value → H) :
    ReturnsInHanded {} Tryz.checked os 6 .any (fun w args => (Rows.imageBackSpec.pre enc Tryz.prog Tryz.f6 [] false w args ∧ laidMetH Tryz.prog Rows.imageBackRow.laid w) ∧ sizedMet enc Tryz.prog Tryz.f6 (OpenSpec.ofChange Rows.imageBackSpec) false w args) (Rows.imageBackSpec.post enc Tryz.prog Tryz.f6 false true false false) :=
  law_liftedL (C := Tryz.checked) (ps := pars) own started (by kernel_rfl) Tryz.func6
    (ChangeSpec.witness_shaped (enc := enc) (C := Tryz.checked) (os := os) (X := fun w _ => laidMetH Tryz.prog Rows.imageBackRow.laid w) false (World.laidAll Tryz.prog os Rows.imageBackRow.laid) #[.slice none 0 0, .slice none 0 0] 8 (World.laidAll_os _ _ _)
      (World.shaped_of_ZipB (by kernel_rfl) (by kernel_rfl)) (by kernel_rfl) (by kernel_rfl) (by kernel_rfl)
      (by rw [MakeChecks.laidMetH_plain _ _ _ (by kernel_rfl)]; exact laidMet_laidAll _ (by kernel_rfl) (by kernel_rfl)))
    laidOut rfl rfl Tryz.underlying4 rfl
    (fun ds hds => by
      match ds, hds with
      | [_, _], _ => rfl) pars_ok law_ok
theorem law_over : Rows.imageBackRow.holds Tryz.pinned (OpenSpec.ofChange Rows.imageBackSpec) :=
  OpenClaim.holds_of_wide 6 Tryz.f6 rfl rfl rfl rfl rfl rfl rfl ⟨rfl, rfl, rfl, rfl, rfl⟩ rfl rfl rfl rfl rfl (by kernel_rfl) Tryz.func6 (by kernel_rfl)
    (of_decide_eq_true (by kernel_rfl)) (by unfold Func.isWrapper; first | (rw [if_pos (by decide +kernel)]; kernel_rfl) | (rw [if_neg (by decide +kernel)]; exact ⟨rfl, rfl⟩))
    (fun os started H enc _ => law_lift os started H enc)
theorem ImageBack_holds : Rows.ImageBackCardSaid :=
  Claim7.holds_tied_plain_at .later [] [.data, .pinned] true Rows.imageBackCard.stood.harness Rows.imageBackCard.stood.looks law_over (fun _ h => by cases h) (by kernel_rfl) (fun _ h => by cases h) imageBack_row_tie rfl ⟨rfl, rfl⟩ (by kernel_rfl) rfl
    (fun f fn hf hfn => by
      obtain rfl : f = 6 := Option.some.inj ((show Tryz.prog.funcNamed "becket/becketlaw10.ImageBack" = some 6 by kernel_rfl).symm.trans hf) |>.symm
      obtain rfl : fn = Tryz.f6 := (Option.some.inj (Tryz.func6.symm.trans hfn)).symm
      exact ⟨by kernel_rfl, fun j t ht => by
        have hm : t ∈ ([58, 59] : List Nat) := by
          have e := Array.mem_of_getElem? ht
          rw [Tryz.params6] at e
          simpa using e
        have hall : (([58, 59] : List Nat).all fun u => !Tryz.prog.wantsStandIn u) = true := by kernel_rfl
        exact (show Tryz.prog.wantsStandIn t = false by simpa using List.all_eq_true.1 hall t hm)⟩)
    (by kernel_rfl)
#print axioms ImageBack_holds
end Go.Proofs.YtohmbpcjapjkbaaGreatDoor
