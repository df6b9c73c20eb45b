/- The law ImageParts: for every input it says true: each part is the bytes of a catalog that has that client's snapshots alone. No condition. -/
import Derived.Test.YtohmbpcjapjkbaaGreatDoorP4
import Derived.Test.YtohmbpcjapjkbaaGreatDoorRows
import Derived.Test.YtohmbpcjapjkbaaGreatDoorTie
import Derived.Test.YtohmbpcjapjkbaaGreatDoorCards
set_option linter.all false
namespace Go.Proofs.YtohmbpcjapjkbaaGreatDoorFn
open Go.Proofs.YtohmbpcjapjkbaaGreatDoorAl Go.Proofs.Tryz
attribute [local irreducible] IntKind.wrap CodeOk OpsL OpG ACalls thn inBlk rndR cutR WkR Wk fnR DW ExtOk partsOf
/-! ### each part is the bytes of a catalog that has that client's snapshots alone -/
theorem partS_bytes (l : List NV) (i : Nat) : (partS l i).data.toList = putL (ownL l (i : Int)) := rfl
set_option maxHeartbeats 16000000 in
set_option maxRecDepth 4000 in
theorem lawParts_ok (ds : List DV) : ACalls prog 8 0 [.st (.sl 6 (ds.map rowD))] [] fun r h => r = B true ∧ h = [] := by
  have hup := up_ok
  have hsh := shortD_ok ds
  have hN := newC_ok
  have hm : (List.map rowD ds).length = ds.length := List.length_map _
  cases hS : shortD ds <;> rw [hS] at hsh
  · refine fnC lay_ok func8 rfl rfl rfl rfl rfl ?_
    repeat' first | refine stp lay_ok rfl ?_ | refine fin ?_ | refine n_thn ?_ | refine r_thn ?_ | refine .seq ?_ | refine reg ?_ | refine .ret ?_ | refine cndT rfl ?_ | (refine o_none rfl ?_; (first | refine st_pure (hup) b28 rfl rfl rfl rfl ?_ | refine st_pure (hsh) b29 rfl rfl rfl rfl ?_ | refine st_callF 2 (hN) b30 rfl rfl rfl rfl rfl rfl (by (repeat' first | exact trivial | refine And.intro ?_ ?_ | rfl); first | done | fail) rfl ?_)) | fail
    refine f_r [] rfl trivial rfl ⟨?_, rfl⟩; rfl
  refine fnC lay_ok func8 rfl rfl rfl rfl rfl ?_
  repeat' first | refine stp lay_ok rfl ?_ | refine fin ?_ | refine n_thn ?_ | refine .seq ?_ | refine reg ?_ | refine .block ?_ | refine .skip ?_ | refine cndF rfl ?_ | (refine o_none rfl ?_; (first | refine st_pure (hup) b28 rfl rfl rfl rfl ?_ | refine st_pure (hsh) b29 rfl rfl rfl rfl ?_ | refine st_callF 2 (hN) b30 rfl rfl rfl rfl rfl rfl (by (repeat' first | exact trivial | refine And.intro ?_ ?_ | rfl); first | done | fail) rfl ?_)) | fail
  refine lpR (fun (k, l, b) => k ≤ ds.length ∧ k ≤ 80 ∧ CatP l ∧ (b = true → l = [])) (fun (k, l, b) => ds.length - k) (fun (k, l, b) => [(6, I k)]) (fun (k, l, b) => [(0, .cells [.lsl 2 4 (gN b) (l.map rowN).length]), (2, .arr 4 (l.map rowN ++ gR b))]) ((0, [], false)) [0, 3, 5] [0] [1] rfl rfl rfl (.of [1] (by (repeat' first | exact trivial | refine And.intro ?_ ?_ | rfl); first | done | fail) (by (repeat' first | exact trivial | refine And.intro ?_ ?_ | rfl); first | done | fail) rfl) ?_ ?_
  · exact ⟨Nat.zero_le _, Nat.zero_le _, catP_nil, by simp⟩
  rintro ⟨k, l, b⟩ ⟨g1, g2, g3, g4⟩
  refine nrm rfl rfl ?_
  by_cases hk : k < ds.length ∧ k < 80
  · obtain ⟨hk, hk80⟩ := hk
    have hat : (ds.map rowD)[((k : Nat) : Int).toNat]? = some (rowD ds[k]) := by simp [hk]
    have hfit := shortD_at hS hk hk80
    generalize ds[k] = d at *
    obtain ⟨c, o⟩ := d
    simp only at hfit
    have hdo := do_ok l b c o g4 g3 hfit
    have hC2 := doP_cat c o g3
    have hB2 := fun h => doB_nil (c := c) (o := o) g4 h
    generalize doP l c o = R at *
    generalize doB l b c o = b2 at *
    obtain ⟨l2, a⟩ := R
    simp only at hC2 hB2 hdo
    obtain ⟨kd, nm, p, oks, n⟩ := o
    repeat' first | refine ln ?_ | refine stp lay_ok rfl ?_ | refine fin ?_ | refine n_thn ?_ | refine e_thn ?_ | refine e_hit ?_ | refine e_rr ?_ | refine .seq ?_ | refine reg ?_ | refine .block ?_ | refine .skip ?_ | refine .exit ?_ | refine cndF rfl ?_ | refine c_dec rfl (fun hc => ?_) (fun hc => ?_) | refine gd rfl rfl rfl (fun hg => ?_) (fun hg => ?_) | fail
    all_goals first
      | (exfalso; omega)
      | skip
    refine dreg [(0, [], [38, 39, 40, 41, 42, 43, 44, 45, 46, 47]), (1, [], [37, 39, 43, 44, 45, 46, 47]), (2, [], [37, 38, 43, 44, 45, 46, 47]), (3, [1, 2], [37, 43, 44, 45, 46, 47]), (4, [1, 2, 3], [37, 43, 44, 45, 46, 47]), (5, [1, 2, 3, 4], [37, 43, 44, 45, 46, 47]), (6, [], [37, 38, 39, 40, 41, 42, 44]), (7, [], [37, 38, 39, 40, 41, 42, 43]), (8, [6, 7], [37, 38, 39, 40, 41, 42]), (9, [6, 7, 8], [37, 38, 39, 40, 41, 42]), (10, [6, 7, 8, 9], [37, 38, 39, 40, 41, 42]), (11, [0, 1, 2, 3, 4, 5, 6, 7, 8, 9, 10], [])] mixed (by kernel_rfl) ?_
    repeat' first | refine wr (by omega) ?_ | refine stp lay_ok rfl ?_ | refine fin ?_ | refine n_thn ?_ | refine n_blk ?_ | refine reg ?_ | refine dws lay_ok rfl rfl rfl rfl rfl rfl rfl ?_ | refine dw_end ?_ | refine dwG [0,2] rfl rfl rfl rfl (by refine st_callG [0,2] 1 (hdo) b27 rfl rfl rfl rfl rfl (by (repeat' first | exact trivial | refine And.intro ?_ ?_ | rfl); first | done | fail) rfl ?_; exact fin rfl) rfl rfl rfl rfl rfl ?_ | refine dwb rfl rfl rfl rfl rfl (by (first | refine st_index (rowD ⟨c, kd, nm, p, oks, n⟩) lay_ok rfl rfl rfl rfl (by omega) hat ?_ | refine st_callG [0,2] 1 (hdo) b27 rfl rfl rfl rfl rfl (by (repeat' first | exact trivial | refine And.intro ?_ ?_ | rfl); first | done | fail) rfl ?_); exact fin rfl) rfl rfl ?_ | fail
    refine n_rr ((k + 1, l2, b2)) ?_ (.of [3] (by (repeat' first | exact trivial | refine And.intro ?_ ?_ | rfl | exact congrArg (fun z : Int => some (AV.st (.int .i64 z))) (show (k : Int) + 1 = ((k + 1 : Nat) : Int) by omega)); first | done | fail) (by (repeat' first | exact trivial | refine And.intro ?_ ?_ | rfl | exact congrArg (fun z : Int => some (AV.st (.int .i64 z))) (show (k : Int) + 1 = ((k + 1 : Nat) : Int) by omega)); first | done | fail) rfl) ?_
    · show ds.length - (k + 1) < ds.length - k; omega
    · exact ⟨hk, hk80, hC2, hB2⟩
  have hparts := ipartsX_ok l b g4 g3
  have hsn := snapsX_ok l b g4 (by have := catP_len g3; omega) g3.nice.2.2.2.1
  have hpl : (List.map rowS (partL l 8)).length = 8 := by simp [partL]
  have hr8 : (List.range 8).length = 8 := rfl
  repeat' first | refine ln ?_ | refine stp lay_ok rfl ?_ | refine fin ?_ | refine n_thn ?_ | refine e_thn ?_ | refine e_hit ?_ | refine e_rr ?_ | refine .seq ?_ | refine reg ?_ | refine .block ?_ | refine .skip ?_ | refine .exit ?_ | refine cndF rfl ?_ | refine c_dec rfl (fun hc => ?_) (fun hc => ?_) | (refine o_none rfl ?_; refine st_callK [0,2] (hparts) b38 rfl rfl rfl rfl rfl (by (repeat' first | exact trivial | refine And.intro ?_ ?_ | rfl); first | done | fail) ?_) | refine gd rfl rfl rfl (fun hg => ?_) (fun hg => ?_) | fail
  all_goals first
    | (exfalso; omega)
    | skip
  all_goals
    refine lpR (fun i => i ≤ 8) (fun i => 8 - i) (fun i => [(9, I i)]) (fun i => []) (0) [3, 5, 7] [] [] rfl rfl rfl (.of [] (by (repeat' first | exact trivial | refine And.intro ?_ ?_ | rfl); first | done | fail) (by (repeat' first | exact trivial | refine And.intro ?_ ?_ | rfl); first | done | fail) rfl) ?_ ?_
    · exact Nat.zero_le _
    rintro i hi
    refine nrm rfl rfl ?_
    by_cases hi8 : i < 8
    · have hO := g3.own (i : Int)
      obtain ⟨c1, c2, c3, c4, c5⟩ := hO.nice
      have hget := get_ok (putL (ownL l (i : Int))) _ (by omega) (getR_cat hO)
      have hsn2 := snaps_ok (ownL l (i : Int)) (by omega) c4
      have hsame := same9_ok (ownL l (i : Int)) (ownL l (i : Int)) (by omega) (by omega) c4 c4
      rw [decide_eq_true rfl] at hsame
      have hown := refOwn_ok l (i : Int) (by have := catP_len g3; omega)
      have hat : ((partL l 8).map rowS)[((i : Nat) : Int).toNat]? = some [SV.str (partS l i)] := by
        rw [Int.toNat_natCast, List.getElem?_map, partL, List.getElem?_map, List.getElem?_range hi8]; rfl
      clear c2 c3 c5
      rw [← partS_bytes l i] at hget
      generalize partS l i = x at *
      generalize ownL l (i : Int) = lo at *
      repeat' first | refine o_frb 3 [.sl 4 (lo.map rowN)] rfl rfl rfl (by (repeat' first | exact trivial | refine And.intro ?_ ?_ | rfl); first | done | fail) (by (repeat' first | exact trivial | refine And.intro ?_ ?_ | rfl); first | done | fail) rfl rfl ?_ | refine wr (by omega) ?_ | refine stp lay_ok rfl ?_ | refine fin ?_ | refine n_thn ?_ | refine n_blk ?_ | refine e_thn ?_ | refine e_hit ?_ | refine e_rr ?_ | refine .seq ?_ | refine reg ?_ | refine .block ?_ | refine .skip ?_ | refine .ret ?_ | refine .exit ?_ | refine cndF rfl ?_ | refine c_dec rfl (fun hc => ?_) (fun hc => ?_) | ((first | refine o_none rfl ?_ | refine o_yes rfl rfl rfl ?_); (first | refine st_index [SV.str x] lay_ok rfl rfl rfl rfl (by omega) hat ?_ | refine st_bytesOf lay_ok rfl rfl rfl rfl rfl rfl rfl ?_ | refine st_callF 1 (hget) b32 rfl rfl rfl rfl rfl rfl (by (repeat' first | exact trivial | refine And.intro ?_ ?_ | rfl); first | done | fail) rfl ?_ | refine st_pure (hsn2) b19 rfl rfl rfl rfl ?_ | refine st_callK [0,2] (hsn) b19 rfl rfl rfl rfl rfl (by (repeat' first | exact trivial | refine And.intro ?_ ?_ | rfl); first | done | fail) ?_ | refine st_pure (hown) b39 rfl rfl rfl rfl ?_ | refine st_pure (hsame) b18 rfl rfl rfl rfl ?_)) | fail
      all_goals first
        | (exfalso; omega)
        | skip
      refine n_rr (i + 1) ?_ (.of [0] (by (repeat' first | exact trivial | refine And.intro ?_ ?_ | rfl | exact congrArg (fun z : Int => some (AV.st (.int .i64 z))) (show (i : Int) + 1 = ((i + 1 : Nat) : Int) by omega)); first | done | fail) (by (repeat' first | exact trivial | refine And.intro ?_ ?_ | rfl | exact congrArg (fun z : Int => some (AV.st (.int .i64 z))) (show (i : Int) + 1 = ((i + 1 : Nat) : Int) by omega)); first | done | fail) rfl) ?_
      · omega
      · exact hi8
    · repeat' first | refine stp lay_ok rfl ?_ | refine fin ?_ | refine n_thn ?_ | refine e_thn ?_ | refine e_hit ?_ | refine e_rr ?_ | refine .seq ?_ | refine reg ?_ | refine .block ?_ | refine .skip ?_ | refine .ret ?_ | refine .exit ?_ | refine c_dec rfl (fun hc => ?_) (fun hc => ?_) | fail
      all_goals first
        | (exfalso; omega)
        | skip
      refine f_r [] rfl trivial rfl ⟨?_, rfl⟩
      rfl
end Go.Proofs.YtohmbpcjapjkbaaGreatDoorFn
namespace Go.Proofs.YtohmbpcjapjkbaaGreatDoor
open Go.Proofs.YtohmbpcjapjkbaaGreatDoorAl Go.ChangeAt Go.RowKit
open Go.Proofs.YtohmbpcjapjkbaaGreatDoorFn
theorem own : ownKnob Tryz.prog.godebug = none := by kernel_rfl
theorem laidOut : laidOutB Tryz.prog = true := by kernel_rfl
def pars : List Par := [⟨58, false, ΦL 6 80 ΦD⟩]
theorem pars_ok : ParsOk Tryz.prog pars :=
  ⟨rdLD, ⟨_, Tryz.underlying58, rfl⟩, by kernel_rfl, of_decide_eq_true (by kernel_rfl), trivial⟩
theorem law_ok : LawOk Tryz.prog 8 pars := by
  rintro svs ⟨_, _, rfl, ⟨r0, h0, hr0, hl0⟩, rfl⟩
  cases h0
  obtain ⟨x0, rfl, hm0⟩ := rows_map (f := rowD) (Ok := DV.inMem) (fun row hm => ofD (hr0 row hm))
  simp only [List.length_map] at hl0
  have hreach : reachBytes ≤ 140737488351232 := by decide
  exact lawParts_ok x0
set_option maxRecDepth 100000 in
theorem law_lift (os : Os) (started : os.Started) (H : Type) (enc : TypeId × Value → H) :
    ReturnsInHanded {} Tryz.checked os 8 .any (fun w args => (Rows.imagePartsSpec.pre enc Tryz.prog Tryz.f8 [] false w args ∧ laidMetH Tryz.prog Rows.imagePartsRow.laid w) ∧ sizedMet enc Tryz.prog Tryz.f8 (OpenSpec.ofChange Rows.imagePartsSpec) false w args) (Rows.imagePartsSpec.post enc Tryz.prog Tryz.f8 false true false false) :=
  law_liftedL (C := Tryz.checked) (ps := pars) own started (by kernel_rfl) Tryz.func8
    (ChangeSpec.witness_shaped (enc := enc) (C := Tryz.checked) (os := os) (X := fun w _ => laidMetH Tryz.prog Rows.imagePartsRow.laid w) false (World.laidAll Tryz.prog os Rows.imagePartsRow.laid) #[.slice none 0 0] 8 (World.laidAll_os _ _ _)
      (World.shaped_of_ZipB (by kernel_rfl) (by kernel_rfl)) (by kernel_rfl) (by kernel_rfl) (by kernel_rfl)
      (by rw [MakeChecks.laidMetH_plain _ _ _ (by kernel_rfl)]; exact laidMet_laidAll _ (by kernel_rfl) (by kernel_rfl)))
    laidOut rfl rfl Tryz.underlying4 rfl
    (fun ds hds => by
      match ds, hds with
      | [_], _ => rfl) pars_ok law_ok
theorem law_over : Rows.imagePartsRow.holds Tryz.pinned (OpenSpec.ofChange Rows.imagePartsSpec) :=
  OpenClaim.holds_of_wide 8 Tryz.f8 rfl rfl rfl rfl rfl rfl rfl ⟨rfl, rfl, rfl, rfl, rfl⟩ rfl rfl rfl rfl rfl (by kernel_rfl) Tryz.func8 (by kernel_rfl)
    (of_decide_eq_true (by kernel_rfl)) (by unfold Func.isWrapper; first | (rw [if_pos (by decide +kernel)]; kernel_rfl) | (rw [if_neg (by decide +kernel)]; exact ⟨rfl, rfl⟩))
    (fun os started H enc _ => law_lift os started H enc)
theorem ImageParts_holds : Rows.ImagePartsCardSaid :=
  Claim7.holds_tied_plain_at .later [] [.data, .pinned] true Rows.imagePartsCard.stood.harness Rows.imagePartsCard.stood.looks law_over (fun _ h => by cases h) (by kernel_rfl) (fun _ h => by cases h) imageParts_row_tie rfl ⟨rfl, rfl⟩ (by kernel_rfl) rfl
    (fun f fn hf hfn => by
      obtain rfl : f = 8 := Option.some.inj ((show Tryz.prog.funcNamed "becket/becketlaw10.ImageParts" = some 8 by kernel_rfl).symm.trans hf) |>.symm
      obtain rfl : fn = Tryz.f8 := (Option.some.inj (Tryz.func8.symm.trans hfn)).symm
      exact ⟨by kernel_rfl, fun j t ht => by
        have hm : t ∈ ([58] : List Nat) := by
          have e := Array.mem_of_getElem? ht
          rw [Tryz.params8] at e
          simpa using e
        have hall : (([58] : List Nat).all fun u => !Tryz.prog.wantsStandIn u) = true := by kernel_rfl
        exact (show Tryz.prog.wantsStandIn t = false by simpa using List.all_eq_true.1 hall t hm)⟩)
    (by kernel_rfl)
#print axioms ImageParts_holds
end Go.Proofs.YtohmbpcjapjkbaaGreatDoor
