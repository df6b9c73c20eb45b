/- The law CheckBegins: for every input it says true: beginnings of one row of texts agree, and the longest of them is told. No condition. -/
import Derived.Test.YtohmbpcjapjkbaaGreatDoorP1
import Derived.Test.YtohmbpcjapjkbaaGreatDoorRows
import Derived.Test.YtohmbpcjapjkbaaGreatDoorTie
import Derived.Test.YtohmbpcjapjkbaaGreatDoorCards
set_option linter.all false
namespace Go.Proofs.YtohmbpcjapjkbaaGreatDoorFn
open Go.Proofs.YtohmbpcjapjkbaaGreatDoorAl Go.Proofs.Tryz
attribute [local irreducible] IntKind.wrap CodeOk OpsL OpG ACalls thn inBlk rndR cutR WkR Wk fnR DW ExtOk partsOf
/-! ### beginnings of one row agree -/
theorem begB_take (l : List ByteArray) (c d : Nat) (hc : c ≤ l.length) (hd : d ≤ l.length) : begB (l.take c) (l.take d) = true := by
  unfold begB
  rw [decide_eq_true_eq]
  have h1 : (l.take c).length = c := by simp; omega
  have h2 : (l.take d).length = d := by simp; omega
  rw [h1, h2, List.take_take, List.take_take]
  congr 1; omega
theorem lonG_snoc (rs : List (List ByteArray)) (x : List ByteArray) : lonG (rs ++ [x]) = if (lonG rs).length < x.length then x else lonG rs := by
  unfold lonG
  rw [List.foldl_append]; rfl
theorem rowL_one {b : List (List ByteArray)} : ∀ row ∈ b.map rowL, ∀ y ∈ row, SV.one y = true := by
  intro row hr y hy
  obtain ⟨_, _, rfl⟩ := List.mem_map.1 hr
  simp only [List.mem_singleton] at hy; subst hy; rfl
set_option maxHeartbeats 8000000 in
theorem lawBegins_ok (l : List ByteArray) (cuts : List Int) : ACalls prog 11 0 [.st (.sl 1 (l.map rowS)), .st (.sl 1 (cuts.map rowZ))] [] fun r h => r = B true ∧ h = [] := by
  have hml : (List.map rowS l).length = l.length := List.length_map _
  have hmc : (List.map rowZ cuts).length = cuts.length := List.length_map _
  have hup := up21_ok
  have hsh := short21_ok [l]
  by_cases hS : shortL [l] = true ∧ cuts.length ≤ 30
  case neg =>
    refine fnC lay_ok func11 rfl rfl rfl rfl rfl ?_
    cases hT : shortL [l] <;> rw [hT] at hsh
    all_goals
      repeat' first | refine ln ?_ | refine stp lay_ok rfl ?_ | refine fin ?_ | refine n_thn ?_ | refine r_thn ?_ | refine .seq ?_ | refine reg ?_ | refine .block ?_ | refine .skip ?_ | refine .ret ?_ | refine cndT rfl ?_ | refine c_dec rfl (fun hc => ?_) (fun hc => ?_) | (refine o_none rfl ?_; (first | refine st_pure (hup) b33 rfl rfl rfl rfl ?_ | refine st_pure (hsh) b34 rfl rfl rfl rfl ?_)) | fail
      all_goals first
        | (exfalso; exact hS ⟨hT, by omega⟩)
        | (refine f_r [] rfl trivial rfl ⟨?_, rfl⟩; rfl)
  obtain ⟨hT, hcl⟩ := hS
  have hll := (shortL_fit hT).2 l (by simp)
  rw [hT] at hsh
  refine fnC lay_ok func11 rfl rfl rfl rfl rfl ?_
  repeat' first | refine ln ?_ | refine stp lay_ok rfl ?_ | refine fin ?_ | refine n_thn ?_ | refine r_thn ?_ | refine .seq ?_ | refine reg ?_ | refine .block ?_ | refine .skip ?_ | refine .ret ?_ | refine c_dec rfl (fun hc => ?_) (fun hc => ?_) | (refine o_none rfl ?_; (first | refine st_pure (hup) b33 rfl rfl rfl rfl ?_ | refine st_pure (hsh) b34 rfl rfl rfl rfl ?_)) | fail
  all_goals first
    | (exfalso; omega)
    | skip
  refine CodeOk.wk (Wk.nilT 1 7 rfl rfl) (Nat.le_succ _) ?_
  refine nrm rfl rfl ?_
  refine lpR (fun (i, rs, m) => i ≤ cuts.length ∧ rs.length ≤ i ∧ (∀ a ∈ rs, ∃ c, c ≤ l.length ∧ a = l.take c) ∧ m ≤ l.length ∧ lonG rs = l.take m) (fun (i, rs, m) => cuts.length - i) (fun (i, rs, m) => [(9, I i), (8, I m), (7, .lsl 1 1 0 (rs.map rowL).length)]) (fun (i, rs, m) => [(1, .arr 1 (rs.map rowL))]) ((0, [], 0)) [0, 1, 5] [] [0] rfl rfl rfl (.of [0] (by (repeat' first | exact trivial | refine And.intro ?_ ?_ | rfl); first | done | fail) (by (repeat' first | exact trivial | refine And.intro ?_ ?_ | rfl); first | done | fail) rfl) ?_ ?_
  · exact ⟨Nat.zero_le _, Nat.le_refl _, by simp, Nat.zero_le _, rfl⟩
  rintro ⟨i, rs, m⟩ ⟨g1, g2, g3, g4, g5⟩
  refine nrm rfl rfl ?_
  have hmr : (List.map rowL rs).length = rs.length := List.length_map _
  by_cases hi : i < cuts.length
  · have hat : (cuts.map rowZ)[((i : Nat) : Int).toNat]? = some (rowZ cuts[i]) := by simp [hi]
    generalize cuts[i] = x at *
    by_cases hx : 0 ≤ x ∧ x ≤ (l.length : Int)
    · obtain ⟨c, rfl⟩ : ∃ c : Nat, x = c := ⟨x.toNat, by omega⟩
      have hc : c ≤ l.length := by omega
      have hr : List.map rowL rs ++ [rowL (l.take c)] = List.map rowL (rs ++ [l.take c]) := by rw [List.map_append]; rfl
      have hsn := lonG_snoc rs (l.take c)
      have h1 : (l.take c).length = c := by simp; omega
      have h2 : (l.take m).length = m := by simp; omega
      rw [g5, h1, h2] at hsn
      have hmem : ∀ a ∈ rs ++ [l.take c], ∃ c, c ≤ l.length ∧ a = l.take c := fun a ha => by
        rcases List.mem_append.1 ha with ha | ha
        · exact g3 a ha
        · rw [List.mem_singleton] at ha; exact ⟨c, hc, ha⟩
      have htk : List.map rowS (l.take c) = (List.map rowS l).take c := List.map_take ..
      have e0 : List.take (c - 0) (List.drop 0 (List.map rowS l)) = List.map rowS (l.take c) := by rw [List.drop_zero, Nat.sub_zero, ← List.map_take]
      have hr2 : List.map rowL rs ++ [[SV.sl 1 (List.take (c - 0) (List.drop 0 (List.map rowS l)))]] = List.map rowL (rs ++ [l.take c]) := by rw [e0]; exact hr
      have one : ∀ row ∈ [[SV.sl 1 (List.take (c - 0) (List.drop 0 (List.map rowS l)))]], ∀ y ∈ row, SV.one y = true := by
        rw [e0]; exact rowL_one (b := [l.take c])
      by_cases hgt : m < c
      · rw [if_pos hgt] at hsn
        repeat' first | refine wr (by omega) ?_ | refine ln ?_ | refine stp lay_ok rfl ?_ | refine fin ?_ | refine n_thn ?_ | refine n_blk ?_ | refine e_thn ?_ | refine e_hit ?_ | refine e_rr ?_ | refine .seq ?_ | refine reg ?_ | refine .block ?_ | refine .skip ?_ | refine .exit ?_ | refine c_dec rfl (fun hc => ?_) (fun hc => ?_) | ((first | refine o_none rfl ?_ | refine o_yes rfl rfl rfl ?_); (first | refine st_index [SV.int .i64 (c : Int)] lay_ok rfl rfl rfl rfl (by omega) hat ?_ | refine st_subL 0 c lay_ok rfl rfl rfl rfl ⟨_, _, rfl, rfl⟩ (Nat.zero_le _) (by omega) ?_ | refine st_append lay_ok rfl rfl rfl rfl rfl rfl rfl rfl (.lsl rfl rfl) (.sl (rows := [[SV.sl 1 (List.take (c - 0) (List.drop 0 (List.map rowS l)))]])) rfl one (by simp only [List.length_cons, List.length_nil]; omega) (by simp only [List.length_cons, List.length_nil]; omega) ?_)) | fail
        all_goals first
          | (exfalso; omega)
          | skip
        rw [hr2]
        refine n_rr ((i + 1, rs ++ [l.take c], c)) ?_ (.of [2] (by (repeat' first | exact trivial | refine And.intro ?_ ?_ | rfl | exact congrArg (fun z : Int => some (AV.st (.int .i64 z))) (show (i : Int) + 1 = ((i + 1 : Nat) : Int) by omega)); first | done | fail) (by (repeat' first | exact trivial | refine And.intro ?_ ?_ | rfl | exact congrArg (fun z : Int => some (AV.st (.int .i64 z))) (show (i : Int) + 1 = ((i + 1 : Nat) : Int) by omega)); first | done | fail) rfl) ?_
        · show cuts.length - (i + 1) < cuts.length - i; omega
        · exact ⟨hi, by show (rs ++ [l.take c]).length ≤ i + 1; rw [List.length_append, List.length_singleton]; omega, hmem, (by omega : c ≤ l.length), hsn⟩
      · rw [if_neg hgt] at hsn
        repeat' first | refine wr (by omega) ?_ | refine ln ?_ | refine stp lay_ok rfl ?_ | refine fin ?_ | refine n_thn ?_ | refine n_blk ?_ | refine e_thn ?_ | refine e_hit ?_ | refine e_rr ?_ | refine .seq ?_ | refine reg ?_ | refine .block ?_ | refine .skip ?_ | refine .exit ?_ | refine c_dec rfl (fun hc => ?_) (fun hc => ?_) | ((first | refine o_none rfl ?_ | refine o_yes rfl rfl rfl ?_); (first | refine st_index [SV.int .i64 (c : Int)] lay_ok rfl rfl rfl rfl (by omega) hat ?_ | refine st_subL 0 c lay_ok rfl rfl rfl rfl ⟨_, _, rfl, rfl⟩ (Nat.zero_le _) (by omega) ?_ | refine st_append lay_ok rfl rfl rfl rfl rfl rfl rfl rfl (.lsl rfl rfl) (.sl (rows := [[SV.sl 1 (List.take (c - 0) (List.drop 0 (List.map rowS l)))]])) rfl one (by simp only [List.length_cons, List.length_nil]; omega) (by simp only [List.length_cons, List.length_nil]; omega) ?_)) | fail
        all_goals first
          | (exfalso; omega)
          | skip
        rw [hr2]
        refine n_rr ((i + 1, rs ++ [l.take c], m)) ?_ (.of [2] (by (repeat' first | exact trivial | refine And.intro ?_ ?_ | rfl | exact congrArg (fun z : Int => some (AV.st (.int .i64 z))) (show (i : Int) + 1 = ((i + 1 : Nat) : Int) by omega)); first | done | fail) (by (repeat' first | exact trivial | refine And.intro ?_ ?_ | rfl | exact congrArg (fun z : Int => some (AV.st (.int .i64 z))) (show (i : Int) + 1 = ((i + 1 : Nat) : Int) by omega)); first | done | fail) rfl) ?_
        · show cuts.length - (i + 1) < cuts.length - i; omega
        · exact ⟨hi, by show (rs ++ [l.take c]).length ≤ i + 1; rw [List.length_append, List.length_singleton]; omega, hmem, g4, hsn⟩
    · repeat' first | refine wr (by omega) ?_ | refine ln ?_ | refine stp lay_ok rfl ?_ | refine fin ?_ | refine n_thn ?_ | refine n_blk ?_ | refine e_thn ?_ | refine e_hit ?_ | refine e_rr ?_ | refine .seq ?_ | refine reg ?_ | refine .block ?_ | refine .skip ?_ | refine .exit ?_ | refine cndF rfl ?_ | refine c_dec rfl (fun hc => ?_) (fun hc => ?_) | ((first | refine o_none rfl ?_ | refine o_yes rfl rfl rfl ?_); refine st_index [SV.int .i64 x] lay_ok rfl rfl rfl rfl (by omega) hat ?_) | refine gd rfl rfl rfl (fun hg => ?_) (fun hg => ?_) | fail
      all_goals first
        | (exfalso; omega)
        | skip
      all_goals
        refine n_rr ((i + 1, rs, m)) ?_ (.of [1] (by (repeat' first | exact trivial | refine And.intro ?_ ?_ | rfl | exact congrArg (fun z : Int => some (AV.st (.int .i64 z))) (show (i : Int) + 1 = ((i + 1 : Nat) : Int) by omega)); first | done | fail) (by (repeat' first | exact trivial | refine And.intro ?_ ?_ | rfl | exact congrArg (fun z : Int => some (AV.st (.int .i64 z))) (show (i : Int) + 1 = ((i + 1 : Nat) : Int) by omega)); first | done | fail) rfl) ?_
        · show cuts.length - (i + 1) < cuts.length - i; omega
        · exact ⟨hi, by show rs.length ≤ i + 1; omega, g3, g4, g5⟩
  · have hmr2 : ∀ a ∈ rs, a.length ≤ 100 := fun a ha => by
      obtain ⟨c, _, rfl⟩ := g3 a ha
      rw [List.length_take]; omega
    have hbad : badI rs = -1 := badI_none fun j hj => badAt_no hj fun k hk _ => by
      obtain ⟨c, c1, c2⟩ := g3 _ (List.getElem_mem hj)
      obtain ⟨d, d1, d2⟩ := g3 _ (List.getElem_mem hk)
      rw [c2, d2]; exact begB_take l c d c1 d1
    have hag := agree_ok rs (by omega) (fun a ha => by have := hmr2 a ha; omega)
    have hlo := longest_ok rs (by omega) (fun a ha => by have := hmr2 a ha; omega)
    have hsm := same3_ok (lonG rs) (l.take m) (by rw [g5, List.length_take]; omega) (by rw [List.length_take]; omega)
    rw [hbad] at hag
    rw [g5, decide_eq_true rfl, List.map_take] at hsm
    rw [g5, List.map_take] at hlo
    repeat' first | refine o_frzA (f := 41) rfl rfl rfl rfl (by (repeat' first | exact trivial | refine And.intro ?_ ?_ | rfl); first | done | fail) (by (repeat' first | exact trivial | refine And.intro ?_ ?_ | rfl); first | done | fail) rfl rfl ?_ | refine ln ?_ | refine stp lay_ok rfl ?_ | refine fin ?_ | refine n_thn ?_ | refine e_thn ?_ | refine e_hit ?_ | refine e_rr ?_ | refine .seq ?_ | refine reg ?_ | refine .block ?_ | refine .skip ?_ | refine .exit ?_ | refine c_dec rfl (fun hc => ?_) (fun hc => ?_) | (refine o_none rfl ?_; refine st_pure (hag) b41 rfl rfl rfl rfl ?_) | fail
    all_goals first
      | (exfalso; omega)
      | skip
    refine dreg [(0, [], []), (1, [0], []), (2, [0, 1], []), (3, [0, 1, 2], []), (4, [0, 1, 2, 3], []), (5, [0, 1, 2, 3, 4], []), (6, [0, 1, 2, 3, 4, 5], []), (7, [0, 1, 2, 3, 4, 5, 6], []), (8, [0, 1, 2, 3, 4, 5, 6, 7], []), (9, [0, 1, 2, 3, 4, 5, 6, 7, 8], [79, 80, 81]), (10, [0, 1, 2, 3, 4, 5, 6, 7, 8, 9], [79, 80, 81]), (11, [0, 1, 2, 3, 4, 5, 6, 7, 8], [77, 78, 80]), (12, [0, 1, 2, 3, 4, 5, 6, 7, 8], [77, 78, 79]), (13, [0, 1, 2, 3, 4, 5, 6, 7, 8, 11, 12], [77, 78]), (14, [0, 1, 2, 3, 4, 5, 6, 7, 8, 9, 10, 11, 12, 13], []), (15, [0, 1, 2, 3, 4, 5, 6, 7, 8, 9, 10, 11, 12, 13, 14], []), (16, [0, 1, 2, 3, 4, 5, 6, 7, 8, 9, 10, 11, 12, 13, 14, 15], [])] mixed (by kernel_rfl) ?_
    repeat' first | refine n_thn ?_ | refine .ret ?_ | refine dws lay_ok rfl rfl rfl rfl rfl rfl rfl ?_ | refine dw_end ?_ | refine dwb rfl rfl rfl rfl rfl (by (first | refine st_pure (hlo) b42 rfl rfl rfl rfl ?_ | refine st_subL 0 m lay_ok rfl rfl rfl rfl ⟨_, _, rfl, rfl⟩ (Nat.zero_le _) (by omega) ?_ | refine st_pure (hsm) b25 rfl rfl rfl rfl ?_); exact fin rfl) rfl rfl ?_ | fail
    all_goals first
      | (exfalso; omega)
      | skip
    refine f_r [] rfl trivial rfl ⟨?_, rfl⟩
    rfl
end Go.Proofs.YtohmbpcjapjkbaaGreatDoorFn
namespace Go.Proofs.YtohmbpcjapjkbaaGreatDoor
open Go.Proofs.YtohmbpcjapjkbaaGreatDoorAl Go.ChangeAt Go.RowKit
open Go.Proofs.YtohmbpcjapjkbaaGreatDoorFn
theorem own : ownKnob Tryz.prog.godebug = none := by kernel_rfl
theorem laidOut : laidOutB Tryz.prog = true := by kernel_rfl
def pars : List Par := [⟨22, false, ΦL 1 16 ΦS⟩, ⟨45, false, ΦL 1 8 ΦI⟩]
theorem pars_ok : ParsOk Tryz.prog pars :=
  ⟨rdLS, ⟨_, Tryz.underlying22, rfl⟩, by kernel_rfl, of_decide_eq_true (by kernel_rfl),
   rdLI, ⟨_, Tryz.underlying45, rfl⟩, by kernel_rfl, of_decide_eq_true (by kernel_rfl), trivial⟩
theorem law_ok : LawOk Tryz.prog 11 pars := by
  rintro svs ⟨_, _, rfl, ⟨r0, h0, hr0, hl0⟩, _, _, rfl, ⟨r1, h1, hr1, hl1⟩, rfl⟩
  cases h0
  obtain ⟨x0, rfl, hm0⟩ := ofSs hr0
  simp only [List.length_map] at hl0
  cases h1
  obtain ⟨x1, rfl, hm1⟩ := rows_map (f := rowZ) (Ok := fun _ => True) (fun row hm => ofZ (hr1 row hm))
  simp only [List.length_map] at hl1
  have hreach : reachBytes ≤ 140737488351232 := by decide
  exact lawBegins_ok x0 x1
set_option maxRecDepth 100000 in
theorem law_lift (os : Os) (started : os.Started) (H : Type) (enc : TypeId × Value → H) :
    ReturnsInHanded {} Tryz.checked os 11 .any (fun w args => (Rows.checkBeginsSpec.pre enc Tryz.prog Tryz.f11 [] false w args ∧ laidMetH Tryz.prog Rows.checkBeginsRow.laid w) ∧ sizedMet enc Tryz.prog Tryz.f11 (OpenSpec.ofChange Rows.checkBeginsSpec) false w args) (Rows.checkBeginsSpec.post enc Tryz.prog Tryz.f11 false true false false) :=
  law_liftedL (C := Tryz.checked) (ps := pars) own started (by kernel_rfl) Tryz.func11
    (ChangeSpec.witness_shaped (enc := enc) (C := Tryz.checked) (os := os) (X := fun w _ => laidMetH Tryz.prog Rows.checkBeginsRow.laid w) false (World.laidAll Tryz.prog os Rows.checkBeginsRow.laid) #[.slice none 0 0, .slice none 0 0] 8 (World.laidAll_os _ _ _)
      (World.shaped_of_ZipB (by kernel_rfl) (by kernel_rfl)) (by kernel_rfl) (by kernel_rfl) (by kernel_rfl)
      (by rw [MakeChecks.laidMetH_plain _ _ _ (by kernel_rfl)]; exact laidMet_laidAll _ (by kernel_rfl) (by kernel_rfl)))
    laidOut rfl rfl Tryz.underlying4 rfl
    (fun ds hds => by
      match ds, hds with
      | [_, _], _ => rfl) pars_ok law_ok
theorem law_over : Rows.checkBeginsRow.holds Tryz.pinned (OpenSpec.ofChange Rows.checkBeginsSpec) :=
  OpenClaim.holds_of_wide 11 Tryz.f11 rfl rfl rfl rfl rfl rfl rfl ⟨rfl, rfl, rfl, rfl, rfl⟩ rfl rfl rfl rfl rfl (by kernel_rfl) Tryz.func11 (by kernel_rfl)
    (of_decide_eq_true (by kernel_rfl)) (by unfold Func.isWrapper; first | (rw [if_pos (by decide +kernel)]; kernel_rfl) | (rw [if_neg (by decide +kernel)]; exact ⟨rfl, rfl⟩))
    (fun os started H enc _ => law_lift os started H enc)
theorem CheckBegins_holds : Rows.CheckBeginsCardSaid :=
  Claim7.holds_tied_plain_at .later [] [.data, .pinned] true Rows.checkBeginsCard.stood.harness Rows.checkBeginsCard.stood.looks law_over (fun _ h => by cases h) (by kernel_rfl) (fun _ h => by cases h) checkBegins_row_tie rfl ⟨rfl, rfl⟩ (by kernel_rfl) rfl
    (fun f fn hf hfn => by
      obtain rfl : f = 11 := Option.some.inj ((show Tryz.prog.funcNamed "becket/becketlaw21.CheckBegins" = some 11 by kernel_rfl).symm.trans hf) |>.symm
      obtain rfl : fn = Tryz.f11 := (Option.some.inj (Tryz.func11.symm.trans hfn)).symm
      exact ⟨by kernel_rfl, fun j t ht => by
        have hm : t ∈ ([22, 45] : List Nat) := by
          have e := Array.mem_of_getElem? ht
          rw [Tryz.params11] at e
          simpa using e
        have hall : (([22, 45] : List Nat).all fun u => !Tryz.prog.wantsStandIn u) = true := by kernel_rfl
        exact (show Tryz.prog.wantsStandIn t = false by simpa using List.all_eq_true.1 hall t hm)⟩)
    (by kernel_rfl)
#print axioms CheckBegins_holds
end Go.Proofs.YtohmbpcjapjkbaaGreatDoor
