/- The law ExecOnce: for every input it says true: a request is done once, however often it is decided, and wherever. No condition. -/
import Derived.Test.YtohmbpcjapjkbaaGreatDoorP5
import Derived.Test.YtohmbpcjapjkbaaGreatDoorAlYZ
import Derived.Test.YtohmbpcjapjkbaaGreatDoorRows
import Derived.Test.YtohmbpcjapjkbaaGreatDoorTie
import Derived.Test.YtohmbpcjapjkbaaGreatDoorCards
set_option linter.all false
namespace Go.Proofs.YtohmbpcjapjkbaaGreatDoorFn
open Go.Proofs.YtohmbpcjapjkbaaGreatDoorAl Go.Proofs.Tryz
attribute [local irreducible] IntKind.wrap CodeOk OpsL OpG ACalls thn inBlk rndR cutR WkR Wk fnR DW ExtOk partsOf
theorem b3 : HasBody prog 3 := ⟨f3, func3, Option.some_ne_none _, by decide⟩
/-! ### a request is done once -/
/-- An executor whose catalog is that box. -/
abbrev exCP (p : Nat) (z : Nat → LA) (bs : AV) : AO := .cells [.ptr p 0, .st (.int .i64 (z 0).time), .st (.int .i64 (z 0).ans.code), .st (.int .i64 (z 0).ans.n), .st (.sl 1 ((z 0).ans.names.map rowS)), .st (.sl 1 ((z 0).ans.keys.map rowS)), .st (.sl 3 ((z 0).ans.entries.map rowE)), .st (.int .i64 (z 1).time), .st (.int .i64 (z 1).ans.code), .st (.int .i64 (z 1).ans.n), .st (.sl 1 ((z 1).ans.names.map rowS)), .st (.sl 1 ((z 1).ans.keys.map rowS)), .st (.sl 3 ((z 1).ans.entries.map rowE)), .st (.int .i64 (z 2).time), .st (.int .i64 (z 2).ans.code), .st (.int .i64 (z 2).ans.n), .st (.sl 1 ((z 2).ans.names.map rowS)), .st (.sl 1 ((z 2).ans.keys.map rowS)), .st (.sl 3 ((z 2).ans.entries.map rowE)), .st (.int .i64 (z 3).time), .st (.int .i64 (z 3).ans.code), .st (.int .i64 (z 3).ans.n), .st (.sl 1 ((z 3).ans.names.map rowS)), .st (.sl 1 ((z 3).ans.keys.map rowS)), .st (.sl 3 ((z 3).ans.entries.map rowE)), .st (.int .i64 (z 4).time), .st (.int .i64 (z 4).ans.code), .st (.int .i64 (z 4).ans.n), .st (.sl 1 ((z 4).ans.names.map rowS)), .st (.sl 1 ((z 4).ans.keys.map rowS)), .st (.sl 3 ((z 4).ans.entries.map rowE)), .st (.int .i64 (z 5).time), .st (.int .i64 (z 5).ans.code), .st (.int .i64 (z 5).ans.n), .st (.sl 1 ((z 5).ans.names.map rowS)), .st (.sl 1 ((z 5).ans.keys.map rowS)), .st (.sl 3 ((z 5).ans.entries.map rowE)), .st (.int .i64 (z 6).time), .st (.int .i64 (z 6).ans.code), .st (.int .i64 (z 6).ans.n), .st (.sl 1 ((z 6).ans.names.map rowS)), .st (.sl 1 ((z 6).ans.keys.map rowS)), .st (.sl 3 ((z 6).ans.entries.map rowE)), .st (.int .i64 (z 7).time), .st (.int .i64 (z 7).ans.code), .st (.int .i64 (z 7).ans.n), .st (.sl 1 ((z 7).ans.names.map rowS)), .st (.sl 1 ((z 7).ans.keys.map rowS)), .st (.sl 3 ((z 7).ans.entries.map rowE)), bs]
/-- A body whose request, if it is one, is not newer than what was done. -/
def Old (z : Nat → LA) (body : ByteArray) : Prop := ∀ q, getQ (bd body) = some q → q.time ≤ (z q.client.toNat).time
theorem exD_old {s : XS} {body : ByteArray} (h : Old s.z body) : exD s body = (s, none) := by
  unfold exD
  split
  · rfl
  · rename_i q hq
    rw [if_pos (h q hq)]
theorem upd_time (z : Nat → LA) (c : Nat) (v : LA) (i : Nat) (h : (z c).time ≤ v.time) : (z i).time ≤ (upd z c v i).time := by
  unfold upd
  split
  · rename_i e; subst e; exact h
  · exact Int.le_refl _
theorem exD_time (s : XS) (body : ByteArray) (i : Nat) : (s.z i).time ≤ ((exD s body).1.z i).time := by
  unfold exD
  split
  · exact Int.le_refl _
  split
  · exact Int.le_refl _
  · rename_i q hq ht
    exact upd_time _ _ _ _ (by show _ ≤ q.time; omega)
theorem exD_did (s : XS) (body : ByteArray) : Old (exD s body).1.z body := fun q hq => by
  unfold exD
  rw [hq]
  simp only
  split
  · assumption
  · show q.time ≤ (upd s.z q.client.toNat _ q.client.toNat).time
    unfold upd
    rw [if_pos rfl]
    exact Int.le_refl _
theorem Old.go {s : XS} {a : ByteArray} (h : Old s.z a) (body : ByteArray) : Old (exD s body).1.z a := fun q hq => Int.le_trans (h q hq) (exD_time s body _)
theorem i64_fit {n : Int} (h : (Lit.int .i64 n).wf = true) : n ≤ 9223372036854775807 ∧ -9223372036854775808 ≤ n := by
  have h' : (decide (IntKind.i64.min ≤ n) && decide (n ≤ IntKind.i64.max)) = true := h
  rw [Bool.and_eq_true, decide_eq_true_eq, decide_eq_true_eq] at h'
  exact ⟨h'.2, h'.1⟩
set_option maxHeartbeats 16000000 in
set_option maxRecDepth 4000 in
theorem lawOnce_ok (l : List ByteArray) (at_ : Int) (hat : at_ ≤ 9223372036854775807 ∧ -9223372036854775808 ≤ at_) : ACalls prog 3 0 [.st (.sl 1 (l.map rowS)), I at_] [] fun r h => r = B true ∧ h = [] := by
  have hup := up15_ok
  have hsh := short15_ok l
  have hN := execNew_ok
  have hm : (List.map rowS l).length = l.length := List.length_map _
  by_cases hSS : short15 l = true ∧ l.length ≠ 0
  case neg =>
    refine fnC lay_ok func3 rfl rfl rfl rfl rfl ?_
    cases hS : short15 l <;> rw [hS] at hsh
    all_goals
      repeat' first | refine wr (by omega) ?_ | refine ln ?_ | refine stp lay_ok rfl ?_ | refine fin ?_ | refine n_thn ?_ | refine r_thn ?_ | refine .seq ?_ | refine reg ?_ | refine .skip ?_ | refine .ret ?_ | refine cndT rfl ?_ | refine c_dec rfl (fun hc => ?_) (fun hc => ?_) | (refine o_none rfl ?_; (first | refine st_pure (hup) b13 rfl rfl rfl rfl ?_ | refine st_pure (hsh) b14 rfl rfl rfl rfl ?_ | refine st_callF 4 (hN) b15 rfl rfl rfl rfl rfl rfl (by (repeat' first | exact trivial | refine And.intro ?_ ?_ | rfl); first | done | fail) rfl ?_)) | fail
      all_goals first
        | (exfalso; exact hSS ⟨hS, by omega⟩)
        | (refine f_r [] rfl trivial rfl ⟨?_, rfl⟩; rfl)
  obtain ⟨hS, h0⟩ := hSS
  obtain ⟨hl, hz⟩ := short15_fit hS
  rw [hS] at hsh
  have hkk : ∃ k : Nat, k < l.length ∧ (at_ < 0 → Int.tmod (0 - (at_ + 1)) (l.length : Int) = (k : Int)) ∧ (¬ at_ < 0 → Int.tmod at_ (l.length : Int) = (k : Int)) := by
    have key : ∀ a : Int, 0 ≤ a → ∃ k : Nat, k < l.length ∧ Int.tmod a (l.length : Int) = (k : Int) := fun a ha => by
      have e1 := Int.tmod_eq_emod_of_nonneg (b := (l.length : Int)) ha
      have e2 := Int.emod_lt_of_pos a (show (0 : Int) < l.length by omega)
      have e3 := Int.emod_nonneg a (show (l.length : Int) ≠ 0 by omega)
      exact ⟨(a % (l.length : Int)).toNat, by omega, by omega⟩
    by_cases h : at_ < 0
    · obtain ⟨k, k1, k2⟩ := key (0 - (at_ + 1)) (by omega)
      exact ⟨k, k1, fun _ => k2, fun h' => absurd h h'⟩
    · obtain ⟨k, k1, k2⟩ := key at_ (by omega)
      exact ⟨k, k1, fun h' => absurd h' h, fun _ => k2⟩
  obtain ⟨k, hkl, hk1, hk2⟩ := hkk
  refine fnC lay_ok func3 rfl rfl rfl rfl rfl ?_
  repeat' first | refine wr (by omega) ?_ | refine ln ?_ | refine stp lay_ok rfl ?_ | refine fin ?_ | refine n_thn ?_ | refine r_thn ?_ | refine .seq ?_ | refine reg ?_ | refine .block ?_ | refine .skip ?_ | refine .ret ?_ | refine c_dec rfl (fun hc => ?_) (fun hc => ?_) | (refine o_none rfl ?_; (first | refine st_pure (hup) b13 rfl rfl rfl rfl ?_ | refine st_pure (hsh) b14 rfl rfl rfl rfl ?_ | refine st_callF 4 (hN) b15 rfl rfl rfl rfl rfl rfl (by (repeat' first | exact trivial | refine And.intro ?_ ?_ | rfl); first | done | fail) rfl ?_ | refine st_div rfl rfl rfl (by omega) ?_)) | fail
  all_goals first
    | (exfalso; omega)
    | skip
  all_goals
    first
      | rw [hk1 (by assumption)]
      | rw [hk2 (by assumption)]
    clear hk1 hk2
    refine nrm rfl rfl ?_
    refine lpR (fun (i, s, bs, ds) => i ≤ l.length ∧ XP s ∧ bs.length ≤ 2 * i ∧ ds.length ≤ 2 * i ∧ (k < i → Old s.z l[k])) (fun (i, s, bs, ds) => l.length - i) (fun (i, s, bs, ds) => [(10, I i)]) (fun (i, s, bs, ds) => [(0, exC s.z (.lsl 9 1 0 (bs.map rowS).length)), (1, .cells [.lsl 8 4 (gN s.b) (s.l.map rowN).length]), (8, .arr 4 (s.l.map rowN ++ gR s.b)), (9, .arr 1 (bs.map rowS)), (4, exCP 5 s.z (.lsl 11 1 0 (ds.map rowS).length)), (5, .cells [.lsl 10 4 (gN s.b) (s.l.map rowN).length]), (10, .arr 4 (s.l.map rowN ++ gR s.b)), (11, .arr 1 (ds.map rowS))]) ((0, xs0, [], [])) [0, 5, 7, 8, 9] [0, 1, 4, 5] [2, 3, 6, 7] rfl rfl rfl (.of [2, 3, 6, 7] (by (repeat' first | exact trivial | refine And.intro ?_ ?_ | rfl); first | done | fail) (by (repeat' first | exact trivial | refine And.intro ?_ ?_ | rfl); first | done | fail) rfl) ?_ ?_
    · exact ⟨Nat.zero_le _, xp0, Nat.le_refl _, Nat.le_refl _, fun h => absurd h (Nat.not_lt_zero _)⟩
    rintro ⟨i, s, bs, ds⟩ ⟨g1, g2, g3, g4, g5⟩
    refine nrm rfl rfl ?_
    by_cases hi : i < l.length
    · have hati := at_rowS hi
      have hatk := at_rowS hkl
      have hzi := hz _ (List.getElem_mem hi)
      have hzk := hz _ (List.getElem_mem hkl)
      have hdo1 := (execDo_ok s bs l[i] g2 (by omega) (by omega)).lessR
      have hdo2 := (execDo_ok s ds l[i] g2 (by omega) (by omega)).lessR
      have hX := exD_inv l[i] g2
      have hold : k ≤ i → Old (exD s l[i]).1.z l[k] := fun h => by
        by_cases e : k = i
        · subst e; exact exD_did s _
        · exact (g5 (by omega)).go _
      have hdo3 := fun h : k ≤ i => execDo_ok (exD s l[i]).1 (ds ++ [l[i]]) l[k] hX (by omega) (by rw [List.length_append, List.length_singleton]; omega)
      have hdo3 := fun h : k ≤ i => by
        have h3 := hdo3 h
        rw [exD_old (hold h)] at h3
        simp only [exA] at h3
        exact h3
      generalize exD s l[i] = X at *
      obtain ⟨s2, oa⟩ := X
      simp only at hdo1 hdo2 hX hold hdo3
      generalize l[i] = bi at *
      have hb1 : (bs ++ [bi]).length ≤ 2 * (i + 1) := by rw [List.length_append, List.length_singleton]; omega
      have hb2 : (ds ++ [bi]).length ≤ 2 * (i + 1) := by rw [List.length_append, List.length_singleton]; omega
      by_cases hki : k ≤ i
      · have hb3 : (ds ++ [bi] ++ [l[k]]).length ≤ 2 * (i + 1) := by rw [List.length_append, List.length_singleton, List.length_append, List.length_singleton]; omega
        have hdo3 := hdo3 hki
        have hold := hold hki
        generalize hbk : l[k] = bk at *
        obtain ⟨sl, sb, sz⟩ := s
        obtain ⟨tl, tb, tz⟩ := s2
        simp only at hdo1 hdo2 hdo3
        repeat' first | refine wr (by omega) ?_ | refine ln ?_ | refine stp lay_ok rfl ?_ | refine fin ?_ | refine n_thn ?_ | refine n_blk ?_ | refine e_thn ?_ | refine e_hit ?_ | refine e_rr ?_ | refine .seq ?_ | refine reg ?_ | refine .block ?_ | refine .skip ?_ | refine .exit ?_ | refine cndF rfl ?_ | refine c_dec rfl (fun hc => ?_) (fun hc => ?_) | (refine o_none rfl ?_; (first | refine st_index (rowS bi) lay_ok rfl rfl rfl rfl (by omega) hati ?_ | refine st_index (rowS bk) lay_ok rfl rfl rfl rfl (by omega) hatk ?_ | refine st_callG [0,1,8,9] 2 (hdo1) b16 rfl rfl rfl rfl rfl (by (repeat' first | exact trivial | refine And.intro ?_ ?_ | rfl); first | done | fail) rfl ?_ | refine st_callG [4,5,10,11] 2 (hdo2) b16 rfl rfl rfl rfl rfl (by (repeat' first | exact trivial | refine And.intro ?_ ?_ | rfl); first | done | fail) rfl ?_ | refine st_callG [4,5,15,14] 2 (hdo3) b16 rfl rfl rfl rfl rfl (by (repeat' first | exact trivial | refine And.intro ?_ ?_ | rfl); first | done | fail) rfl ?_)) | fail
        all_goals first
          | (exfalso; omega)
          | skip
        refine n_rr ((i + 1, ⟨tl, tb, tz⟩, bs ++ [bi], ds ++ [bi] ++ [bk])) ?_ (.of [13, 12, 17, 16] (by (repeat' first | exact trivial | refine And.intro ?_ ?_ | rfl | exact congrArg (fun z : Int => some (AV.st (.int .i64 z))) (show (i : Int) + 1 = ((i + 1 : Nat) : Int) by omega)); first | done | fail) (by (repeat' first | exact trivial | refine And.intro ?_ ?_ | rfl | exact congrArg (fun z : Int => some (AV.st (.int .i64 z))) (show (i : Int) + 1 = ((i + 1 : Nat) : Int) by omega)); first | done | fail) rfl) ?_
        · show l.length - (i + 1) < l.length - i; omega
        · exact ⟨hi, hX, hb1, hb3, fun _ => by first | exact hold | (rw [hbk]; exact hold)⟩
      · obtain ⟨sl, sb, sz⟩ := s
        obtain ⟨tl, tb, tz⟩ := s2
        simp only at hdo1 hdo2
        repeat' first | refine wr (by omega) ?_ | refine ln ?_ | refine stp lay_ok rfl ?_ | refine fin ?_ | refine n_thn ?_ | refine n_blk ?_ | refine e_thn ?_ | refine e_hit ?_ | refine e_rr ?_ | refine .seq ?_ | refine reg ?_ | refine .block ?_ | refine .skip ?_ | refine .exit ?_ | refine c_dec rfl (fun hc => ?_) (fun hc => ?_) | (refine o_none rfl ?_; (first | refine st_index (rowS bi) lay_ok rfl rfl rfl rfl (by omega) hati ?_ | refine st_callG [0,1,8,9] 2 (hdo1) b16 rfl rfl rfl rfl rfl (by (repeat' first | exact trivial | refine And.intro ?_ ?_ | rfl); first | done | fail) rfl ?_ | refine st_callG [4,5,10,11] 2 (hdo2) b16 rfl rfl rfl rfl rfl (by (repeat' first | exact trivial | refine And.intro ?_ ?_ | rfl); first | done | fail) rfl ?_)) | fail
        all_goals first
          | (exfalso; omega)
          | skip
        refine n_rr ((i + 1, ⟨tl, tb, tz⟩, bs ++ [bi], ds ++ [bi])) ?_ (.of [13, 12, 15, 14] (by (repeat' first | exact trivial | refine And.intro ?_ ?_ | rfl | exact congrArg (fun z : Int => some (AV.st (.int .i64 z))) (show (i : Int) + 1 = ((i + 1 : Nat) : Int) by omega)); first | done | fail) (by (repeat' first | exact trivial | refine And.intro ?_ ?_ | rfl | exact congrArg (fun z : Int => some (AV.st (.int .i64 z))) (show (i : Int) + 1 = ((i + 1 : Nat) : Int) by omega)); first | done | fail) rfl) ?_
        · show l.length - (i + 1) < l.length - i; omega
        · exact ⟨hi, hX, hb1, hb2, fun h => absurd h (by show ¬ k < i + 1; omega)⟩
    have hc1 := execCat_ok s bs g2
    have hc2 := execCat_ok s ds g2
    obtain ⟨c1, c2⟩ := catP_fits g2.cat
    have hsn := snapsX_ok s.l false (by simp) c1 c2
    have hs9 := same9_ok s.l s.l c1 c1 c2 c2
    rw [decide_eq_true rfl] at hs9
    obtain ⟨sl, sb, sz⟩ := s
    simp only at hc1 hc2 hsn hs9
    repeat' first | refine ln ?_ | refine stp lay_ok rfl ?_ | refine fin ?_ | refine n_thn ?_ | refine e_thn ?_ | refine e_hit ?_ | refine e_rr ?_ | refine .seq ?_ | refine reg ?_ | refine .block ?_ | refine .skip ?_ | refine .ret ?_ | refine .exit ?_ | refine cndF rfl ?_ | refine c_dec rfl (fun hc => ?_) (fun hc => ?_) | ((first | refine o_none rfl ?_ | refine o_yes rfl rfl rfl ?_); (first | refine st_callG [0,1,8,9] 2 (hc1) b17 rfl rfl rfl rfl rfl (by (repeat' first | exact trivial | refine And.intro ?_ ?_ | rfl); first | done | fail) rfl ?_ | refine st_callG [4,5,10,11] 2 (hc2) b17 rfl rfl rfl rfl rfl (by (repeat' first | exact trivial | refine And.intro ?_ ?_ | rfl); first | done | fail) rfl ?_ | refine st_callK [12,13] (hsn) b19 rfl rfl rfl rfl rfl (by (repeat' first | exact trivial | refine And.intro ?_ ?_ | rfl); first | done | fail) ?_ | refine st_callK [14,15] (hsn) b19 rfl rfl rfl rfl rfl (by (repeat' first | exact trivial | refine And.intro ?_ ?_ | rfl); first | done | fail) ?_ | refine st_pure (hs9) b18 rfl rfl rfl rfl ?_)) | fail
    all_goals first
      | (exfalso; omega)
      | skip
    refine f_r [] rfl trivial rfl ⟨?_, rfl⟩
    rfl
end Go.Proofs.YtohmbpcjapjkbaaGreatDoorFn
namespace Go.Proofs.YtohmbpcjapjkbaaGreatDoor
open Go.Proofs.YtohmbpcjapjkbaaGreatDoorAl Go.ChangeAt Go.RowKit
open Go.Proofs.YtohmbpcjapjkbaaGreatDoorFn
theorem own : ownKnob Tryz.prog.godebug = none := by kernel_rfl
theorem laidOut : laidOutB Tryz.prog = true := by kernel_rfl
def pars : List Par := [⟨22, false, ΦL 1 16 ΦS⟩, ⟨3, false, ΦI⟩]
theorem pars_ok : ParsOk Tryz.prog pars :=
  ⟨rdLS, ⟨_, Tryz.underlying22, rfl⟩, by kernel_rfl, of_decide_eq_true (by kernel_rfl),
   rdI, ⟨_, Tryz.underlying3, rfl⟩, by kernel_rfl, of_decide_eq_true (by kernel_rfl), trivial⟩
theorem law_ok : LawOk Tryz.prog 3 pars := by
  rintro svs ⟨_, _, rfl, ⟨r0, h0, hr0, hl0⟩, _, _, rfl, ⟨x1, h1, hm1⟩, rfl⟩
  cases h0
  obtain ⟨x0, rfl, hm0⟩ := ofSs hr0
  simp only [List.length_map] at hl0
  cases h1
  have hreach : reachBytes ≤ 140737488351232 := by decide
  exact lawOnce_ok x0 x1 (i64_fit hm1)
set_option maxRecDepth 100000 in
theorem law_lift (os : Os) (started : os.Started) (H : Type) (enc : TypeId × Value → H) :
    ReturnsInHanded {} Tryz.checked os 3 .any (fun w args => (Rows.execOnceSpec.pre enc Tryz.prog Tryz.f3 [] false w args ∧ laidMetH Tryz.prog Rows.execOnceRow.laid w) ∧ sizedMet enc Tryz.prog Tryz.f3 (OpenSpec.ofChange Rows.execOnceSpec) false w args) (Rows.execOnceSpec.post enc Tryz.prog Tryz.f3 false true false false) :=
  law_liftedL (C := Tryz.checked) (ps := pars) own started (by kernel_rfl) Tryz.func3
    (ChangeSpec.witness_shaped (enc := enc) (C := Tryz.checked) (os := os) (X := fun w _ => laidMetH Tryz.prog Rows.execOnceRow.laid w) false (World.laidAll Tryz.prog os Rows.execOnceRow.laid) #[.slice none 0 0, .int .i64 0] 8 (World.laidAll_os _ _ _)
      (World.shaped_of_ZipB (by kernel_rfl) (by kernel_rfl)) (by kernel_rfl) (by kernel_rfl) (by kernel_rfl)
      (by rw [MakeChecks.laidMetH_plain _ _ _ (by kernel_rfl)]; exact laidMet_laidAll _ (by kernel_rfl) (by kernel_rfl)))
    laidOut rfl rfl Tryz.underlying4 rfl
    (fun ds hds => by
      match ds, hds with
      | [_, _], _ => rfl) pars_ok law_ok
theorem law_over : Rows.execOnceRow.holds Tryz.pinned (OpenSpec.ofChange Rows.execOnceSpec) :=
  OpenClaim.holds_of_wide 3 Tryz.f3 rfl rfl rfl rfl rfl rfl rfl ⟨rfl, rfl, rfl, rfl, rfl⟩ rfl rfl rfl rfl rfl (by kernel_rfl) Tryz.func3 (by kernel_rfl)
    (of_decide_eq_true (by kernel_rfl)) (by unfold Func.isWrapper; first | (rw [if_pos (by decide +kernel)]; kernel_rfl) | (rw [if_neg (by decide +kernel)]; exact ⟨rfl, rfl⟩))
    (fun os started H enc _ => law_lift os started H enc)
theorem ExecOnce_holds : Rows.ExecOnceCardSaid :=
  Claim7.holds_tied_plain_at .later [] [.data, .pinned] true Rows.execOnceCard.stood.harness Rows.execOnceCard.stood.looks law_over (fun _ h => by cases h) (by kernel_rfl) (fun _ h => by cases h) execOnce_row_tie rfl ⟨rfl, rfl⟩ (by kernel_rfl) rfl
    (fun f fn hf hfn => by
      obtain rfl : f = 3 := Option.some.inj ((show Tryz.prog.funcNamed "becket/becketlaw15.ExecOnce" = some 3 by kernel_rfl).symm.trans hf) |>.symm
      obtain rfl : fn = Tryz.f3 := (Option.some.inj (Tryz.func3.symm.trans hfn)).symm
      exact ⟨by kernel_rfl, fun j t ht => by
        have hm : t ∈ ([22, 3] : List Nat) := by
          have e := Array.mem_of_getElem? ht
          rw [Tryz.params3] at e
          simpa using e
        have hall : (([22, 3] : List Nat).all fun u => !Tryz.prog.wantsStandIn u) = true := by kernel_rfl
        exact (show Tryz.prog.wantsStandIn t = false by simpa using List.all_eq_true.1 hall t hm)⟩)
    (by kernel_rfl)
#print axioms ExecOnce_holds
end Go.Proofs.YtohmbpcjapjkbaaGreatDoor
