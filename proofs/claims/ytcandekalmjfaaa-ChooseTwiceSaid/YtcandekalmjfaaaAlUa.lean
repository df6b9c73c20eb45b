import Derived.Test.YtcandekalmjfaaaAlTd
import Derived.Test.YtcandekalmjfaaaAlZa
set_option linter.all false
namespace Go.Proofs.YtcandekalmjfaaaFn
open Go.Proofs.YtcandekalmjfaaaAl Go.Proofs.Try
attribute [local irreducible] IntKind.wrap CodeOk OpsL OpG ACalls thn inBlk rndR cutR WkR Wk fnR DW
theorem b23 : HasBody prog 23 := ⟨f23, func23, Option.some_ne_none _, by decide⟩
theorem b22 : HasBody prog 22 := ⟨f22, func22, Option.some_ne_none _, by decide⟩
theorem b31 : HasBody prog 31 := ⟨f31, func31, Option.some_ne_none _, by decide⟩
/-! ### rows that ascend -/
def asc {α : Type} (ok : α → Bool) (key : α → Int) : Option Int → List α → Bool
  | _, [] => true
  | o, x :: xs => ok x && ltO o (key x) && asc ok key (some (key x)) xs
def lastK {α : Type} (key : α → Int) (l : List α) (k : Nat) : Option Int := if k = 0 then none else (l[k - 1]?).map key
theorem asc_step {α : Type} (ok : α → Bool) (key : α → Int) (l : List α) (k : Nat) (hk : k < l.length) : asc ok key (lastK key l k) (l.drop k) =
    (ok l[k] && ltO (lastK key l k) (key l[k]) && asc ok key (lastK key l (k + 1)) (l.drop (k + 1))) := by
  rw [List.drop_eq_getElem_cons hk, asc]
  congr 2
  simp [lastK, hk]
theorem lastK_prev {α : Type} (key : α → Int) (l : List α) (k : Nat) (h0 : k ≠ 0) (hk : k - 1 < l.length) : lastK key l k = some (key l[k - 1]) := by simp [lastK, h0, hk]

def changeOk (f : Int) (c : Ch) : Bool := decide ((1 ≤ f ∧ f ≤ 4) ∧ 0 ≤ c.from_ ∧ c.from_ ≤ 3 * f ∧ 1 ≤ c.view ∧ c.view ≤ 64) && asc (fun p => proofOk f p c.view) Pf.seq none c.proofs
theorem pf_small {p : Pf} (h : pfOk p = true) : p.from_.length ≤ 140737488351232 := by simp [pfOk] at h; omega
theorem short_get {l : List Pf} (h : shortP l = true) (k : Nat) (hk : k < l.length) : pfOk l[k] = true := by
  simp only [shortP, Bool.and_eq_true, List.all_eq_true] at h
  exact h.2 _ (List.getElem_mem hk)
theorem short_len {l : List Pf} (h : shortP l = true) : l.length ≤ 200 := by
  simp only [shortP, Bool.and_eq_true, decide_eq_true_eq] at h; exact h.1
set_option maxHeartbeats 1000000 in
theorem change_ok (f : Int) (c : Ch) (hs : shortP c.proofs = true) : ACalls prog 23 0 [I f, .st (.agg c.cells)] [] fun r h => r = B (changeOk f c) ∧ h = [] := by
  have hl := short_len hs
  refine fnC lay_ok func23 rfl rfl rfl rfl rfl ?_
  have hfl := faults_ok f
  by_cases hf : 1 ≤ f ∧ f ≤ 4
  · rw [decide_eq_true hf] at hfl
    repeat' first | refine wr (by omega) ?_ | refine ln ?_ | refine stp lay_ok rfl ?_ | refine fin ?_ | refine n_thn ?_ | refine n_blk ?_ | refine e_thn ?_ | refine e_hit ?_ | refine e_miss rfl ?_ | refine r_thn ?_ | refine r_blk ?_ | refine e_rr ?_ | refine r_rr ?_ | refine e_cr ?_ | refine r_cr ?_ | refine .seq ?_ | refine reg ?_ | refine .block ?_ | refine .skip ?_ | refine .ret ?_ | refine .exit ?_ | refine cndT rfl ?_ | refine cndF rfl ?_ | refine c_dec rfl (fun hc => ?_) (fun hc => ?_) | refine c_ndec rfl (fun hc => ?_) (fun hc => ?_) | refine cnd rfl (fun hc => ?_) (fun hc => ?_) | ((first | refine o_none rfl ?_ | refine o_none_ ?_ | refine o_yes rfl rfl rfl ?_ | refine o_yes_ rfl rfl ?_); first | refine st_pure (hfl) b30 rfl rfl rfl rfl ?_ | refine st_pure (node_ok _ _ hf) b26 rfl rfl rfl rfl ?_) | refine gd rfl rfl rfl (fun hg => ?_) (fun hg => ?_) | refine gn rfl rfl rfl (fun hg => ?_) (fun hg => ?_) | refine dwr (by omega) ?_ | refine dwl ?_ | refine dws lay_ok rfl rfl rfl rfl rfl rfl rfl ?_ | refine dw_end ?_ | refine dw_skip rfl rfl rfl ?_ | refine dwn lay_ok rfl rfl rfl rfl rfl ?_ | (refine dwp rfl rfl rfl (by (first | refine st_pure (hfl) b30 rfl rfl rfl rfl ?_ | refine st_pure (node_ok _ _ hf) b26 rfl rfl rfl rfl ?_); exact fin rfl) rfl ?_) | refine dw_dec rfl rfl rfl (fun hg => ?_) (fun hg => ?_) | refine dw_ndec rfl rfl rfl (fun hg => ?_) (fun hg => ?_)
    all_goals first
      | (refine f_r [] rfl trivial rfl ⟨?_, rfl⟩; simp only [retOf, changeOk, B, AV.st.injEq, SV.bool.injEq]; symm; rw [Bool.and_eq_false_iff]; left; simp at *; omega)
      | skip
    have hn : 0 ≤ c.from_ ∧ c.from_ ≤ 3 * f := by assumption
    have hco : changeOk f c = asc (fun p => proofOk f p c.view) Pf.seq none c.proofs := by
      unfold changeOk
      rw [decide_eq_true (by omega), Bool.true_and]
    refine lpR (fun k => k ≤ c.proofs.length ∧ asc (fun p => proofOk f p c.view) Pf.seq none c.proofs = asc (fun p => proofOk f p c.view) Pf.seq (lastK Pf.seq c.proofs k) (c.proofs.drop k)) (fun k => c.proofs.length - k) (fun k => [(30, I k)]) (fun k => []) (0) [0, 3, 28, 29] [] [] rfl rfl rfl (.of [] (by repeat' first | exact trivial | refine And.intro ?_ ?_ | rfl) (by repeat' first | exact trivial | refine And.intro ?_ ?_ | rfl) rfl) ?_ ?_
    · simp [lastK]
    rintro k ⟨hk, hall⟩
    refine nrm rfl rfl ?_
    repeat' first | refine wr (by omega) ?_ | refine ln ?_ | refine stp lay_ok rfl ?_ | refine fin ?_ | refine n_thn ?_ | refine n_blk ?_ | refine e_thn ?_ | refine e_hit ?_ | refine e_miss rfl ?_ | refine r_thn ?_ | refine r_blk ?_ | refine e_rr ?_ | refine r_rr ?_ | refine e_cr ?_ | refine r_cr ?_ | refine .seq ?_ | refine reg ?_ | refine .block ?_ | refine .skip ?_ | refine .ret ?_ | refine .exit ?_ | refine cndT rfl ?_ | refine cndF rfl ?_ | refine c_dec rfl (fun hc => ?_) (fun hc => ?_) | refine c_ndec rfl (fun hc => ?_) (fun hc => ?_) | refine cnd rfl (fun hc => ?_) (fun hc => ?_) | refine gd rfl rfl rfl (fun hg => ?_) (fun hg => ?_) | refine gn rfl rfl rfl (fun hg => ?_) (fun hg => ?_) | refine dwr (by omega) ?_ | refine dwl ?_ | refine dws lay_ok rfl rfl rfl rfl rfl rfl rfl ?_ | refine dw_end ?_ | refine dw_skip rfl rfl rfl ?_ | refine dwn lay_ok rfl rfl rfl rfl rfl ?_ | refine dw_dec rfl rfl rfl (fun hg => ?_) (fun hg => ?_) | refine dw_ndec rfl rfl rfl (fun hg => ?_) (fun hg => ?_)
    · have hk' : k < c.proofs.length := by omega
      have hp := proof_ok f c.proofs[k] c.view (pf_small (short_get hs k hk'))
      have st := asc_step (fun p => proofOk f p c.view) Pf.seq c.proofs k hk'
      repeat' first | refine wr (by omega) ?_ | refine ln ?_ | refine stp lay_ok rfl ?_ | refine fin ?_ | refine n_thn ?_ | refine n_blk ?_ | refine e_thn ?_ | refine e_hit ?_ | refine e_miss rfl ?_ | refine r_thn ?_ | refine r_blk ?_ | refine e_rr ?_ | refine r_rr ?_ | refine e_cr ?_ | refine r_cr ?_ | refine .seq ?_ | refine reg ?_ | refine .block ?_ | refine .skip ?_ | refine .ret ?_ | refine .exit ?_ | refine cndT rfl ?_ | refine cndF rfl ?_ | refine c_dec rfl (fun hc => ?_) (fun hc => ?_) | refine c_ndec rfl (fun hc => ?_) (fun hc => ?_) | refine cnd rfl (fun hc => ?_) (fun hc => ?_) | ((first | refine o_none rfl ?_ | refine o_none_ ?_ | refine o_yes rfl rfl rfl ?_ | refine o_yes_ rfl rfl ?_); first | refine st_index (Pf.cells c.proofs[k]) lay_ok rfl rfl rfl rfl (by omega) (by simp [hk']) ?_) | refine gd rfl rfl rfl (fun hg => ?_) (fun hg => ?_) | refine gn rfl rfl rfl (fun hg => ?_) (fun hg => ?_) | refine dwr (by omega) ?_ | refine dwl ?_ | refine dws lay_ok rfl rfl rfl rfl rfl rfl rfl ?_ | refine dw_end ?_ | refine dw_skip rfl rfl rfl ?_ | refine dwn lay_ok rfl rfl rfl rfl rfl ?_ | (refine dwp rfl rfl rfl (by (first | refine st_index (Pf.cells c.proofs[k]) lay_ok rfl rfl rfl rfl (by omega) (by simp [hk']) ?_); exact fin rfl) rfl ?_) | refine dw_dec rfl rfl rfl (fun hg => ?_) (fun hg => ?_) | refine dw_ndec rfl rfl rfl (fun hg => ?_) (fun hg => ?_)
      refine dreg [(0, [], [36, 37, 38]), (1, [], [35, 37, 38]), (2, [], [35, 36]), (3, [2], [35, 36]), (4, [0, 1, 2, 3], []), (5, [0, 1, 2, 3, 4], []), (6, [0, 1, 2, 3, 4, 5], []), (7, [0, 1, 2, 3, 4, 5, 6], []), (8, [0, 1, 2, 3, 4, 5, 6, 7], []), (9, [0, 1, 2, 3, 4, 5, 6, 7, 8], []), (10, [0, 1, 2, 3, 4, 5, 6, 7, 8, 9], [47, 48, 52, 53]), (11, [0, 1, 2, 3, 4, 5, 6, 7, 8, 9, 10], [47, 48, 52, 53]), (12, [0, 1, 2, 3, 4, 5, 6, 7, 8, 9], [45, 46, 52, 53]), (13, [0, 1, 2, 3, 4, 5, 6, 7, 8, 9, 12], [45, 46, 52, 53]), (14, [0, 1, 2, 3, 4, 5, 6, 7, 8, 9, 10, 11, 12, 13], [52, 53]), (15, [0, 1, 2, 3, 4, 5, 6, 7, 8, 9, 10, 11, 12, 13, 14], [52, 53]), (16, [0, 1, 2, 3, 4, 5, 6, 7, 8, 9, 10, 11, 12, 13, 14, 15], [52, 53]), (17, [0, 1, 2, 3, 4, 5, 6, 7, 8, 9], [45, 46, 47, 48, 49, 50, 51]), (18, [0, 1, 2, 3, 4, 5, 6, 7, 8, 9, 17], [45, 46, 47, 48, 49, 50, 51]), (19, [0, 1, 2, 3, 4, 5, 6, 7, 8, 9, 10, 11, 12, 13, 14, 15, 16, 17, 18], []), (20, [0, 1, 2, 3, 4, 5, 6, 7, 8, 9, 10, 11, 12, 13, 14, 15, 16, 17, 18, 19], []), (21, [0, 1, 2, 3, 4, 5, 6, 7, 8, 9, 10, 11, 12, 13, 14, 15, 16, 17, 18, 19, 20], [])] mixed (by kernel_rfl) ?_
      cases hpo : proofOk f c.proofs[k] c.view with
      | false =>
        rw [hpo] at hp
        repeat' first | refine wr (by omega) ?_ | refine ln ?_ | refine stp lay_ok rfl ?_ | refine fin ?_ | refine n_thn ?_ | refine n_blk ?_ | refine e_thn ?_ | refine e_hit ?_ | refine e_miss rfl ?_ | refine r_thn ?_ | refine r_blk ?_ | refine e_rr ?_ | refine r_rr ?_ | refine e_cr ?_ | refine r_cr ?_ | refine .seq ?_ | refine reg ?_ | refine .block ?_ | refine .skip ?_ | refine .ret ?_ | refine .exit ?_ | refine cndT rfl ?_ | refine cndF rfl ?_ | refine c_dec rfl (fun hc => ?_) (fun hc => ?_) | refine c_ndec rfl (fun hc => ?_) (fun hc => ?_) | refine cnd rfl (fun hc => ?_) (fun hc => ?_) | ((first | refine o_none rfl ?_ | refine o_none_ ?_ | refine o_yes rfl rfl rfl ?_ | refine o_yes_ rfl rfl ?_); first | refine st_pure (hp) b13 rfl rfl rfl rfl ?_) | refine gd rfl rfl rfl (fun hg => ?_) (fun hg => ?_) | refine gn rfl rfl rfl (fun hg => ?_) (fun hg => ?_) | refine dwr (by omega) ?_ | refine dwl ?_ | refine dws lay_ok rfl rfl rfl rfl rfl rfl rfl ?_ | refine dw_end ?_ | refine dw_skip rfl rfl rfl ?_ | refine dwn lay_ok rfl rfl rfl rfl rfl ?_ | (refine dwp rfl rfl rfl (by (first | refine st_pure (hp) b13 rfl rfl rfl rfl ?_); exact fin rfl) rfl ?_) | refine dw_dec rfl rfl rfl (fun hg => ?_) (fun hg => ?_) | refine dw_ndec rfl rfl rfl (fun hg => ?_) (fun hg => ?_)
        refine f_r [] rfl trivial rfl ⟨?_, rfl⟩
        rw [hco, hall, st, hpo]; rfl
      | true =>
        rw [hpo] at hp
        repeat' first | refine wr (by omega) ?_ | refine ln ?_ | refine stp lay_ok rfl ?_ | refine fin ?_ | refine n_thn ?_ | refine n_blk ?_ | refine e_thn ?_ | refine e_hit ?_ | refine e_miss rfl ?_ | refine r_thn ?_ | refine r_blk ?_ | refine e_rr ?_ | refine r_rr ?_ | refine e_cr ?_ | refine r_cr ?_ | refine .seq ?_ | refine reg ?_ | refine .block ?_ | refine .skip ?_ | refine .ret ?_ | refine .exit ?_ | refine cndT rfl ?_ | refine cndF rfl ?_ | refine c_dec rfl (fun hc => ?_) (fun hc => ?_) | refine c_ndec rfl (fun hc => ?_) (fun hc => ?_) | refine cnd rfl (fun hc => ?_) (fun hc => ?_) | ((first | refine o_none rfl ?_ | refine o_none_ ?_ | refine o_yes rfl rfl rfl ?_ | refine o_yes_ rfl rfl ?_); first | refine st_pure (hp) b13 rfl rfl rfl rfl ?_ | refine st_index (Pf.cells c.proofs[k - 1]) lay_ok rfl rfl rfl rfl (by omega) (by rw [show ((k : Int) - 1).toNat = k - 1 from by omega]; simp [show k - 1 < c.proofs.length by omega]) ?_) | refine gd rfl rfl rfl (fun hg => ?_) (fun hg => ?_) | refine gn rfl rfl rfl (fun hg => ?_) (fun hg => ?_) | refine dwr (by omega) ?_ | refine dwl ?_ | refine dws lay_ok rfl rfl rfl rfl rfl rfl rfl ?_ | refine dw_end ?_ | refine dw_skip rfl rfl rfl ?_ | refine dwn lay_ok rfl rfl rfl rfl rfl ?_ | (refine dwp rfl rfl rfl (by (first | refine st_pure (hp) b13 rfl rfl rfl rfl ?_ | refine st_index (Pf.cells c.proofs[k - 1]) lay_ok rfl rfl rfl rfl (by omega) (by rw [show ((k : Int) - 1).toNat = k - 1 from by omega]; simp [show k - 1 < c.proofs.length by omega]) ?_); exact fin rfl) rfl ?_) | refine dw_dec rfl rfl rfl (fun hg => ?_) (fun hg => ?_) | refine dw_ndec rfl rfl rfl (fun hg => ?_) (fun hg => ?_)
        · refine f_r [] rfl trivial rfl ⟨?_, rfl⟩
          rw [hco, hall, st, lastK_prev _ _ _ (by omega) (by omega), ltO, decide_eq_false (by omega)]; simp [retOf]
        · refine n_rr (k + 1) ?_ (.of [] (by repeat' first | exact trivial | refine And.intro ?_ ?_ | rfl) (by repeat' first | exact trivial | refine And.intro ?_ ?_ | rfl) rfl) ?_
          · omega
          · refine ⟨hk', ?_⟩
            rw [hall, st, hpo, lastK_prev _ _ _ (by omega) (by omega), ltO, decide_eq_true (by omega)]; rfl
        · refine n_rr (k + 1) ?_ (.of [] (by repeat' first | exact trivial | refine And.intro ?_ ?_ | rfl) (by repeat' first | exact trivial | refine And.intro ?_ ?_ | rfl) rfl) ?_
          · omega
          · refine ⟨hk', ?_⟩
            rw [hall, st, hpo, show lastK Pf.seq c.proofs k = none by simp [lastK, show k = 0 by omega]]; rfl
    · refine f_r [] rfl trivial rfl ⟨?_, rfl⟩
      rw [hco, hall, List.drop_eq_nil_of_le (by omega)]; rfl
  · rw [decide_eq_false hf] at hfl
    repeat' first | refine wr (by omega) ?_ | refine ln ?_ | refine stp lay_ok rfl ?_ | refine fin ?_ | refine n_thn ?_ | refine n_blk ?_ | refine e_thn ?_ | refine e_hit ?_ | refine e_miss rfl ?_ | refine r_thn ?_ | refine r_blk ?_ | refine e_rr ?_ | refine r_rr ?_ | refine e_cr ?_ | refine r_cr ?_ | refine .seq ?_ | refine reg ?_ | refine .block ?_ | refine .skip ?_ | refine .ret ?_ | refine .exit ?_ | refine cndT rfl ?_ | refine cndF rfl ?_ | refine c_dec rfl (fun hc => ?_) (fun hc => ?_) | refine c_ndec rfl (fun hc => ?_) (fun hc => ?_) | refine cnd rfl (fun hc => ?_) (fun hc => ?_) | ((first | refine o_none rfl ?_ | refine o_none_ ?_ | refine o_yes rfl rfl rfl ?_ | refine o_yes_ rfl rfl ?_); first | refine st_pure (hfl) b30 rfl rfl rfl rfl ?_) | refine gd rfl rfl rfl (fun hg => ?_) (fun hg => ?_) | refine gn rfl rfl rfl (fun hg => ?_) (fun hg => ?_) | refine dwr (by omega) ?_ | refine dwl ?_ | refine dws lay_ok rfl rfl rfl rfl rfl rfl rfl ?_ | refine dw_end ?_ | refine dw_skip rfl rfl rfl ?_ | refine dwn lay_ok rfl rfl rfl rfl rfl ?_ | (refine dwp rfl rfl rfl (by (first | refine st_pure (hfl) b30 rfl rfl rfl rfl ?_); exact fin rfl) rfl ?_) | refine dw_dec rfl rfl rfl (fun hg => ?_) (fun hg => ?_) | refine dw_ndec rfl rfl rfl (fun hg => ?_) (fun hg => ?_)
    refine f_r [] rfl trivial rfl ⟨?_, rfl⟩
    simp only [retOf, changeOk]; rw [decide_eq_false (by omega)]; rfl

theorem quorum_ok (f : Int) : ACalls prog 31 0 [I f] [] fun r h => r = I (if 0 ≤ f ∧ f ≤ 4 then 2 * f + 1 else 0) ∧ h = [] := by
  refine fnC lay_ok func31 rfl rfl rfl rfl rfl ?_
  repeat' first | refine wr (by omega) ?_ | refine ln ?_ | refine stp lay_ok rfl ?_ | refine fin ?_ | refine n_thn ?_ | refine n_blk ?_ | refine e_thn ?_ | refine e_hit ?_ | refine e_miss rfl ?_ | refine r_thn ?_ | refine r_blk ?_ | refine e_rr ?_ | refine r_rr ?_ | refine e_cr ?_ | refine r_cr ?_ | refine .seq ?_ | refine reg ?_ | refine .block ?_ | refine .skip ?_ | refine .ret ?_ | refine .exit ?_ | refine cndT rfl ?_ | refine cndF rfl ?_ | refine c_dec rfl (fun hc => ?_) (fun hc => ?_) | refine c_ndec rfl (fun hc => ?_) (fun hc => ?_) | refine cnd rfl (fun hc => ?_) (fun hc => ?_) | refine gd rfl rfl rfl (fun hg => ?_) (fun hg => ?_) | refine gn rfl rfl rfl (fun hg => ?_) (fun hg => ?_) | refine dwr (by omega) ?_ | refine dwl ?_ | refine dws lay_ok rfl rfl rfl rfl rfl rfl rfl ?_ | refine dw_end ?_ | refine dw_skip rfl rfl rfl ?_ | refine dwn lay_ok rfl rfl rfl rfl rfl ?_ | refine dw_dec rfl rfl rfl (fun hg => ?_) (fun hg => ?_) | refine dw_ndec rfl rfl rfl (fun hg => ?_) (fun hg => ?_)
  all_goals
    refine f_r [] rfl trivial rfl ⟨?_, rfl⟩
    simp only [retOf, I, AV.st.injEq, SV.int.injEq, true_and]
    split <;> omega

def changesOk (f : Int) (l : List Ch) (view : Int) : Bool := decide ((1 ≤ f ∧ f ≤ 4) ∧ 2 * f + 1 ≤ l.length) && asc (fun c => decide (c.view = view) && changeOk f c) Ch.from_ none l
set_option maxHeartbeats 1000000 in
theorem changes_ok (f view : Int) (l : List Ch) (hl : l.length ≤ 1000) (hs : shortC l = true) : ACalls prog 22 0 [I f, .st (.sl 3 (l.map Ch.cells)), I view] [] fun r h => r = B (changesOk f l view) ∧ h = [] := by
  refine fnC lay_ok func22 rfl rfl rfl rfl rfl ?_
  have hfl := faults_ok f
  have hq := quorum_ok f
  by_cases hf : 1 ≤ f ∧ f ≤ 4
  · rw [decide_eq_true hf] at hfl
    rw [if_pos (by omega)] at hq
    repeat' first | refine wr (by omega) ?_ | refine ln ?_ | refine stp lay_ok rfl ?_ | refine fin ?_ | refine n_thn ?_ | refine n_blk ?_ | refine e_thn ?_ | refine e_hit ?_ | refine e_miss rfl ?_ | refine r_thn ?_ | refine r_blk ?_ | refine e_rr ?_ | refine r_rr ?_ | refine e_cr ?_ | refine r_cr ?_ | refine .seq ?_ | refine reg ?_ | refine .block ?_ | refine .skip ?_ | refine .ret ?_ | refine .exit ?_ | refine cndT rfl ?_ | refine cndF rfl ?_ | refine c_dec rfl (fun hc => ?_) (fun hc => ?_) | refine c_ndec rfl (fun hc => ?_) (fun hc => ?_) | refine cnd rfl (fun hc => ?_) (fun hc => ?_) | ((first | refine o_none rfl ?_ | refine o_none_ ?_ | refine o_yes rfl rfl rfl ?_ | refine o_yes_ rfl rfl ?_); first | refine st_pure (hfl) b30 rfl rfl rfl rfl ?_ | refine st_pure (hq) b31 rfl rfl rfl rfl ?_) | refine gd rfl rfl rfl (fun hg => ?_) (fun hg => ?_) | refine gn rfl rfl rfl (fun hg => ?_) (fun hg => ?_) | refine dwr (by omega) ?_ | refine dwl ?_ | refine dws lay_ok rfl rfl rfl rfl rfl rfl rfl ?_ | refine dw_end ?_ | refine dw_skip rfl rfl rfl ?_ | refine dwn lay_ok rfl rfl rfl rfl rfl ?_ | (refine dwp rfl rfl rfl (by (first | refine st_pure (hfl) b30 rfl rfl rfl rfl ?_ | refine st_pure (hq) b31 rfl rfl rfl rfl ?_); exact fin rfl) rfl ?_) | refine dw_dec rfl rfl rfl (fun hg => ?_) (fun hg => ?_) | refine dw_ndec rfl rfl rfl (fun hg => ?_) (fun hg => ?_)
    · refine f_r [] rfl trivial rfl ⟨?_, rfl⟩; simp only [retOf, changesOk]; rw [decide_eq_false (by omega)]; rfl
    have hco : changesOk f l view = asc (fun c => decide (c.view = view) && changeOk f c) Ch.from_ none l := by
      unfold changesOk
      rw [decide_eq_true (by omega), Bool.true_and]
    refine lpR (fun k => k ≤ l.length ∧ asc (fun c => decide (c.view = view) && changeOk f c) Ch.from_ none l = asc (fun c => decide (c.view = view) && changeOk f c) Ch.from_ (lastK Ch.from_ l k) (l.drop k)) (fun k => l.length - k) (fun k => [(21, I k)]) (fun k => []) (0) [0, 1, 2, 19, 20] [] [] rfl rfl rfl (.of [] (by repeat' first | exact trivial | refine And.intro ?_ ?_ | rfl) (by repeat' first | exact trivial | refine And.intro ?_ ?_ | rfl) rfl) ?_ ?_
    · simp [lastK]
    rintro k ⟨hk, hall⟩
    refine nrm rfl rfl ?_
    repeat' first | refine wr (by omega) ?_ | refine ln ?_ | refine stp lay_ok rfl ?_ | refine fin ?_ | refine n_thn ?_ | refine n_blk ?_ | refine e_thn ?_ | refine e_hit ?_ | refine e_miss rfl ?_ | refine r_thn ?_ | refine r_blk ?_ | refine e_rr ?_ | refine r_rr ?_ | refine e_cr ?_ | refine r_cr ?_ | refine .seq ?_ | refine reg ?_ | refine .block ?_ | refine .skip ?_ | refine .ret ?_ | refine .exit ?_ | refine cndT rfl ?_ | refine cndF rfl ?_ | refine c_dec rfl (fun hc => ?_) (fun hc => ?_) | refine c_ndec rfl (fun hc => ?_) (fun hc => ?_) | refine cnd rfl (fun hc => ?_) (fun hc => ?_) | refine gd rfl rfl rfl (fun hg => ?_) (fun hg => ?_) | refine gn rfl rfl rfl (fun hg => ?_) (fun hg => ?_) | refine dwr (by omega) ?_ | refine dwl ?_ | refine dws lay_ok rfl rfl rfl rfl rfl rfl rfl ?_ | refine dw_end ?_ | refine dw_skip rfl rfl rfl ?_ | refine dwn lay_ok rfl rfl rfl rfl rfl ?_ | refine dw_dec rfl rfl rfl (fun hg => ?_) (fun hg => ?_) | refine dw_ndec rfl rfl rfl (fun hg => ?_) (fun hg => ?_)
    · have hk' : k < l.length := by omega
      have hp := change_ok f l[k] (by simp only [shortC, List.all_eq_true] at hs; exact hs _ (List.getElem_mem hk'))
      have st := asc_step (fun c => decide (c.view = view) && changeOk f c) Ch.from_ l k hk'
      repeat' first | refine wr (by omega) ?_ | refine ln ?_ | refine stp lay_ok rfl ?_ | refine fin ?_ | refine n_thn ?_ | refine n_blk ?_ | refine e_thn ?_ | refine e_hit ?_ | refine e_miss rfl ?_ | refine r_thn ?_ | refine r_blk ?_ | refine e_rr ?_ | refine r_rr ?_ | refine e_cr ?_ | refine r_cr ?_ | refine .seq ?_ | refine reg ?_ | refine .block ?_ | refine .skip ?_ | refine .ret ?_ | refine .exit ?_ | refine cndT rfl ?_ | refine cndF rfl ?_ | refine c_dec rfl (fun hc => ?_) (fun hc => ?_) | refine c_ndec rfl (fun hc => ?_) (fun hc => ?_) | refine cnd rfl (fun hc => ?_) (fun hc => ?_) | ((first | refine o_none rfl ?_ | refine o_none_ ?_ | refine o_yes rfl rfl rfl ?_ | refine o_yes_ rfl rfl ?_); first | refine st_index (Ch.cells l[k]) lay_ok rfl rfl rfl rfl (by omega) (by simp [hk']) ?_) | refine gd rfl rfl rfl (fun hg => ?_) (fun hg => ?_) | refine gn rfl rfl rfl (fun hg => ?_) (fun hg => ?_) | refine dwr (by omega) ?_ | refine dwl ?_ | refine dws lay_ok rfl rfl rfl rfl rfl rfl rfl ?_ | refine dw_end ?_ | refine dw_skip rfl rfl rfl ?_ | refine dwn lay_ok rfl rfl rfl rfl rfl ?_ | (refine dwp rfl rfl rfl (by (first | refine st_index (Ch.cells l[k]) lay_ok rfl rfl rfl rfl (by omega) (by simp [hk']) ?_); exact fin rfl) rfl ?_) | refine dw_dec rfl rfl rfl (fun hg => ?_) (fun hg => ?_) | refine dw_ndec rfl rfl rfl (fun hg => ?_) (fun hg => ?_)
      refine dreg [(0, [], [28]), (1, [0], [28]), (2, [], [26, 27]), (3, [0, 1, 2], []), (4, [0, 1, 2, 3], []), (5, [0, 1, 2, 3, 4], [32]), (6, [0, 1, 2, 3, 4], [31]), (7, [0, 1, 2, 3, 4, 5, 6], []), (8, [0, 1, 2, 3, 4, 5, 6, 7], []), (9, [0, 1, 2, 3, 4, 5, 6, 7, 8], []), (10, [0, 1, 2, 3, 4, 5, 6, 7, 8, 9], []), (11, [0, 1, 2, 3, 4, 5, 6, 7, 8, 9, 10], []), (12, [0, 1, 2, 3, 4, 5, 6, 7, 8, 9, 10, 11], []), (13, [0, 1, 2, 3, 4, 5, 6, 7, 8, 9, 10, 11, 12], []), (14, [0, 1, 2, 3, 4, 5, 6, 7, 8, 9, 10, 11, 12, 13], [41, 42, 46, 47]), (15, [0, 1, 2, 3, 4, 5, 6, 7, 8, 9, 10, 11, 12, 13], [40, 46, 47]), (16, [0, 1, 2, 3, 4, 5, 6, 7, 8, 9, 10, 11, 12, 13, 15], [40, 46, 47]), (17, [0, 1, 2, 3, 4, 5, 6, 7, 8, 9, 10, 11, 12, 13, 14, 15, 16], [46, 47]), (18, [0, 1, 2, 3, 4, 5, 6, 7, 8, 9, 10, 11, 12, 13, 14, 15, 16, 17], [46, 47]), (19, [0, 1, 2, 3, 4, 5, 6, 7, 8, 9, 10, 11, 12, 13, 14, 15, 16, 17, 18], [46, 47]), (20, [0, 1, 2, 3, 4, 5, 6, 7, 8, 9, 10, 11, 12, 13], [40, 41, 42, 43, 44, 45]), (21, [0, 1, 2, 3, 4, 5, 6, 7, 8, 9, 10, 11, 12, 13, 20], [40, 41, 42, 43, 44, 45]), (22, [0, 1, 2, 3, 4, 5, 6, 7, 8, 9, 10, 11, 12, 13, 14, 15, 16, 17, 18, 19, 20, 21], []), (23, [0, 1, 2, 3, 4, 5, 6, 7, 8, 9, 10, 11, 12, 13, 14, 15, 16, 17, 18, 19, 20, 21, 22], []), (24, [0, 1, 2, 3, 4, 5, 6, 7, 8, 9, 10, 11, 12, 13, 14, 15, 16, 17, 18, 19, 20, 21, 22, 23], [])] mixed (by kernel_rfl) ?_
      cases hpo : changeOk f l[k] with
      | false =>
        rw [hpo] at hp
        repeat' first | refine wr (by omega) ?_ | refine ln ?_ | refine stp lay_ok rfl ?_ | refine fin ?_ | refine n_thn ?_ | refine n_blk ?_ | refine e_thn ?_ | refine e_hit ?_ | refine e_miss rfl ?_ | refine r_thn ?_ | refine r_blk ?_ | refine e_rr ?_ | refine r_rr ?_ | refine e_cr ?_ | refine r_cr ?_ | refine .seq ?_ | refine reg ?_ | refine .block ?_ | refine .skip ?_ | refine .ret ?_ | refine .exit ?_ | refine cndT rfl ?_ | refine cndF rfl ?_ | refine c_dec rfl (fun hc => ?_) (fun hc => ?_) | refine c_ndec rfl (fun hc => ?_) (fun hc => ?_) | refine cnd rfl (fun hc => ?_) (fun hc => ?_) | ((first | refine o_none rfl ?_ | refine o_none_ ?_ | refine o_yes rfl rfl rfl ?_ | refine o_yes_ rfl rfl ?_); first | refine st_pure (hp) b23 rfl rfl rfl rfl ?_) | refine gd rfl rfl rfl (fun hg => ?_) (fun hg => ?_) | refine gn rfl rfl rfl (fun hg => ?_) (fun hg => ?_) | refine dwr (by omega) ?_ | refine dwl ?_ | refine dws lay_ok rfl rfl rfl rfl rfl rfl rfl ?_ | refine dw_end ?_ | refine dw_skip rfl rfl rfl ?_ | refine dwn lay_ok rfl rfl rfl rfl rfl ?_ | (refine dwp rfl rfl rfl (by (first | refine st_pure (hp) b23 rfl rfl rfl rfl ?_); exact fin rfl) rfl ?_) | refine dw_dec rfl rfl rfl (fun hg => ?_) (fun hg => ?_) | refine dw_ndec rfl rfl rfl (fun hg => ?_) (fun hg => ?_)
        all_goals
          refine f_r [] rfl trivial rfl ⟨?_, rfl⟩
          rw [hco, hall, st, hpo]; simp [retOf]
      | true =>
        rw [hpo] at hp
        repeat' first | refine wr (by omega) ?_ | refine ln ?_ | refine stp lay_ok rfl ?_ | refine fin ?_ | refine n_thn ?_ | refine n_blk ?_ | refine e_thn ?_ | refine e_hit ?_ | refine e_miss rfl ?_ | refine r_thn ?_ | refine r_blk ?_ | refine e_rr ?_ | refine r_rr ?_ | refine e_cr ?_ | refine r_cr ?_ | refine .seq ?_ | refine reg ?_ | refine .block ?_ | refine .skip ?_ | refine .ret ?_ | refine .exit ?_ | refine cndT rfl ?_ | refine cndF rfl ?_ | refine c_dec rfl (fun hc => ?_) (fun hc => ?_) | refine c_ndec rfl (fun hc => ?_) (fun hc => ?_) | refine cnd rfl (fun hc => ?_) (fun hc => ?_) | ((first | refine o_none rfl ?_ | refine o_none_ ?_ | refine o_yes rfl rfl rfl ?_ | refine o_yes_ rfl rfl ?_); first | refine st_pure (hp) b23 rfl rfl rfl rfl ?_ | refine st_index (Ch.cells l[k - 1]) lay_ok rfl rfl rfl rfl (by omega) (by rw [show ((k : Int) - 1).toNat = k - 1 from by omega]; simp [show k - 1 < l.length by omega]) ?_) | refine gd rfl rfl rfl (fun hg => ?_) (fun hg => ?_) | refine gn rfl rfl rfl (fun hg => ?_) (fun hg => ?_) | refine dwr (by omega) ?_ | refine dwl ?_ | refine dws lay_ok rfl rfl rfl rfl rfl rfl rfl ?_ | refine dw_end ?_ | refine dw_skip rfl rfl rfl ?_ | refine dwn lay_ok rfl rfl rfl rfl rfl ?_ | (refine dwp rfl rfl rfl (by (first | refine st_pure (hp) b23 rfl rfl rfl rfl ?_ | refine st_index (Ch.cells l[k - 1]) lay_ok rfl rfl rfl rfl (by omega) (by rw [show ((k : Int) - 1).toNat = k - 1 from by omega]; simp [show k - 1 < l.length by omega]) ?_); exact fin rfl) rfl ?_) | refine dw_dec rfl rfl rfl (fun hg => ?_) (fun hg => ?_) | refine dw_ndec rfl rfl rfl (fun hg => ?_) (fun hg => ?_)
        · refine f_r [] rfl trivial rfl ⟨?_, rfl⟩
          rw [hco, hall, st, decide_eq_false (by assumption)]; simp [retOf]
        · refine f_r [] rfl trivial rfl ⟨?_, rfl⟩
          rw [hco, hall, st, lastK_prev _ _ _ (by omega) (by omega), ltO, decide_eq_false (p := l[k - 1].from_ < l[k].from_) (by omega)]; simp [retOf]
        · have hv : l[k].view = view := by simp_all
          refine n_rr (k + 1) ?_ (.of [] (by repeat' first | exact trivial | refine And.intro ?_ ?_ | rfl) (by repeat' first | exact trivial | refine And.intro ?_ ?_ | rfl) rfl) ?_
          · omega
          · refine ⟨hk', ?_⟩
            rw [hall, st, hpo, lastK_prev _ _ _ (by omega) (by omega), ltO, decide_eq_true hv, decide_eq_true (by omega)]; rfl
        · have hv : l[k].view = view := by simp_all
          refine n_rr (k + 1) ?_ (.of [] (by repeat' first | exact trivial | refine And.intro ?_ ?_ | rfl) (by repeat' first | exact trivial | refine And.intro ?_ ?_ | rfl) rfl) ?_
          · omega
          · refine ⟨hk', ?_⟩
            rw [hall, st, hpo, show lastK Ch.from_ l k = none by simp [lastK, show k = 0 by omega], decide_eq_true hv]; rfl
    · refine f_r [] rfl trivial rfl ⟨?_, rfl⟩
      rw [hco, hall, List.drop_eq_nil_of_le (by omega)]; rfl
  · rw [decide_eq_false hf] at hfl
    repeat' first | refine wr (by omega) ?_ | refine ln ?_ | refine stp lay_ok rfl ?_ | refine fin ?_ | refine n_thn ?_ | refine n_blk ?_ | refine e_thn ?_ | refine e_hit ?_ | refine e_miss rfl ?_ | refine r_thn ?_ | refine r_blk ?_ | refine e_rr ?_ | refine r_rr ?_ | refine e_cr ?_ | refine r_cr ?_ | refine .seq ?_ | refine reg ?_ | refine .block ?_ | refine .skip ?_ | refine .ret ?_ | refine .exit ?_ | refine cndT rfl ?_ | refine cndF rfl ?_ | refine c_dec rfl (fun hc => ?_) (fun hc => ?_) | refine c_ndec rfl (fun hc => ?_) (fun hc => ?_) | refine cnd rfl (fun hc => ?_) (fun hc => ?_) | ((first | refine o_none rfl ?_ | refine o_none_ ?_ | refine o_yes rfl rfl rfl ?_ | refine o_yes_ rfl rfl ?_); first | refine st_pure (hfl) b30 rfl rfl rfl rfl ?_) | refine gd rfl rfl rfl (fun hg => ?_) (fun hg => ?_) | refine gn rfl rfl rfl (fun hg => ?_) (fun hg => ?_) | refine dwr (by omega) ?_ | refine dwl ?_ | refine dws lay_ok rfl rfl rfl rfl rfl rfl rfl ?_ | refine dw_end ?_ | refine dw_skip rfl rfl rfl ?_ | refine dwn lay_ok rfl rfl rfl rfl rfl ?_ | (refine dwp rfl rfl rfl (by (first | refine st_pure (hfl) b30 rfl rfl rfl rfl ?_); exact fin rfl) rfl ?_) | refine dw_dec rfl rfl rfl (fun hg => ?_) (fun hg => ?_) | refine dw_ndec rfl rfl rfl (fun hg => ?_) (fun hg => ?_)
    refine f_r [] rfl trivial rfl ⟨?_, rfl⟩
    simp only [retOf, changesOk]; rw [decide_eq_false (by omega)]; rfl
end Go.Proofs.YtcandekalmjfaaaFn
