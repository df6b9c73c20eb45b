import Derived.Test.YtcandekalmjfaaaAlTb
set_option linter.all false
namespace Go.Proofs.YtcandekalmjfaaaFn
open Go.Proofs.YtcandekalmjfaaaAl Go.Proofs.Try
attribute [local irreducible] CodeOk OpsL OpG ACalls thn inBlk rnd cutQ Wk

theorem proofOk_mono {f : Int} {p : Pf} {v w : Int} (h : proofOk f p v = true) (hvw : v ≤ w) : proofOk f p w = true := by
  unfold proofOk at *
  simp only [Bool.and_eq_true, decide_eq_true_eq] at *
  exact ⟨by omega, h.2⟩
theorem proofOk_own (f : Int) (p : Pf) : proofOk f p p.view = false := by
  unfold proofOk
  rw [Bool.and_eq_false_iff]; left; simp
/-- A message of one proof. -/
theorem short1 (p : Pf) : ACalls prog 12 0 [.st (.agg [.int .i64 0, .int .i64 0, .int .i64 0, .int .i64 0, .str ⟨#[]⟩, .sl 4 [p.cells], .nilsl])] [] fun r h => r = B (pfOk p) ∧ h = [] := by
  have h := shortM_ok ⟨0, 0, 0, 0, ⟨#[]⟩, [p], []⟩
  have e : shortM ⟨0, 0, 0, 0, ⟨#[]⟩, [p], []⟩ = pfOk p := by simp [shortM, shortP, shortC, ByteArray.size]
  rw [e] at h
  refine ACalls.le (xs := [.agg _]) (ys := [.agg _]) ?_ h
  refine .cons (.agg ?_) .nil
  exact .cons (.refl _) (.cons (.refl _) (.cons (.refl _) (.cons (.refl _) (.cons (.refl _) (.cons (.refl _) (.cons (.nil 3) .nil))))))
set_option maxHeartbeats 4000000 in
theorem later_ok (f : Int) (p : Pf) (view more : Int) : ACalls prog 3 0 [I f, .st (.agg p.cells), I view, I more] [] fun r h => r = B true ∧ h = [] := by
  refine fn_ok lay_ok func3 rfl rfl rfl rfl rfl ?_
  have hs := short1 p
  cases hp : pfOk p with
  | false =>
    rw [hp] at hs
    repeat' first | (first | refine n_thn ?_ | refine n_blk ?_ | refine e_thn ?_ | refine e_hit ?_ | refine e_miss rfl ?_ | refine r_thn ?_ | refine r_blk ?_ | refine e_rnd ?_ | refine r_rnd ?_ | refine e_cut ?_ | refine r_cut ?_ | refine .seq ?_ | refine reg ?_ | refine .block ?_ | refine .skip ?_ | refine .ret ?_ | refine .exit ?_ | refine cndT rfl ?_ | refine cndF rfl ?_ | refine c_dec rfl (fun hc => ?_) (fun hc => ?_) | refine c_ndec rfl (fun hc => ?_) (fun hc => ?_) | refine cnd rfl (fun hc => ?_) (fun hc => ?_) | refine fin ?_) | ((first | refine o_none rfl ?_ | refine o_none_ ?_ | refine o_yes rfl rfl rfl ?_ | refine o_yes_ rfl rfl ?_); first | refine st_move rfl ?_ | refine st_assign rfl ?_ | refine st_binI rfl rfl rfl ?_ | refine st_pickT rfl rfl ?_ | refine st_pickF rfl rfl ?_ | refine st_not rfl ?_ | refine st_loadP lay_ok rfl rfl rfl rfl rfl rfl ?_ | refine st_loadS lay_ok rfl rfl rfl rfl rfl ?_ | refine st_fieldP lay_ok rfl rfl rfl ?_ | refine st_fieldS lay_ok rfl rfl rfl ?_ | refine st_fieldE lay_ok rfl rfl rfl ?_ | refine st_len lay_ok rfl rfl rfl rfl rfl ?_ | refine st_extract rfl rfl ?_ | refine st_nilCheck rfl rfl ?_ | refine st_box rfl rfl ?_ | refine st_alloc lay_ok rfl ?_ | refine st_store lay_ok rfl rfl rfl rfl rfl rfl ?_ | refine st_iface lay_ok rfl rfl rfl ?_ | refine st_build lay_ok rfl rfl rfl rfl ?_ | refine st_lit0 lay_ok rfl rfl rfl rfl ?_ | refine st_lit lay_ok rfl rfl rfl rfl rfl rfl rfl rfl ?_ | refine st_nil lay_ok rfl rfl rfl rfl ?_ | refine st_errEq lay_ok rfl rfl rfl rfl rfl rfl rfl ?_ | refine st_binS rfl rfl rfl ?_ | refine st_convI lay_ok rfl rfl rfl rfl ?_ | refine st_makeFunc rfl rfl ?_ | refine st_sub00 lay_ok rfl rfl rfl rfl ?_ | refine st_neg rfl ?_ | refine st_pure (up_ok) b11 rfl rfl rfl rfl ?_ | refine st_pure (hs) b12 rfl rfl rfl rfl ?_) | (first | refine no rfl rfl rfl rfl ?_ | refine no_ rfl rfl rfl ?_ | refine nou rfl rfl rfl ?_ | refine nou_ rfl rfl ?_ | refine o_dec rfl rfl (fun hg => ?_) (fun hg => ?_) | refine o_ndec rfl rfl (fun hg => ?_) (fun hg => ?_))
    exact f_ret [] 0 rfl trivial rfl rfl ⟨rfl, rfl⟩
  | true =>
    rw [hp] at hs
    have hl : p.from_.length ≤ 100 := by simp [pfOk] at hp; exact hp.2
    have h1 := proof_ok f p view (by omega)
    have h2 := proof_ok f p (IntKind.i64.wrap (view + more)) (by omega)
    have h3 := proof_ok f p p.view (by omega)
    rw [proofOk_own] at h3
    cases ha : proofOk f p view <;> cases hb : proofOk f p (IntKind.i64.wrap (view + more)) <;> rw [ha] at h1 <;> rw [hb] at h2
    all_goals
      repeat' first | (first | refine n_thn ?_ | refine n_blk ?_ | refine e_thn ?_ | refine e_hit ?_ | refine e_miss rfl ?_ | refine r_thn ?_ | refine r_blk ?_ | refine e_rnd ?_ | refine r_rnd ?_ | refine e_cut ?_ | refine r_cut ?_ | refine .seq ?_ | refine reg ?_ | refine .block ?_ | refine .skip ?_ | refine .ret ?_ | refine .exit ?_ | refine cndT rfl ?_ | refine cndF rfl ?_ | refine c_dec rfl (fun hc => ?_) (fun hc => ?_) | refine c_ndec rfl (fun hc => ?_) (fun hc => ?_) | refine cnd rfl (fun hc => ?_) (fun hc => ?_) | refine fin ?_) | ((first | refine o_none rfl ?_ | refine o_none_ ?_ | refine o_yes rfl rfl rfl ?_ | refine o_yes_ rfl rfl ?_); first | refine st_move rfl ?_ | refine st_assign rfl ?_ | refine st_binI rfl rfl rfl ?_ | refine st_pickT rfl rfl ?_ | refine st_pickF rfl rfl ?_ | refine st_not rfl ?_ | refine st_loadP lay_ok rfl rfl rfl rfl rfl rfl ?_ | refine st_loadS lay_ok rfl rfl rfl rfl rfl ?_ | refine st_fieldP lay_ok rfl rfl rfl ?_ | refine st_fieldS lay_ok rfl rfl rfl ?_ | refine st_fieldE lay_ok rfl rfl rfl ?_ | refine st_len lay_ok rfl rfl rfl rfl rfl ?_ | refine st_extract rfl rfl ?_ | refine st_nilCheck rfl rfl ?_ | refine st_box rfl rfl ?_ | refine st_alloc lay_ok rfl ?_ | refine st_store lay_ok rfl rfl rfl rfl rfl rfl ?_ | refine st_iface lay_ok rfl rfl rfl ?_ | refine st_build lay_ok rfl rfl rfl rfl ?_ | refine st_lit0 lay_ok rfl rfl rfl rfl ?_ | refine st_lit lay_ok rfl rfl rfl rfl rfl rfl rfl rfl ?_ | refine st_nil lay_ok rfl rfl rfl rfl ?_ | refine st_errEq lay_ok rfl rfl rfl rfl rfl rfl rfl ?_ | refine st_binS rfl rfl rfl ?_ | refine st_convI lay_ok rfl rfl rfl rfl ?_ | refine st_makeFunc rfl rfl ?_ | refine st_sub00 lay_ok rfl rfl rfl rfl ?_ | refine st_neg rfl ?_ | refine st_pure (up_ok) b11 rfl rfl rfl rfl ?_ | refine st_pure (hs) b12 rfl rfl rfl rfl ?_ | refine st_pure (h1) b13 rfl rfl rfl rfl ?_ | refine st_pure (h2) b13 rfl rfl rfl rfl ?_ | refine st_pure (h3) b13 rfl rfl rfl rfl ?_) | (first | refine no rfl rfl rfl rfl ?_ | refine no_ rfl rfl rfl ?_ | refine nou rfl rfl rfl ?_ | refine nou_ rfl rfl ?_ | refine o_dec rfl rfl (fun hg => ?_) (fun hg => ?_) | refine o_ndec rfl rfl (fun hg => ?_) (fun hg => ?_))
    all_goals first
      | exact f_ret [] 0 rfl trivial rfl rfl ⟨rfl, rfl⟩
      | (exfalso
         rw [show IntKind.i64.wrap (view + more) = view + more from IntWalk.i64_in _ (by omega)] at hb
         rw [proofOk_mono ha (by omega)] at hb
         cases hb)
end Go.Proofs.YtcandekalmjfaaaFn
