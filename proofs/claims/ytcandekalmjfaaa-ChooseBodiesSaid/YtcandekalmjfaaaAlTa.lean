import Derived.Test.YtcandekalmjfaaaAlLay
import Derived.Test.YtcandekalmjfaaaAlQ
set_option linter.all false
namespace Go.Proofs.YtcandekalmjfaaaFn
open Go.Proofs.YtcandekalmjfaaaAl Go.Proofs.Try
attribute [local irreducible] CodeOk OpsL OpG ACalls thn inBlk rnd cutQ Wk
abbrev I (n : Int) : AV := .st (.int .i64 n)
abbrev B (b : Bool) : AV := .st (.bool b)
abbrev nilE : AV := .st .nilIface
abbrev errE (n : Int) : AV := .st (.iface 53 (.int .i64 n))
theorem b30 : HasBody prog 30 := ⟨f30, func30, Option.some_ne_none _, by decide⟩
theorem b24 : HasBody prog 24 := ⟨f24, func24, Option.some_ne_none _, by decide⟩
theorem b26 : HasBody prog 26 := ⟨f26, func26, Option.some_ne_none _, by decide⟩
theorem b13 : HasBody prog 13 := ⟨f13, func13, Option.some_ne_none _, by decide⟩
theorem b25 : HasBody prog 25 := ⟨f25, func25, Option.some_ne_none _, by decide⟩
theorem b12 : HasBody prog 12 := ⟨f12, func12, Option.some_ne_none _, by decide⟩
theorem b11 : HasBody prog 11 := ⟨f11, func11, Option.some_ne_none _, by decide⟩

theorem faults_ok (f : Int) : ACalls prog 30 0 [I f] [] fun r h => r = B (decide (1 ≤ f ∧ f ≤ 4)) ∧ h = [] := by
  refine fn_ok lay_ok func30 rfl rfl rfl rfl rfl ?_
  repeat' first | (first | refine n_thn ?_ | refine n_blk ?_ | refine e_thn ?_ | refine e_hit ?_ | refine e_miss rfl ?_ | refine r_thn ?_ | refine r_blk ?_ | refine e_rnd ?_ | refine r_rnd ?_ | refine e_cut ?_ | refine r_cut ?_ | refine .seq ?_ | refine reg ?_ | refine .block ?_ | refine .skip ?_ | refine .ret ?_ | refine .exit ?_ | refine cndT rfl ?_ | refine cndF rfl ?_ | refine c_dec rfl (fun hc => ?_) (fun hc => ?_) | refine c_ndec rfl (fun hc => ?_) (fun hc => ?_) | refine cnd rfl (fun hc => ?_) (fun hc => ?_) | refine fin ?_) | ((first | refine o_none rfl ?_ | refine o_none_ ?_ | refine o_yes rfl rfl rfl ?_ | refine o_yes_ rfl rfl ?_); first | refine st_move rfl ?_ | refine st_assign rfl ?_ | refine st_binI rfl rfl rfl ?_ | refine st_pickT rfl rfl ?_ | refine st_pickF rfl rfl ?_ | refine st_not rfl ?_ | refine st_loadP lay_ok rfl rfl rfl rfl rfl rfl ?_ | refine st_loadS lay_ok rfl rfl rfl rfl rfl ?_ | refine st_fieldP lay_ok rfl rfl rfl ?_ | refine st_fieldS lay_ok rfl rfl rfl ?_ | refine st_fieldE lay_ok rfl rfl rfl ?_ | refine st_len lay_ok rfl rfl rfl rfl rfl ?_ | refine st_extract rfl rfl ?_ | refine st_nilCheck rfl rfl ?_ | refine st_box rfl rfl ?_ | refine st_alloc lay_ok rfl ?_ | refine st_store lay_ok rfl rfl rfl rfl rfl rfl ?_ | refine st_iface lay_ok rfl rfl rfl ?_ | refine st_build lay_ok rfl rfl rfl rfl ?_ | refine st_lit0 lay_ok rfl rfl rfl rfl ?_ | refine st_lit lay_ok rfl rfl rfl rfl rfl rfl rfl rfl ?_ | refine st_nil lay_ok rfl rfl rfl rfl ?_ | refine st_errEq lay_ok rfl rfl rfl rfl rfl rfl rfl ?_ | refine st_binS rfl rfl rfl ?_ | refine st_convI lay_ok rfl rfl rfl rfl ?_ | refine st_makeFunc rfl rfl ?_ | refine st_sub00 lay_ok rfl rfl rfl rfl ?_ | refine st_neg rfl ?_) | (first | refine no rfl rfl rfl rfl ?_ | refine no_ rfl rfl rfl ?_ | refine nou rfl rfl rfl ?_ | refine nou_ rfl rfl ?_ | refine o_dec rfl rfl (fun hg => ?_) (fun hg => ?_) | refine o_ndec rfl rfl (fun hg => ?_) (fun hg => ?_))
  all_goals
    refine f_ret [] 0 rfl trivial rfl rfl ⟨?_, rfl⟩
    simp [retOf]; omega

def primary (f view : Int) : AV := if (1 ≤ f ∧ f ≤ 4) ∧ 0 ≤ view then .tuple [I (view % (3 * f + 1)), nilE] else .tuple [I 0, errE 1]
theorem primary_ok (f view : Int) : ACalls prog 24 0 [I f, I view] [] fun r h => r = primary f view ∧ h = [] := by
  refine fn_ok lay_ok func24 rfl rfl rfl rfl rfl ?_
  repeat' first | (first | refine n_thn ?_ | refine n_blk ?_ | refine e_thn ?_ | refine e_hit ?_ | refine e_miss rfl ?_ | refine r_thn ?_ | refine r_blk ?_ | refine e_rnd ?_ | refine r_rnd ?_ | refine e_cut ?_ | refine r_cut ?_ | refine .seq ?_ | refine reg ?_ | refine .block ?_ | refine .skip ?_ | refine .ret ?_ | refine .exit ?_ | refine cndT rfl ?_ | refine cndF rfl ?_ | refine c_dec rfl (fun hc => ?_) (fun hc => ?_) | refine c_ndec rfl (fun hc => ?_) (fun hc => ?_) | refine cnd rfl (fun hc => ?_) (fun hc => ?_) | refine fin ?_) | ((first | refine o_none rfl ?_ | refine o_none_ ?_ | refine o_yes rfl rfl rfl ?_ | refine o_yes_ rfl rfl ?_); first | refine st_move rfl ?_ | refine st_assign rfl ?_ | refine st_binI rfl rfl rfl ?_ | refine st_pickT rfl rfl ?_ | refine st_pickF rfl rfl ?_ | refine st_not rfl ?_ | refine st_loadP lay_ok rfl rfl rfl rfl rfl rfl ?_ | refine st_loadS lay_ok rfl rfl rfl rfl rfl ?_ | refine st_fieldP lay_ok rfl rfl rfl ?_ | refine st_fieldS lay_ok rfl rfl rfl ?_ | refine st_fieldE lay_ok rfl rfl rfl ?_ | refine st_len lay_ok rfl rfl rfl rfl rfl ?_ | refine st_extract rfl rfl ?_ | refine st_nilCheck rfl rfl ?_ | refine st_box rfl rfl ?_ | refine st_alloc lay_ok rfl ?_ | refine st_store lay_ok rfl rfl rfl rfl rfl rfl ?_ | refine st_iface lay_ok rfl rfl rfl ?_ | refine st_build lay_ok rfl rfl rfl rfl ?_ | refine st_lit0 lay_ok rfl rfl rfl rfl ?_ | refine st_lit lay_ok rfl rfl rfl rfl rfl rfl rfl rfl ?_ | refine st_nil lay_ok rfl rfl rfl rfl ?_ | refine st_errEq lay_ok rfl rfl rfl rfl rfl rfl rfl ?_ | refine st_binS rfl rfl rfl ?_ | refine st_convI lay_ok rfl rfl rfl rfl ?_ | refine st_makeFunc rfl rfl ?_ | refine st_sub00 lay_ok rfl rfl rfl rfl ?_ | refine st_neg rfl ?_ | refine st_pure (faults_ok _) b30 rfl rfl rfl rfl ?_) | (first | refine no rfl rfl rfl rfl ?_ | refine no_ rfl rfl rfl ?_ | refine nou rfl rfl rfl ?_ | refine nou_ rfl rfl ?_ | refine o_dec rfl rfl (fun hg => ?_) (fun hg => ?_) | refine o_ndec rfl rfl (fun hg => ?_) (fun hg => ?_))
  · exact f_ret [] 0 rfl trivial rfl rfl ⟨by simp [retOf, primary, hg], rfl⟩
  · exact f_ret [] 0 rfl trivial rfl rfl ⟨by simp [retOf, primary]; omega, rfl⟩
  · have e1 : IntKind.i64.wrap (3 * f) = 3 * f := IntWalk.i64_in _ (by omega)
    have e2 : IntKind.i64.wrap (3 * f + 1) = 3 * f + 1 := IntWalk.i64_in _ (by omega)
    rw [e1, e2]
    refine o_none rfl (st_div rfl rfl rfl (by omega) ?_)
    repeat' first | (first | refine n_thn ?_ | refine n_blk ?_ | refine e_thn ?_ | refine e_hit ?_ | refine e_miss rfl ?_ | refine r_thn ?_ | refine r_blk ?_ | refine e_rnd ?_ | refine r_rnd ?_ | refine e_cut ?_ | refine r_cut ?_ | refine .seq ?_ | refine reg ?_ | refine .block ?_ | refine .skip ?_ | refine .ret ?_ | refine .exit ?_ | refine cndT rfl ?_ | refine cndF rfl ?_ | refine c_dec rfl (fun hc => ?_) (fun hc => ?_) | refine c_ndec rfl (fun hc => ?_) (fun hc => ?_) | refine cnd rfl (fun hc => ?_) (fun hc => ?_) | refine fin ?_) | ((first | refine o_none rfl ?_ | refine o_none_ ?_ | refine o_yes rfl rfl rfl ?_ | refine o_yes_ rfl rfl ?_); first | refine st_move rfl ?_ | refine st_assign rfl ?_ | refine st_binI rfl rfl rfl ?_ | refine st_pickT rfl rfl ?_ | refine st_pickF rfl rfl ?_ | refine st_not rfl ?_ | refine st_loadP lay_ok rfl rfl rfl rfl rfl rfl ?_ | refine st_loadS lay_ok rfl rfl rfl rfl rfl ?_ | refine st_fieldP lay_ok rfl rfl rfl ?_ | refine st_fieldS lay_ok rfl rfl rfl ?_ | refine st_fieldE lay_ok rfl rfl rfl ?_ | refine st_len lay_ok rfl rfl rfl rfl rfl ?_ | refine st_extract rfl rfl ?_ | refine st_nilCheck rfl rfl ?_ | refine st_box rfl rfl ?_ | refine st_alloc lay_ok rfl ?_ | refine st_store lay_ok rfl rfl rfl rfl rfl rfl ?_ | refine st_iface lay_ok rfl rfl rfl ?_ | refine st_build lay_ok rfl rfl rfl rfl ?_ | refine st_lit0 lay_ok rfl rfl rfl rfl ?_ | refine st_lit lay_ok rfl rfl rfl rfl rfl rfl rfl rfl ?_ | refine st_nil lay_ok rfl rfl rfl rfl ?_ | refine st_errEq lay_ok rfl rfl rfl rfl rfl rfl rfl ?_ | refine st_binS rfl rfl rfl ?_ | refine st_convI lay_ok rfl rfl rfl rfl ?_ | refine st_makeFunc rfl rfl ?_ | refine st_sub00 lay_ok rfl rfl rfl rfl ?_ | refine st_neg rfl ?_) | (first | refine no rfl rfl rfl rfl ?_ | refine no_ rfl rfl rfl ?_ | refine nou rfl rfl rfl ?_ | refine nou_ rfl rfl ?_ | refine o_dec rfl rfl (fun hg => ?_) (fun hg => ?_) | refine o_ndec rfl rfl (fun hg => ?_) (fun hg => ?_))
    refine f_ret [] 0 rfl trivial rfl rfl ⟨?_, rfl⟩
    rw [Int.tmod_eq_emod_of_nonneg (by omega)]
    simp only [retOf, primary]
    rw [if_pos ⟨hg, by omega⟩]

theorem primary_yes {f view : Int} (h : (1 ≤ f ∧ f ≤ 4) ∧ 0 ≤ view) : ACalls prog 24 0 [I f, I view] [] fun r h => r = .tuple [I (view % (3 * f + 1)), nilE] ∧ h = [] := by
  have := primary_ok f view; rwa [primary, if_pos h] at this
theorem primary_no {f view : Int} (h : ¬ ((1 ≤ f ∧ f ≤ 4) ∧ 0 ≤ view)) : ACalls prog 24 0 [I f, I view] [] fun r h => r = .tuple [I 0, errE 1] ∧ h = [] := by
  have := primary_ok f view; rwa [primary, if_neg h] at this

theorem node_ok (f m : Int) (hf : 1 ≤ f ∧ f ≤ 4) : ACalls prog 26 0 [I f, I m] [] fun r h => r = B (decide (0 ≤ m ∧ m ≤ 3 * f)) ∧ h = [] := by
  refine fn_ok lay_ok func26 rfl rfl rfl rfl rfl ?_
  repeat' first | (first | refine n_thn ?_ | refine n_blk ?_ | refine e_thn ?_ | refine e_hit ?_ | refine e_miss rfl ?_ | refine r_thn ?_ | refine r_blk ?_ | refine e_rnd ?_ | refine r_rnd ?_ | refine e_cut ?_ | refine r_cut ?_ | refine .seq ?_ | refine reg ?_ | refine .block ?_ | refine .skip ?_ | refine .ret ?_ | refine .exit ?_ | refine cndT rfl ?_ | refine cndF rfl ?_ | refine c_dec rfl (fun hc => ?_) (fun hc => ?_) | refine c_ndec rfl (fun hc => ?_) (fun hc => ?_) | refine cnd rfl (fun hc => ?_) (fun hc => ?_) | refine fin ?_) | ((first | refine o_none rfl ?_ | refine o_none_ ?_ | refine o_yes rfl rfl rfl ?_ | refine o_yes_ rfl rfl ?_); first | refine st_move rfl ?_ | refine st_assign rfl ?_ | refine st_binI rfl rfl rfl ?_ | refine st_pickT rfl rfl ?_ | refine st_pickF rfl rfl ?_ | refine st_not rfl ?_ | refine st_loadP lay_ok rfl rfl rfl rfl rfl rfl ?_ | refine st_loadS lay_ok rfl rfl rfl rfl rfl ?_ | refine st_fieldP lay_ok rfl rfl rfl ?_ | refine st_fieldS lay_ok rfl rfl rfl ?_ | refine st_fieldE lay_ok rfl rfl rfl ?_ | refine st_len lay_ok rfl rfl rfl rfl rfl ?_ | refine st_extract rfl rfl ?_ | refine st_nilCheck rfl rfl ?_ | refine st_box rfl rfl ?_ | refine st_alloc lay_ok rfl ?_ | refine st_store lay_ok rfl rfl rfl rfl rfl rfl ?_ | refine st_iface lay_ok rfl rfl rfl ?_ | refine st_build lay_ok rfl rfl rfl rfl ?_ | refine st_lit0 lay_ok rfl rfl rfl rfl ?_ | refine st_lit lay_ok rfl rfl rfl rfl rfl rfl rfl rfl ?_ | refine st_nil lay_ok rfl rfl rfl rfl ?_ | refine st_errEq lay_ok rfl rfl rfl rfl rfl rfl rfl ?_ | refine st_binS rfl rfl rfl ?_ | refine st_convI lay_ok rfl rfl rfl rfl ?_ | refine st_makeFunc rfl rfl ?_ | refine st_sub00 lay_ok rfl rfl rfl rfl ?_ | refine st_neg rfl ?_) | (first | refine no rfl rfl rfl rfl ?_ | refine no_ rfl rfl rfl ?_ | refine nou rfl rfl rfl ?_ | refine nou_ rfl rfl ?_ | refine o_dec rfl rfl (fun hg => ?_) (fun hg => ?_) | refine o_ndec rfl rfl (fun hg => ?_) (fun hg => ?_))
  all_goals refine f_ret [] 0 rfl trivial rfl rfl ⟨?_, rfl⟩
  · have e1 : IntKind.i64.wrap (3 * f) = 3 * f := IntWalk.i64_in _ (by omega)
    rw [e1]; simp [retOf]; omega
  · simp [retOf]; omega

/-- A proof, and its cells. -/
structure Pf where
  view : Int
  seq : Int
  body : ByteArray
  from_ : List Int
def row1 (x : Int) : List SV := [.int .i64 x]
def Pf.cells (p : Pf) : List SV := [.int .i64 p.view, .int .i64 p.seq, .str p.body, .sl 1 (p.from_.map row1)]
def ltO (o : Option Int) (x : Int) : Bool := match o with | some y => decide (y < x) | none => true
def fromOk (f prim : Int) (o : Option Int) : List Int → Bool
  | [] => true
  | x :: xs => decide (0 ≤ x ∧ x ≤ 3 * f) && decide (x ≠ prim) && ltO o x && fromOk f prim (some x) xs
def proofOk (f : Int) (p : Pf) (view : Int) : Bool :=
  decide ((1 ≤ f ∧ f ≤ 4) ∧ 0 ≤ p.view ∧ p.view < view ∧ 1 ≤ p.seq ∧ p.seq ≤ 64 ∧ 2 * f ≤ p.from_.length) && fromOk f (p.view % (3 * f + 1)) none p.from_

def lastOf (l : List Int) (k : Nat) : Option Int := if k = 0 then none else l[k - 1]?
theorem fromOk_step (f prim : Int) (l : List Int) (k : Nat) (hk : k < l.length) : fromOk f prim (lastOf l k) (l.drop k) =
    (decide (0 ≤ l[k] ∧ l[k] ≤ 3 * f) && decide (l[k] ≠ prim) && ltO (lastOf l k) l[k] && fromOk f prim (lastOf l (k + 1)) (l.drop (k + 1))) := by
  rw [List.drop_eq_getElem_cons hk, fromOk]
  congr 2
  simp [lastOf, hk]
abbrev proofSt (f : Int) (p : Pf) (k : Nat) : S := ⟨76, 1, [(47, I k), (46, I p.from_.length), (45, .st (.sl 1 (p.from_.map row1))), (0, I f), (7, I (p.view % (3 * f + 1))), (4, .ptr 0 0)], [(0, .cells (stAll p.cells))]⟩
set_option maxHeartbeats 2000000 in
theorem proof_ok (f : Int) (p : Pf) (view : Int) (hl : p.from_.length ≤ 140737488351232) : ACalls prog 13 0 [I f, .st (.agg p.cells), I view] [] fun r h => r = B (proofOk f p view) ∧ h = [] := by
  refine fn_ok lay_ok func13 rfl rfl rfl rfl rfl ?_
  by_cases hv : (1 ≤ f ∧ f ≤ 4) ∧ 0 ≤ p.view
  · have e1 : IntKind.i64.wrap (2 * f) = 2 * f := IntWalk.i64_in _ (by omega)
    repeat' first | (first | refine n_thn ?_ | refine n_blk ?_ | refine e_thn ?_ | refine e_hit ?_ | refine e_miss rfl ?_ | refine r_thn ?_ | refine r_blk ?_ | refine e_rnd ?_ | refine r_rnd ?_ | refine e_cut ?_ | refine r_cut ?_ | refine .seq ?_ | refine reg ?_ | refine .block ?_ | refine .skip ?_ | refine .ret ?_ | refine .exit ?_ | refine cndT rfl ?_ | refine cndF rfl ?_ | refine c_dec rfl (fun hc => ?_) (fun hc => ?_) | refine c_ndec rfl (fun hc => ?_) (fun hc => ?_) | refine cnd rfl (fun hc => ?_) (fun hc => ?_) | refine fin ?_) | ((first | refine o_none rfl ?_ | refine o_none_ ?_ | refine o_yes rfl rfl rfl ?_ | refine o_yes_ rfl rfl ?_); first | refine st_move rfl ?_ | refine st_assign rfl ?_ | refine st_binI rfl rfl rfl ?_ | refine st_pickT rfl rfl ?_ | refine st_pickF rfl rfl ?_ | refine st_not rfl ?_ | refine st_loadP lay_ok rfl rfl rfl rfl rfl rfl ?_ | refine st_loadS lay_ok rfl rfl rfl rfl rfl ?_ | refine st_fieldP lay_ok rfl rfl rfl ?_ | refine st_fieldS lay_ok rfl rfl rfl ?_ | refine st_fieldE lay_ok rfl rfl rfl ?_ | refine st_len lay_ok rfl rfl rfl rfl rfl ?_ | refine st_extract rfl rfl ?_ | refine st_nilCheck rfl rfl ?_ | refine st_box rfl rfl ?_ | refine st_alloc lay_ok rfl ?_ | refine st_store lay_ok rfl rfl rfl rfl rfl rfl ?_ | refine st_iface lay_ok rfl rfl rfl ?_ | refine st_build lay_ok rfl rfl rfl rfl ?_ | refine st_lit0 lay_ok rfl rfl rfl rfl ?_ | refine st_lit lay_ok rfl rfl rfl rfl rfl rfl rfl rfl ?_ | refine st_nil lay_ok rfl rfl rfl rfl ?_ | refine st_errEq lay_ok rfl rfl rfl rfl rfl rfl rfl ?_ | refine st_binS rfl rfl rfl ?_ | refine st_convI lay_ok rfl rfl rfl rfl ?_ | refine st_makeFunc rfl rfl ?_ | refine st_sub00 lay_ok rfl rfl rfl rfl ?_ | refine st_neg rfl ?_ | refine st_pure (primary_yes hv) b24 rfl rfl rfl rfl ?_) | (first | refine no rfl rfl rfl rfl ?_ | refine no_ rfl rfl rfl ?_ | refine nou rfl rfl rfl ?_ | refine nou_ rfl rfl ?_ | refine o_dec rfl rfl (fun hg => ?_) (fun hg => ?_) | refine o_ndec rfl rfl (fun hg => ?_) (fun hg => ?_))
    all_goals first
      | (refine f_ret [] 0 rfl trivial rfl rfl ⟨?_, rfl⟩
         simp only [retOf, proofOk, AV.st.injEq, SV.bool.injEq]
         symm; rw [Bool.and_eq_false_iff]; left; simp at *; omega)
      | skip
    simp only [List.length_map] at hc ⊢
    have hc' : 2 * f ≤ p.from_.length := by simp at hc; omega
    have hpo : proofOk f p view = fromOk f (p.view % (3 * f + 1)) none p.from_ := by
      unfold proofOk
      rw [decide_eq_true (by omega), Bool.true_and]
    refine lp (fun m s => ∃ k : Nat, m = p.from_.length - k ∧ k ≤ p.from_.length ∧ fromOk f (p.view % (3 * f + 1)) none p.from_ = fromOk f (p.view % (3 * f + 1)) (lastOf p.from_ k) (p.from_.drop k) ∧
      s = proofSt f p k) p.from_.length (proofSt f p 0) ?_ ?_ ⟨0, rfl, Nat.zero_le _, rfl, rfl⟩ ?_
    · exact .of rfl ⟨rfl, rfl, rfl, rfl, rfl, rfl, trivial⟩ ⟨rfl, trivial⟩ rfl
    · exact Nat.le_refl _
    · rintro m s ⟨k, rfl, hk, hok, rfl⟩
      repeat' first | (first | refine n_thn ?_ | refine n_blk ?_ | refine e_thn ?_ | refine e_hit ?_ | refine e_miss rfl ?_ | refine r_thn ?_ | refine r_blk ?_ | refine e_rnd ?_ | refine r_rnd ?_ | refine e_cut ?_ | refine r_cut ?_ | refine .seq ?_ | refine reg ?_ | refine .block ?_ | refine .skip ?_ | refine .ret ?_ | refine .exit ?_ | refine cndT rfl ?_ | refine cndF rfl ?_ | refine c_dec rfl (fun hc => ?_) (fun hc => ?_) | refine c_ndec rfl (fun hc => ?_) (fun hc => ?_) | refine cnd rfl (fun hc => ?_) (fun hc => ?_) | refine fin ?_) | ((first | refine o_none rfl ?_ | refine o_none_ ?_ | refine o_yes rfl rfl rfl ?_ | refine o_yes_ rfl rfl ?_); first | refine st_move rfl ?_ | refine st_assign rfl ?_ | refine st_binI rfl rfl rfl ?_ | refine st_pickT rfl rfl ?_ | refine st_pickF rfl rfl ?_ | refine st_not rfl ?_ | refine st_loadP lay_ok rfl rfl rfl rfl rfl rfl ?_ | refine st_loadS lay_ok rfl rfl rfl rfl rfl ?_ | refine st_fieldP lay_ok rfl rfl rfl ?_ | refine st_fieldS lay_ok rfl rfl rfl ?_ | refine st_fieldE lay_ok rfl rfl rfl ?_ | refine st_len lay_ok rfl rfl rfl rfl rfl ?_ | refine st_extract rfl rfl ?_ | refine st_nilCheck rfl rfl ?_ | refine st_box rfl rfl ?_ | refine st_alloc lay_ok rfl ?_ | refine st_store lay_ok rfl rfl rfl rfl rfl rfl ?_ | refine st_iface lay_ok rfl rfl rfl ?_ | refine st_build lay_ok rfl rfl rfl rfl ?_ | refine st_lit0 lay_ok rfl rfl rfl rfl ?_ | refine st_lit lay_ok rfl rfl rfl rfl rfl rfl rfl rfl ?_ | refine st_nil lay_ok rfl rfl rfl rfl ?_ | refine st_errEq lay_ok rfl rfl rfl rfl rfl rfl rfl ?_ | refine st_binS rfl rfl rfl ?_ | refine st_convI lay_ok rfl rfl rfl rfl ?_ | refine st_makeFunc rfl rfl ?_ | refine st_sub00 lay_ok rfl rfl rfl rfl ?_ | refine st_neg rfl ?_) | (first | refine no rfl rfl rfl rfl ?_ | refine no_ rfl rfl rfl ?_ | refine nou rfl rfl rfl ?_ | refine nou_ rfl rfl ?_ | refine o_dec rfl rfl (fun hg => ?_) (fun hg => ?_) | refine o_ndec rfl rfl (fun hg => ?_) (fun hg => ?_))
      · have hk' : k < p.from_.length := by omega
        have e4 : IntKind.i64.wrap ((k : Int) + 1) = ((k + 1 : Nat) : Int) := (IntWalk.i64_in _ (by omega)).trans (by omega)
        refine o_none rfl (st_index (row1 p.from_[k]) lay_ok rfl rfl rfl rfl (by omega) (by simp [hk']) ?_)
        repeat' first | (first | refine n_thn ?_ | refine n_blk ?_ | refine e_thn ?_ | refine e_hit ?_ | refine e_miss rfl ?_ | refine r_thn ?_ | refine r_blk ?_ | refine e_rnd ?_ | refine r_rnd ?_ | refine e_cut ?_ | refine r_cut ?_ | refine .seq ?_ | refine reg ?_ | refine .block ?_ | refine .skip ?_ | refine .ret ?_ | refine .exit ?_ | refine cndT rfl ?_ | refine cndF rfl ?_ | refine c_dec rfl (fun hc => ?_) (fun hc => ?_) | refine c_ndec rfl (fun hc => ?_) (fun hc => ?_) | refine cnd rfl (fun hc => ?_) (fun hc => ?_) | refine fin ?_) | ((first | refine o_none rfl ?_ | refine o_none_ ?_ | refine o_yes rfl rfl rfl ?_ | refine o_yes_ rfl rfl ?_); first | refine st_move rfl ?_ | refine st_assign rfl ?_ | refine st_binI rfl rfl rfl ?_ | refine st_pickT rfl rfl ?_ | refine st_pickF rfl rfl ?_ | refine st_not rfl ?_ | refine st_loadP lay_ok rfl rfl rfl rfl rfl rfl ?_ | refine st_loadS lay_ok rfl rfl rfl rfl rfl ?_ | refine st_fieldP lay_ok rfl rfl rfl ?_ | refine st_fieldS lay_ok rfl rfl rfl ?_ | refine st_fieldE lay_ok rfl rfl rfl ?_ | refine st_len lay_ok rfl rfl rfl rfl rfl ?_ | refine st_extract rfl rfl ?_ | refine st_nilCheck rfl rfl ?_ | refine st_box rfl rfl ?_ | refine st_alloc lay_ok rfl ?_ | refine st_store lay_ok rfl rfl rfl rfl rfl rfl ?_ | refine st_iface lay_ok rfl rfl rfl ?_ | refine st_build lay_ok rfl rfl rfl rfl ?_ | refine st_lit0 lay_ok rfl rfl rfl rfl ?_ | refine st_lit lay_ok rfl rfl rfl rfl rfl rfl rfl rfl ?_ | refine st_nil lay_ok rfl rfl rfl rfl ?_ | refine st_errEq lay_ok rfl rfl rfl rfl rfl rfl rfl ?_ | refine st_binS rfl rfl rfl ?_ | refine st_convI lay_ok rfl rfl rfl rfl ?_ | refine st_makeFunc rfl rfl ?_ | refine st_sub00 lay_ok rfl rfl rfl rfl ?_ | refine st_neg rfl ?_ | refine st_pure (node_ok _ _ hv.1) b26 rfl rfl rfl rfl ?_) | (first | refine no rfl rfl rfl rfl ?_ | refine no_ rfl rfl rfl ?_ | refine nou rfl rfl rfl ?_ | refine nou_ rfl rfl ?_ | refine o_dec rfl rfl (fun hg => ?_) (fun hg => ?_) | refine o_ndec rfl rfl (fun hg => ?_) (fun hg => ?_))
        · refine f_ret [] 0 rfl trivial rfl rfl ⟨?_, rfl⟩
          rw [hpo, hok, fromOk_step _ _ _ _ hk', decide_eq_false hg]; rfl
        · have hn : 0 ≤ p.from_[k] ∧ p.from_[k] ≤ 3 * f := by assumption
          refine f_ret [] 0 rfl trivial rfl rfl ⟨?_, rfl⟩
          rw [hpo, hok, fromOk_step _ _ _ _ hk', decide_eq_true hn, decide_eq_false (by omega)]; rfl
        · have hn : 0 ≤ p.from_[k] ∧ p.from_[k] ≤ 3 * f := by assumption
          have hp : ¬ p.from_[k] = p.view % (3 * f + 1) := by assumption
          have e3 : IntKind.i64.wrap ((k : Int) - 1) = (k : Int) - 1 := IntWalk.i64_in _ (by omega)
          rw [e3]
          have hk1 : k - 1 < p.from_.length := by omega
          have hlast : lastOf p.from_ k = some p.from_[k - 1] := by simp [lastOf, show k ≠ 0 by omega, hk1]
          refine o_yes rfl rfl rfl (st_index (row1 p.from_[k - 1]) lay_ok rfl rfl rfl rfl (by omega) (by rw [show ((k : Int) - 1).toNat = k - 1 from by omega]; simp [hk1]) ?_)
          repeat' first | (first | refine n_thn ?_ | refine n_blk ?_ | refine e_thn ?_ | refine e_hit ?_ | refine e_miss rfl ?_ | refine r_thn ?_ | refine r_blk ?_ | refine e_rnd ?_ | refine r_rnd ?_ | refine e_cut ?_ | refine r_cut ?_ | refine .seq ?_ | refine reg ?_ | refine .block ?_ | refine .skip ?_ | refine .ret ?_ | refine .exit ?_ | refine cndT rfl ?_ | refine cndF rfl ?_ | refine c_dec rfl (fun hc => ?_) (fun hc => ?_) | refine c_ndec rfl (fun hc => ?_) (fun hc => ?_) | refine cnd rfl (fun hc => ?_) (fun hc => ?_) | refine fin ?_) | ((first | refine o_none rfl ?_ | refine o_none_ ?_ | refine o_yes rfl rfl rfl ?_ | refine o_yes_ rfl rfl ?_); first | refine st_move rfl ?_ | refine st_assign rfl ?_ | refine st_binI rfl rfl rfl ?_ | refine st_pickT rfl rfl ?_ | refine st_pickF rfl rfl ?_ | refine st_not rfl ?_ | refine st_loadP lay_ok rfl rfl rfl rfl rfl rfl ?_ | refine st_loadS lay_ok rfl rfl rfl rfl rfl ?_ | refine st_fieldP lay_ok rfl rfl rfl ?_ | refine st_fieldS lay_ok rfl rfl rfl ?_ | refine st_fieldE lay_ok rfl rfl rfl ?_ | refine st_len lay_ok rfl rfl rfl rfl rfl ?_ | refine st_extract rfl rfl ?_ | refine st_nilCheck rfl rfl ?_ | refine st_box rfl rfl ?_ | refine st_alloc lay_ok rfl ?_ | refine st_store lay_ok rfl rfl rfl rfl rfl rfl ?_ | refine st_iface lay_ok rfl rfl rfl ?_ | refine st_build lay_ok rfl rfl rfl rfl ?_ | refine st_lit0 lay_ok rfl rfl rfl rfl ?_ | refine st_lit lay_ok rfl rfl rfl rfl rfl rfl rfl rfl ?_ | refine st_nil lay_ok rfl rfl rfl rfl ?_ | refine st_errEq lay_ok rfl rfl rfl rfl rfl rfl rfl ?_ | refine st_binS rfl rfl rfl ?_ | refine st_convI lay_ok rfl rfl rfl rfl ?_ | refine st_makeFunc rfl rfl ?_ | refine st_sub00 lay_ok rfl rfl rfl rfl ?_ | refine st_neg rfl ?_) | (first | refine no rfl rfl rfl rfl ?_ | refine no_ rfl rfl rfl ?_ | refine nou rfl rfl rfl ?_ | refine nou_ rfl rfl ?_ | refine o_dec rfl rfl (fun hg => ?_) (fun hg => ?_) | refine o_ndec rfl rfl (fun hg => ?_) (fun hg => ?_))
          · refine f_ret [] 0 rfl trivial rfl rfl ⟨?_, rfl⟩
            rw [hpo, hok, fromOk_step _ _ _ _ hk', decide_eq_true hn, decide_eq_true hp, hlast, ltO, decide_eq_false (by omega)]; rfl
          · rw [e4]
            refine n_rnd (p.from_.length - (k + 1)) (proofSt f p (k + 1)) (by omega) (.of rfl ⟨rfl, rfl, rfl, rfl, rfl, rfl, trivial⟩ ⟨rfl, trivial⟩ rfl) (Nat.le_refl _) ⟨k + 1, rfl, hk', ?_, rfl⟩
            rw [hok, fromOk_step _ _ _ _ hk', decide_eq_true hn, decide_eq_true hp, hlast, ltO, decide_eq_true (by omega)]; rfl
        · have hn : 0 ≤ p.from_[k] ∧ p.from_[k] ≤ 3 * f := by assumption
          have hp : ¬ p.from_[k] = p.view % (3 * f + 1) := by assumption
          have hlast : lastOf p.from_ k = none := by simp [lastOf, show k = 0 by omega]
          rw [e4]
          refine n_rnd (p.from_.length - (k + 1)) (proofSt f p (k + 1)) (by omega) (.of rfl ⟨rfl, rfl, rfl, rfl, rfl, rfl, trivial⟩ ⟨rfl, trivial⟩ rfl) (Nat.le_refl _) ⟨k + 1, rfl, hk', ?_, rfl⟩
          rw [hok, fromOk_step _ _ _ _ hk', decide_eq_true hn, decide_eq_true hp, hlast]; rfl
      · refine f_ret [] 0 rfl trivial rfl rfl ⟨?_, rfl⟩
        rw [hpo, hok, List.drop_eq_nil_of_le (by omega)]; rfl
  · repeat' first | (first | refine n_thn ?_ | refine n_blk ?_ | refine e_thn ?_ | refine e_hit ?_ | refine e_miss rfl ?_ | refine r_thn ?_ | refine r_blk ?_ | refine e_rnd ?_ | refine r_rnd ?_ | refine e_cut ?_ | refine r_cut ?_ | refine .seq ?_ | refine reg ?_ | refine .block ?_ | refine .skip ?_ | refine .ret ?_ | refine .exit ?_ | refine cndT rfl ?_ | refine cndF rfl ?_ | refine c_dec rfl (fun hc => ?_) (fun hc => ?_) | refine c_ndec rfl (fun hc => ?_) (fun hc => ?_) | refine cnd rfl (fun hc => ?_) (fun hc => ?_) | refine fin ?_) | ((first | refine o_none rfl ?_ | refine o_none_ ?_ | refine o_yes rfl rfl rfl ?_ | refine o_yes_ rfl rfl ?_); first | refine st_move rfl ?_ | refine st_assign rfl ?_ | refine st_binI rfl rfl rfl ?_ | refine st_pickT rfl rfl ?_ | refine st_pickF rfl rfl ?_ | refine st_not rfl ?_ | refine st_loadP lay_ok rfl rfl rfl rfl rfl rfl ?_ | refine st_loadS lay_ok rfl rfl rfl rfl rfl ?_ | refine st_fieldP lay_ok rfl rfl rfl ?_ | refine st_fieldS lay_ok rfl rfl rfl ?_ | refine st_fieldE lay_ok rfl rfl rfl ?_ | refine st_len lay_ok rfl rfl rfl rfl rfl ?_ | refine st_extract rfl rfl ?_ | refine st_nilCheck rfl rfl ?_ | refine st_box rfl rfl ?_ | refine st_alloc lay_ok rfl ?_ | refine st_store lay_ok rfl rfl rfl rfl rfl rfl ?_ | refine st_iface lay_ok rfl rfl rfl ?_ | refine st_build lay_ok rfl rfl rfl rfl ?_ | refine st_lit0 lay_ok rfl rfl rfl rfl ?_ | refine st_lit lay_ok rfl rfl rfl rfl rfl rfl rfl rfl ?_ | refine st_nil lay_ok rfl rfl rfl rfl ?_ | refine st_errEq lay_ok rfl rfl rfl rfl rfl rfl rfl ?_ | refine st_binS rfl rfl rfl ?_ | refine st_convI lay_ok rfl rfl rfl rfl ?_ | refine st_makeFunc rfl rfl ?_ | refine st_sub00 lay_ok rfl rfl rfl rfl ?_ | refine st_neg rfl ?_ | refine st_pure (primary_no hv) b24 rfl rfl rfl rfl ?_) | (first | refine no rfl rfl rfl rfl ?_ | refine no_ rfl rfl rfl ?_ | refine nou rfl rfl rfl ?_ | refine nou_ rfl rfl ?_ | refine o_dec rfl rfl (fun hg => ?_) (fun hg => ?_) | refine o_ndec rfl rfl (fun hg => ?_) (fun hg => ?_))
    all_goals
      refine f_ret [] 0 rfl trivial rfl rfl ⟨?_, rfl⟩
      simp only [retOf, proofOk, AV.st.injEq, SV.bool.injEq]
      symm; rw [Bool.and_eq_false_iff]; left; simp; omega

end Go.Proofs.YtcandekalmjfaaaFn
