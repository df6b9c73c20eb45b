import Derived.Test.YtcandekalmjfaaaAlVa
set_option linter.all false
namespace Go.Proofs.YtcandekalmjfaaaFn
open Go.Proofs.YtcandekalmjfaaaAl Go.Proofs.Try
attribute [local irreducible] IntKind.wrap CodeOk OpsL OpG ACalls thn inBlk rndR cutR WkR Wk fnR DW
theorem b17 : HasBody prog 17 := ⟨f17, func17, Option.some_ne_none _, by decide⟩
theorem b15 : HasBody prog 15 := ⟨f15, func15, Option.some_ne_none _, by decide⟩
/-! ### the document's answer -/
def rstep (s : Int) (o : Option (Int × ByteArray)) (p : Pf) : Option (Int × ByteArray) := if p.seq = s ∧ better o p = true then some (p.view, p.body) else o
def rbest (s : Int) (ps : List Pf) : Option (Int × ByteArray) := ps.foldl (rstep s) none
theorem rbest_snoc (s : Int) (ps : List Pf) (p : Pf) : rbest s (ps ++ [p]) = rstep s (rbest s ps) p := by simp [rbest]
def vOf : Option (Int × ByteArray) → Int
  | none => -1
  | some b => b.1
def bOf : Option (Int × ByteArray) → ByteArray
  | none => ⟨#[]⟩
  | some b => b.2
set_option maxHeartbeats 1000000 in
theorem rbody_ok (l : List Ch) (s : Int) (hl : l.length ≤ 100000000) (hs : ∀ c ∈ l, c.proofs.length ≤ 100000000) : ACalls prog 27 0 [.st (.sl 3 (l.map Ch.cells)), I s] [] fun r h => r = .tuple [.st (.str (bOf (rbest s (upto l l.length)))), B (rbest s (upto l l.length)).isSome] ∧ h = [] := by
  refine fnC lay_ok func27 rfl rfl rfl rfl rfl ?_
  repeat' first | refine wr (by omega) ?_ | refine ln ?_ | refine stp lay_ok rfl ?_ | refine fin ?_ | refine n_thn ?_ | refine n_blk ?_ | refine e_thn ?_ | refine e_hit ?_ | refine e_miss rfl ?_ | refine r_thn ?_ | refine r_blk ?_ | refine e_rr ?_ | refine r_rr ?_ | refine e_cr ?_ | refine r_cr ?_ | refine .seq ?_ | refine reg ?_ | refine .block ?_ | refine .skip ?_ | refine .ret ?_ | refine .exit ?_ | refine cndT rfl ?_ | refine cndF rfl ?_ | refine c_dec rfl (fun hc => ?_) (fun hc => ?_) | refine c_ndec rfl (fun hc => ?_) (fun hc => ?_) | refine cnd rfl (fun hc => ?_) (fun hc => ?_) | refine gd rfl rfl rfl (fun hg => ?_) (fun hg => ?_) | refine gn rfl rfl rfl (fun hg => ?_) (fun hg => ?_)
  refine lpR (fun (i, o) => i ≤ l.length ∧ o = rbest s (upto l i)) (fun (i, o) => l.length - i) (fun (i, o) => [(9, I i), (6, I (vOf o)), (7, .st (.str (bOf o))), (8, B o.isSome)]) (fun (i, o) => []) ((0, none)) [0, 1] [] [] rfl rfl rfl (.of [] (by (repeat' first | exact trivial | refine And.intro ?_ ?_ | rfl); first | done | fail) (by (repeat' first | exact trivial | refine And.intro ?_ ?_ | rfl); first | done | fail) rfl) ?_ ?_
  · exact ⟨Nat.zero_le _, rfl⟩
  · rintro ⟨i, o⟩ ⟨hi, ho⟩
    refine nrm rfl rfl ?_
    repeat' first | refine wr (by omega) ?_ | refine ln ?_ | refine stp lay_ok rfl ?_ | refine fin ?_ | refine n_thn ?_ | refine n_blk ?_ | refine e_thn ?_ | refine e_hit ?_ | refine e_miss rfl ?_ | refine r_thn ?_ | refine r_blk ?_ | refine e_rr ?_ | refine r_rr ?_ | refine e_cr ?_ | refine r_cr ?_ | refine .seq ?_ | refine reg ?_ | refine .block ?_ | refine .skip ?_ | refine .ret ?_ | refine .exit ?_ | refine cndT rfl ?_ | refine cndF rfl ?_ | refine c_dec rfl (fun hc => ?_) (fun hc => ?_) | refine c_ndec rfl (fun hc => ?_) (fun hc => ?_) | refine cnd rfl (fun hc => ?_) (fun hc => ?_) | refine gd rfl rfl rfl (fun hg => ?_) (fun hg => ?_) | refine gn rfl rfl rfl (fun hg => ?_) (fun hg => ?_)
    · have hi' : i < l.length := by omega
      have hpl := hs l[i] (List.getElem_mem hi')
      have hati : (l.map Ch.cells)[((i : Nat) : Int).toNat]? = some (Ch.cells l[i]) := by simp [hi']
      refine lpR (fun (k, o) => k ≤ l[i].proofs.length ∧ o = rbest s (upto l i ++ l[i].proofs.take k)) (fun (k, o) => l[i].proofs.length - k) (fun (k, o) => [(10, I k), (6, I (vOf o)), (7, .st (.str (bOf o))), (8, B o.isSome)]) (fun (k, o) => []) ((0, o)) [0, 1, 9] [] [] rfl rfl rfl (.of [] (by (repeat' first | exact trivial | refine And.intro ?_ ?_ | rfl); first | done | fail) (by (repeat' first | exact trivial | refine And.intro ?_ ?_ | rfl); first | done | fail) rfl) ?_ ?_
      · exact ⟨Nat.zero_le _, by simpa using ho⟩
      · rintro ⟨k, o⟩ ⟨hk, ho⟩
        refine nrm rfl rfl ?_
        repeat' first | refine wr (by omega) ?_ | refine ln ?_ | refine stp lay_ok rfl ?_ | refine fin ?_ | refine n_thn ?_ | refine n_blk ?_ | refine e_thn ?_ | refine e_hit ?_ | refine e_miss rfl ?_ | refine r_thn ?_ | refine r_blk ?_ | refine e_rr ?_ | refine r_rr ?_ | refine e_cr ?_ | refine r_cr ?_ | refine .seq ?_ | refine reg ?_ | refine .block ?_ | refine .skip ?_ | refine .ret ?_ | refine .exit ?_ | refine cndT rfl ?_ | refine cndF rfl ?_ | refine c_dec rfl (fun hc => ?_) (fun hc => ?_) | refine c_ndec rfl (fun hc => ?_) (fun hc => ?_) | refine cnd rfl (fun hc => ?_) (fun hc => ?_) | ((first | refine o_none rfl ?_ | refine o_none_ ?_ | refine o_yes rfl rfl rfl ?_ | refine o_yes_ rfl rfl ?_); first | refine st_index (Ch.cells l[i]) lay_ok rfl rfl rfl rfl (by omega) hati ?_) | refine gd rfl rfl rfl (fun hg => ?_) (fun hg => ?_) | refine gn rfl rfl rfl (fun hg => ?_) (fun hg => ?_)
        · have hk' : k < l[i].proofs.length := by omega
          have hst : rbest s (upto l i ++ l[i].proofs.take (k + 1)) = rstep s o l[i].proofs[k] := by
            rw [List.take_succ_eq_append_getElem hk', ← List.append_assoc, rbest_snoc, ← ho]
          have hat : (l[i].proofs.map Pf.cells)[((k : Nat) : Int).toNat]? = some (Pf.cells l[i].proofs[k]) := by simp [hk']
          generalize l[i].proofs[k] = p at hst hat
          clear ho
          cases o with
          | none =>
            repeat' first | refine wr (by omega) ?_ | refine ln ?_ | refine stp lay_ok rfl ?_ | refine fin ?_ | refine n_thn ?_ | refine n_blk ?_ | refine e_thn ?_ | refine e_hit ?_ | refine e_miss rfl ?_ | refine r_thn ?_ | refine r_blk ?_ | refine e_rr ?_ | refine r_rr ?_ | refine e_cr ?_ | refine r_cr ?_ | refine .seq ?_ | refine reg ?_ | refine .block ?_ | refine .skip ?_ | refine .ret ?_ | refine .exit ?_ | refine cndT rfl ?_ | refine cndF rfl ?_ | refine c_dec rfl (fun hc => ?_) (fun hc => ?_) | refine c_ndec rfl (fun hc => ?_) (fun hc => ?_) | refine cnd rfl (fun hc => ?_) (fun hc => ?_) | ((first | refine o_none rfl ?_ | refine o_none_ ?_ | refine o_yes rfl rfl rfl ?_ | refine o_yes_ rfl rfl ?_); first | refine st_index (Pf.cells p) lay_ok rfl rfl rfl rfl (by omega) hat ?_ | refine st_index (Ch.cells l[i]) lay_ok rfl rfl rfl rfl (by omega) hati ?_) | refine gd rfl rfl rfl (fun hg => ?_) (fun hg => ?_) | refine gn rfl rfl rfl (fun hg => ?_) (fun hg => ?_)
            · refine n_rr ((k + 1, some (p.view, p.body))) ?_ (.of [] (by (repeat' first | exact trivial | refine And.intro ?_ ?_ | rfl); first | done | fail) (by (repeat' first | exact trivial | refine And.intro ?_ ?_ | rfl); first | done | fail) rfl) ?_
              · show l[i].proofs.length - (k + 1) < l[i].proofs.length - k; omega
              · exact ⟨hk', by rw [hst, rstep, if_pos ⟨by assumption, rfl⟩]⟩
            · refine n_rr ((k + 1, none)) ?_ (.of [] (by (repeat' first | exact trivial | refine And.intro ?_ ?_ | rfl); first | done | fail) (by (repeat' first | exact trivial | refine And.intro ?_ ?_ | rfl); first | done | fail) rfl) ?_
              · show l[i].proofs.length - (k + 1) < l[i].proofs.length - k; omega
              · exact ⟨hk', by rw [hst, rstep, if_neg (fun e => by have := e.1; contradiction)]⟩
          | some b =>
            repeat' first | refine wr (by omega) ?_ | refine ln ?_ | refine stp lay_ok rfl ?_ | refine fin ?_ | refine n_thn ?_ | refine n_blk ?_ | refine e_thn ?_ | refine e_hit ?_ | refine e_miss rfl ?_ | refine r_thn ?_ | refine r_blk ?_ | refine e_rr ?_ | refine r_rr ?_ | refine e_cr ?_ | refine r_cr ?_ | refine .seq ?_ | refine reg ?_ | refine .block ?_ | refine .skip ?_ | refine .ret ?_ | refine .exit ?_ | refine cndT rfl ?_ | refine cndF rfl ?_ | refine c_dec rfl (fun hc => ?_) (fun hc => ?_) | refine c_ndec rfl (fun hc => ?_) (fun hc => ?_) | refine cnd rfl (fun hc => ?_) (fun hc => ?_) | ((first | refine o_none rfl ?_ | refine o_none_ ?_ | refine o_yes rfl rfl rfl ?_ | refine o_yes_ rfl rfl ?_); first | refine st_index (Pf.cells p) lay_ok rfl rfl rfl rfl (by omega) hat ?_ | refine st_index (Ch.cells l[i]) lay_ok rfl rfl rfl rfl (by omega) hati ?_) | refine gd rfl rfl rfl (fun hg => ?_) (fun hg => ?_) | refine gn rfl rfl rfl (fun hg => ?_) (fun hg => ?_)
            · refine n_rr ((k + 1, some (p.view, p.body))) ?_ (.of [] (by (repeat' first | exact trivial | refine And.intro ?_ ?_ | rfl); first | done | fail) (by (repeat' first | exact trivial | refine And.intro ?_ ?_ | rfl); first | done | fail) rfl) ?_
              · show l[i].proofs.length - (k + 1) < l[i].proofs.length - k; omega
              · exact ⟨hk', by rw [hst, rstep, if_pos ⟨by assumption, by simp only [better, decide_eq_true_eq]; assumption⟩]⟩
            · refine n_rr ((k + 1, some b)) ?_ (.of [] (by (repeat' first | exact trivial | refine And.intro ?_ ?_ | rfl); first | done | fail) (by (repeat' first | exact trivial | refine And.intro ?_ ?_ | rfl); first | done | fail) rfl) ?_
              · show l[i].proofs.length - (k + 1) < l[i].proofs.length - k; omega
              · exact ⟨hk', by rw [hst, rstep, if_neg (fun e => by have := e.2; simp only [better, decide_eq_true_eq] at this; contradiction)]⟩
            · refine n_rr ((k + 1, some b)) ?_ (.of [] (by (repeat' first | exact trivial | refine And.intro ?_ ?_ | rfl); first | done | fail) (by (repeat' first | exact trivial | refine And.intro ?_ ?_ | rfl); first | done | fail) rfl) ?_
              · show l[i].proofs.length - (k + 1) < l[i].proofs.length - k; omega
              · exact ⟨hk', by rw [hst, rstep, if_neg (fun e => by have := e.1; contradiction)]⟩
        · refine n_rr ((i + 1, o)) ?_ (.of [] (by (repeat' first | exact trivial | refine And.intro ?_ ?_ | rfl); first | done | fail) (by (repeat' first | exact trivial | refine And.intro ?_ ?_ | rfl); first | done | fail) rfl) ?_
          · show l.length - (i + 1) < l.length - i; omega
          · exact ⟨hi', by rw [ho, upto_succ hi', List.take_of_length_le (by omega)]⟩
    · have ei : i = l.length := by omega
      subst ei
      refine f_r [] rfl trivial rfl ⟨?_, rfl⟩
      rw [← ho]; rfl

def rlast (l : List Ch) : Nat → Int
  | 0 => 0
  | q + 1 => if (rbest ((q : Int) + 1) (upto l l.length)).isSome then (q : Int) + 1 else rlast l q
theorem rlast_le (l : List Ch) (q : Nat) : 0 ≤ rlast l q ∧ rlast l q ≤ q := by
  induction q with
  | zero => simp [rlast]
  | succ q ih => simp only [rlast]; split <;> omega
def rbodies (l : List Ch) : List ByteArray := (List.range (rlast l 64).toNat).map fun (i : Nat) => bOf (rbest ((i : Int) + 1) (upto l l.length))
set_option maxHeartbeats 1000000 in
theorem rbodies_ok (l : List Ch) (hl : l.length ≤ 100000000) (hs : ∀ c ∈ l, c.proofs.length ≤ 100000000) : ACalls prog 16 0 [.st (.sl 3 (l.map Ch.cells))] [] fun r h => r = .st (.sl 1 ((rbodies l).map rowS)) ∧ h = [] := by
  refine fnC lay_ok func16 rfl rfl rfl rfl rfl ?_
  repeat' first | refine wr (by omega) ?_ | refine ln ?_ | refine stp lay_ok rfl ?_ | refine fin ?_ | refine n_thn ?_ | refine n_blk ?_ | refine e_thn ?_ | refine e_hit ?_ | refine e_miss rfl ?_ | refine r_thn ?_ | refine r_blk ?_ | refine e_rr ?_ | refine r_rr ?_ | refine e_cr ?_ | refine r_cr ?_ | refine .seq ?_ | refine reg ?_ | refine .block ?_ | refine .skip ?_ | refine .ret ?_ | refine .exit ?_ | refine cndT rfl ?_ | refine cndF rfl ?_ | refine c_dec rfl (fun hc => ?_) (fun hc => ?_) | refine c_ndec rfl (fun hc => ?_) (fun hc => ?_) | refine cnd rfl (fun hc => ?_) (fun hc => ?_) | refine gd rfl rfl rfl (fun hg => ?_) (fun hg => ?_) | refine gn rfl rfl rfl (fun hg => ?_) (fun hg => ?_)
  refine lpR (fun (q, la) => q ≤ 64 ∧ la = rlast l q) (fun (q, la) => 64 - q) (fun (q, la) => [(4, I ((q : Int) + 1)), (3, I la)]) (fun (q, la) => []) ((0, 0)) [0] [] [] rfl rfl rfl (.of [] (by (repeat' first | exact trivial | refine And.intro ?_ ?_ | rfl); first | done | fail) (by (repeat' first | exact trivial | refine And.intro ?_ ?_ | rfl); first | done | fail) rfl) ?_ ?_
  · exact ⟨Nat.zero_le _, rfl⟩
  · rintro ⟨q, la⟩ ⟨hq, hla⟩
    refine nrm rfl rfl ?_
    repeat' first | refine wr (by omega) ?_ | refine ln ?_ | refine stp lay_ok rfl ?_ | refine fin ?_ | refine n_thn ?_ | refine n_blk ?_ | refine e_thn ?_ | refine e_hit ?_ | refine e_miss rfl ?_ | refine r_thn ?_ | refine r_blk ?_ | refine e_rr ?_ | refine r_rr ?_ | refine e_cr ?_ | refine r_cr ?_ | refine .seq ?_ | refine reg ?_ | refine .block ?_ | refine .skip ?_ | refine .ret ?_ | refine .exit ?_ | refine cndT rfl ?_ | refine cndF rfl ?_ | refine c_dec rfl (fun hc => ?_) (fun hc => ?_) | refine c_ndec rfl (fun hc => ?_) (fun hc => ?_) | refine cnd rfl (fun hc => ?_) (fun hc => ?_) | refine gd rfl rfl rfl (fun hg => ?_) (fun hg => ?_) | refine gn rfl rfl rfl (fun hg => ?_) (fun hg => ?_)
    · have hb := rbody_ok l ((q : Int) + 1) hl hs
      have hst : rlast l (q + 1) = if (rbest ((q : Int) + 1) (upto l l.length)).isSome then (q : Int) + 1 else la := by rw [hla]; rfl
      cases ho : rbest ((q : Int) + 1) (upto l l.length) with
      | none =>
        rw [ho] at hb hst
        repeat' first | refine wr (by omega) ?_ | refine ln ?_ | refine stp lay_ok rfl ?_ | refine fin ?_ | refine n_thn ?_ | refine n_blk ?_ | refine e_thn ?_ | refine e_hit ?_ | refine e_miss rfl ?_ | refine r_thn ?_ | refine r_blk ?_ | refine e_rr ?_ | refine r_rr ?_ | refine e_cr ?_ | refine r_cr ?_ | refine .seq ?_ | refine reg ?_ | refine .block ?_ | refine .skip ?_ | refine .ret ?_ | refine .exit ?_ | refine cndT rfl ?_ | refine cndF rfl ?_ | refine c_dec rfl (fun hc => ?_) (fun hc => ?_) | refine c_ndec rfl (fun hc => ?_) (fun hc => ?_) | refine cnd rfl (fun hc => ?_) (fun hc => ?_) | ((first | refine o_none rfl ?_ | refine o_none_ ?_ | refine o_yes rfl rfl rfl ?_ | refine o_yes_ rfl rfl ?_); first | refine st_pure (hb) b27 rfl rfl rfl rfl ?_) | refine gd rfl rfl rfl (fun hg => ?_) (fun hg => ?_) | refine gn rfl rfl rfl (fun hg => ?_) (fun hg => ?_)
        refine n_rr ((q + 1, la)) ?_ (.of [] (by (repeat' first | exact trivial | refine And.intro ?_ ?_ | rfl); first | done | fail) (by (repeat' first | exact trivial | refine And.intro ?_ ?_ | rfl); first | done | fail) rfl) ?_
        · show 64 - (q + 1) < 64 - q; omega
        · exact ⟨by omega, hst.symm⟩
      | some b =>
        rw [ho] at hb hst
        repeat' first | refine wr (by omega) ?_ | refine ln ?_ | refine stp lay_ok rfl ?_ | refine fin ?_ | refine n_thn ?_ | refine n_blk ?_ | refine e_thn ?_ | refine e_hit ?_ | refine e_miss rfl ?_ | refine r_thn ?_ | refine r_blk ?_ | refine e_rr ?_ | refine r_rr ?_ | refine e_cr ?_ | refine r_cr ?_ | refine .seq ?_ | refine reg ?_ | refine .block ?_ | refine .skip ?_ | refine .ret ?_ | refine .exit ?_ | refine cndT rfl ?_ | refine cndF rfl ?_ | refine c_dec rfl (fun hc => ?_) (fun hc => ?_) | refine c_ndec rfl (fun hc => ?_) (fun hc => ?_) | refine cnd rfl (fun hc => ?_) (fun hc => ?_) | ((first | refine o_none rfl ?_ | refine o_none_ ?_ | refine o_yes rfl rfl rfl ?_ | refine o_yes_ rfl rfl ?_); first | refine st_pure (hb) b27 rfl rfl rfl rfl ?_) | refine gd rfl rfl rfl (fun hg => ?_) (fun hg => ?_) | refine gn rfl rfl rfl (fun hg => ?_) (fun hg => ?_)
        refine n_rr ((q + 1, (q : Int) + 1)) ?_ (.of [] (by (repeat' first | exact trivial | refine And.intro ?_ ?_ | rfl); first | done | fail) (by (repeat' first | exact trivial | refine And.intro ?_ ?_ | rfl); first | done | fail) rfl) ?_
        · show 64 - (q + 1) < 64 - q; omega
        · exact ⟨by omega, hst.symm⟩
    · have eq' : q = 64 := by omega
      subst eq'
      have hle := rlast_le l 64
      unfold rbodies
      rw [← hla] at hle ⊢
      refine CodeOk.wk (Wk.nilT 1 7 rfl rfl) (Nat.le_succ _) ?_
      refine lpR (fun (q, R) => q ≤ la.toNat ∧ R = (List.range q).map (fun (i : Nat) => rowS (bOf (rbest ((i : Int) + 1) (upto l l.length))))) (fun (q, R) => la.toNat - q) (fun (q, R) => [(8, I ((q : Int) + 1)), (7, .lsl 1 1 0 R.length)]) (fun (q, R) => [(1, .arr 1 R)]) ((0, [])) [0, 3] [] [0] rfl rfl rfl (.of [0] (by (repeat' first | exact trivial | refine And.intro ?_ ?_ | rfl); first | done | fail) (by (repeat' first | exact trivial | refine And.intro ?_ ?_ | rfl); first | done | fail) rfl) ?_ ?_
      · exact ⟨Nat.zero_le _, rfl⟩
      · rintro ⟨q, R⟩ ⟨hq, hR⟩
        refine nrm rfl rfl ?_
        have hRl : R.length = q := by rw [hR]; simp
        repeat' first | refine wr (by omega) ?_ | refine ln ?_ | refine stp lay_ok rfl ?_ | refine fin ?_ | refine n_thn ?_ | refine n_blk ?_ | refine e_thn ?_ | refine e_hit ?_ | refine e_miss rfl ?_ | refine r_thn ?_ | refine r_blk ?_ | refine e_rr ?_ | refine r_rr ?_ | refine e_cr ?_ | refine r_cr ?_ | refine .seq ?_ | refine reg ?_ | refine .block ?_ | refine .skip ?_ | refine .ret ?_ | refine .exit ?_ | refine cndT rfl ?_ | refine cndF rfl ?_ | refine c_dec rfl (fun hc => ?_) (fun hc => ?_) | refine c_ndec rfl (fun hc => ?_) (fun hc => ?_) | refine cnd rfl (fun hc => ?_) (fun hc => ?_) | refine gd rfl rfl rfl (fun hg => ?_) (fun hg => ?_) | refine gn rfl rfl rfl (fun hg => ?_) (fun hg => ?_)
        · have hb := rbody_ok l ((q : Int) + 1) hl hs
          have ho := one_s (bOf (rbest ((q : Int) + 1) (upto l l.length)))
          repeat' first | refine wr (by omega) ?_ | refine ln ?_ | refine stp lay_ok rfl ?_ | refine fin ?_ | refine n_thn ?_ | refine n_blk ?_ | refine e_thn ?_ | refine e_hit ?_ | refine e_miss rfl ?_ | refine r_thn ?_ | refine r_blk ?_ | refine e_rr ?_ | refine r_rr ?_ | refine e_cr ?_ | refine r_cr ?_ | refine .seq ?_ | refine reg ?_ | refine .block ?_ | refine .skip ?_ | refine .ret ?_ | refine .exit ?_ | refine cndT rfl ?_ | refine cndF rfl ?_ | refine c_dec rfl (fun hc => ?_) (fun hc => ?_) | refine c_ndec rfl (fun hc => ?_) (fun hc => ?_) | refine cnd rfl (fun hc => ?_) (fun hc => ?_) | ((first | refine o_none rfl ?_ | refine o_none_ ?_ | refine o_yes rfl rfl rfl ?_ | refine o_yes_ rfl rfl ?_); first | refine st_pure (hb) b27 rfl rfl rfl rfl ?_ | refine st_append lay_ok rfl rfl rfl rfl rfl rfl rfl rfl (.lsl rfl rfl) .sl rfl ho (by simp; omega) (by simp; omega) ?_) | refine gd rfl rfl rfl (fun hg => ?_) (fun hg => ?_) | refine gn rfl rfl rfl (fun hg => ?_) (fun hg => ?_)
          refine n_rr ((q + 1, R ++ [[.str (bOf (rbest ((q : Int) + 1) (upto l l.length)))]])) ?_ (.of [2] (by (repeat' first | exact trivial | refine And.intro ?_ ?_ | rfl); first | done | fail) (by (repeat' first | exact trivial | refine And.intro ?_ ?_ | rfl); first | done | fail) rfl) ?_
          · show la.toNat - (q + 1) < la.toNat - q; omega
          · exact ⟨by omega, by rw [List.range_succ, List.map_append, ← hR]; rfl⟩
        · refine f_end (n0 := 0) (t'' := [(2, .st (.sl 1 R))]) (h'' := []) (Wk.then (Wk.frz 1 [2] rfl rfl rfl (by (repeat' first | exact trivial | refine And.intro ?_ ?_ | rfl); first | done | fail) (by (repeat' first | exact trivial | refine And.intro ?_ ?_ | rfl); first | done | fail) rfl rfl) (WkR.of [] (by (repeat' first | exact trivial | refine And.intro ?_ ?_ | rfl); first | done | fail) (by (repeat' first | exact trivial | refine And.intro ?_ ?_ | rfl); first | done | fail) rfl)) rfl rfl ⟨?_, rfl⟩
          have eq' : q = la.toNat := by omega
          subst eq'
          rw [hR, List.map_map]; rfl
end Go.Proofs.YtcandekalmjfaaaFn
