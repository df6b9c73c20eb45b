import Derived.Test.YtcandekalmjfaaaAlUd
import Derived.Test.YtcandekalmjfaaaAlZc
set_option linter.all false
namespace Go.Proofs.YtcandekalmjfaaaFn
open Go.Proofs.YtcandekalmjfaaaAl Go.Proofs.Try
attribute [local irreducible] IntKind.wrap CodeOk OpsL OpG ACalls thn inBlk rndR cutR WkR Wk fnR DW
theorem b18 : HasBody prog 18 := ⟨f18, func18, Option.some_ne_none _, by decide⟩
theorem b19 : HasBody prog 19 := ⟨f19, func19, Option.some_ne_none _, by decide⟩
theorem b16 : HasBody prog 16 := ⟨f16, func16, Option.some_ne_none _, by decide⟩
theorem b27 : HasBody prog 27 := ⟨f27, func27, Option.some_ne_none _, by decide⟩
/-! ### what changes choose -/
abbrev FM := List (Int × (Int × ByteArray))
def fget (k : Int) : FM → Option (Int × ByteArray)
  | [] => none
  | (a, v) :: r => if k = a then some v else fget k r
def fput (k : Int) (v : Int × ByteArray) : FM → FM
  | [] => [(k, v)]
  | (a, w) :: r => if k = a then (k, v) :: r else (a, w) :: fput k v r
def mrow (e : Int × (Int × ByteArray)) : SV × SV := (.int .i64 e.1, .agg [.int .i64 e.2.1, .str e.2.2])
theorem mfind_row (k : Int) (m : FM) : mfind (.int .i64 k) (m.map mrow) = (fget k m).map fun b => .agg [.int .i64 b.1, .str b.2] := by
  induction m with
  | nil => rfl
  | cons e r ih =>
    obtain ⟨a, v⟩ := e
    simp only [List.map_cons, mrow, mfind, fget, skEq, decide_eq_true_eq]
    split
    · rfl
    · exact ih
theorem mput_row (k v : Int) (b : ByteArray) (m : FM) : mput (.int .i64 k) (.agg [.int .i64 v, .str b]) (m.map mrow) = (fput k (v, b) m).map mrow := by
  induction m with
  | nil => rfl
  | cons e r ih =>
    obtain ⟨a, w⟩ := e
    simp only [List.map_cons, mrow, mput, fput, skEq, decide_eq_true_eq]
    split
    · rfl
    · simp only [List.map_cons, mrow]; rw [← ih]
theorem mkind (m : FM) : ∀ e ∈ m.map mrow, kindK (.int .i64) e.1 = true := by
  intro e he
  obtain ⟨x, _, rfl⟩ := List.mem_map.1 he
  rfl
theorem fget_put (k s : Int) (v : Int × ByteArray) (m : FM) : fget s (fput k v m) = if s = k then some v else fget s m := by
  induction m with
  | nil => simp [fput, fget]
  | cons e r ih =>
    obtain ⟨a, w⟩ := e
    simp only [fput]
    split
    · rename_i h; subst h
      simp only [fget]; split <;> simp_all
    · rename_i h
      simp only [fget, ih]
      by_cases h2 : s = a
      · subst h2; rw [if_pos rfl, if_neg (fun e => h e.symm)]; rw [if_pos rfl]
      · rw [if_neg h2, if_neg h2]
def validS (p : Pf) : Bool := decide (1 ≤ p.seq ∧ p.seq ≤ 64)
def better (o : Option (Int × ByteArray)) (p : Pf) : Bool := match o with | none => true | some b => decide (p.view > b.1)
def bstep (s : FM × Int) (p : Pf) : FM × Int := if validS p then (if better (fget p.seq s.1) p then fput p.seq (p.view, p.body) s.1 else s.1, max s.2 p.seq) else s
def bfold (ps : List Pf) : FM × Int := ps.foldl bstep ([], 0)
def upto (l : List Ch) (i : Nat) : List Pf := (l.take i).flatMap Ch.proofs
theorem upto_succ {l : List Ch} {i : Nat} (hi : i < l.length) : upto l (i + 1) = upto l i ++ l[i].proofs := by
  unfold upto; rw [List.take_succ_eq_append_getElem hi, List.flatMap_append]; simp
theorem bfold_snoc (ps : List Pf) (p : Pf) : bfold (ps ++ [p]) = bstep (bfold ps) p := by simp [bfold]
def bodyOf (m : FM) (s : Int) : ByteArray := ((fget s m).map Prod.snd).getD ⟨#[]⟩
def bodiesOf (l : List Ch) : List ByteArray := (List.range (bfold (upto l l.length)).2.toNat).map fun (i : Nat) => bodyOf (bfold (upto l l.length)).1 ((i : Int) + 1)
theorem bfold_le (ps : List Pf) : 0 ≤ (bfold ps).2 ∧ (bfold ps).2 ≤ 64 := by
  unfold bfold
  have : ∀ (ps : List Pf) (s : FM × Int), 0 ≤ s.2 ∧ s.2 ≤ 64 → 0 ≤ (ps.foldl bstep s).2 ∧ (ps.foldl bstep s).2 ≤ 64 := by
    intro ps
    induction ps with
    | nil => intro s h; exact h
    | cons p ps ih =>
      intro s h
      refine ih _ ?_
      simp only [bstep]
      split
      · rename_i hv; simp only [validS, decide_eq_true_eq] at hv; show 0 ≤ max s.2 p.seq ∧ _; simp only; omega
      · exact h
  exact this ps _ ⟨by simp, by simp⟩
theorem fld60 : fldTy prog 60 1 = some (9, 1) := by kernel_rfl
theorem one_s (s : ByteArray) : ∀ row ∈ [[SV.str s]], ∀ y ∈ row, SV.one y = true := by simp [SV.one]
set_option maxHeartbeats 1000000 in
theorem cbodies_ok (l : List Ch) (hl : l.length ≤ 100000000) (hs : ∀ c ∈ l, c.proofs.length ≤ 100000000) : ACalls prog 18 0 [.st (.sl 3 (l.map Ch.cells))] [] fun r h => r = .st (.sl 1 ((bodiesOf l).map rowS)) ∧ h = [] := by
  refine fnC lay_ok func18 rfl rfl rfl rfl rfl ?_
  repeat' first | refine wr (by omega) ?_ | refine ln ?_ | refine stp lay_ok rfl ?_ | refine fin ?_ | refine n_thn ?_ | refine n_blk ?_ | refine e_thn ?_ | refine e_hit ?_ | refine e_miss rfl ?_ | refine r_thn ?_ | refine r_blk ?_ | refine e_rr ?_ | refine r_rr ?_ | refine e_cr ?_ | refine r_cr ?_ | refine .seq ?_ | refine reg ?_ | refine .block ?_ | refine .skip ?_ | refine .ret ?_ | refine .exit ?_ | refine cndT rfl ?_ | refine cndF rfl ?_ | refine c_dec rfl (fun hc => ?_) (fun hc => ?_) | refine c_ndec rfl (fun hc => ?_) (fun hc => ?_) | refine cnd rfl (fun hc => ?_) (fun hc => ?_) | ((first | refine o_none rfl ?_ | refine o_none_ ?_ | refine o_yes rfl rfl rfl ?_ | refine o_yes_ rfl rfl ?_); first | refine st_makeMap ?_) | refine gd rfl rfl rfl (fun hg => ?_) (fun hg => ?_) | refine gn rfl rfl rfl (fun hg => ?_) (fun hg => ?_)
  refine lpR (fun (i, m, la) => i ≤ l.length ∧ (m, la) = bfold (upto l i)) (fun (i, m, la) => l.length - i) (fun (i, m, la) => [(16, I i), (4, I la)]) (fun (i, m, la) => [(0, .map (m.map mrow))]) ((0, [], 0)) [3, 14, 15] [0] [] rfl rfl rfl (.of [] (by (repeat' first | exact trivial | refine And.intro ?_ ?_ | rfl); first | done | fail) (by (repeat' first | exact trivial | refine And.intro ?_ ?_ | rfl); first | done | fail) rfl) ?_ ?_
  · exact ⟨Nat.zero_le _, rfl⟩
  · rintro ⟨i, m, la⟩ ⟨hi, hm⟩
    refine nrm rfl rfl ?_
    repeat' first | refine wr (by omega) ?_ | refine ln ?_ | refine stp lay_ok rfl ?_ | refine fin ?_ | refine n_thn ?_ | refine n_blk ?_ | refine e_thn ?_ | refine e_hit ?_ | refine e_miss rfl ?_ | refine r_thn ?_ | refine r_blk ?_ | refine e_rr ?_ | refine r_rr ?_ | refine e_cr ?_ | refine r_cr ?_ | refine .seq ?_ | refine reg ?_ | refine .block ?_ | refine .skip ?_ | refine .ret ?_ | refine .exit ?_ | refine cndT rfl ?_ | refine cndF rfl ?_ | refine c_dec rfl (fun hc => ?_) (fun hc => ?_) | refine c_ndec rfl (fun hc => ?_) (fun hc => ?_) | refine cnd rfl (fun hc => ?_) (fun hc => ?_) | refine gd rfl rfl rfl (fun hg => ?_) (fun hg => ?_) | refine gn rfl rfl rfl (fun hg => ?_) (fun hg => ?_)
    · have hi' : i < l.length := by omega
      have hpl := hs l[i] (List.getElem_mem hi')
      repeat' first | refine wr (by omega) ?_ | refine ln ?_ | refine stp lay_ok rfl ?_ | refine fin ?_ | refine n_thn ?_ | refine n_blk ?_ | refine e_thn ?_ | refine e_hit ?_ | refine e_miss rfl ?_ | refine r_thn ?_ | refine r_blk ?_ | refine e_rr ?_ | refine r_rr ?_ | refine e_cr ?_ | refine r_cr ?_ | refine .seq ?_ | refine reg ?_ | refine .block ?_ | refine .skip ?_ | refine .ret ?_ | refine .exit ?_ | refine cndT rfl ?_ | refine cndF rfl ?_ | refine c_dec rfl (fun hc => ?_) (fun hc => ?_) | refine c_ndec rfl (fun hc => ?_) (fun hc => ?_) | refine cnd rfl (fun hc => ?_) (fun hc => ?_) | ((first | refine o_none rfl ?_ | refine o_none_ ?_ | refine o_yes rfl rfl rfl ?_ | refine o_yes_ rfl rfl ?_); first | refine st_index (Ch.cells l[i]) lay_ok rfl rfl rfl rfl (by omega) (by simp [hi']) ?_) | refine gd rfl rfl rfl (fun hg => ?_) (fun hg => ?_) | refine gn rfl rfl rfl (fun hg => ?_) (fun hg => ?_)
      refine lpR (fun (k, m, la) => k ≤ l[i].proofs.length ∧ (m, la) = bfold (upto l i ++ l[i].proofs.take k)) (fun (k, m, la) => l[i].proofs.length - k) (fun (k, m, la) => [(23, I k), (4, I la)]) (fun (k, m, la) => [(0, .map (m.map mrow))]) ((0, m, la)) [3, 14, 15, 16, 21, 22] [0] [] rfl rfl rfl (.of [] (by (repeat' first | exact trivial | refine And.intro ?_ ?_ | rfl); first | done | fail) (by (repeat' first | exact trivial | refine And.intro ?_ ?_ | rfl); first | done | fail) rfl) ?_ ?_
      · exact ⟨Nat.zero_le _, by simpa using hm⟩
      · rintro ⟨k, m, la⟩ ⟨hk, hm⟩
        refine nrm rfl rfl ?_
        repeat' first | refine wr (by omega) ?_ | refine ln ?_ | refine stp lay_ok rfl ?_ | refine fin ?_ | refine n_thn ?_ | refine n_blk ?_ | refine e_thn ?_ | refine e_hit ?_ | refine e_miss rfl ?_ | refine r_thn ?_ | refine r_blk ?_ | refine e_rr ?_ | refine r_rr ?_ | refine e_cr ?_ | refine r_cr ?_ | refine .seq ?_ | refine reg ?_ | refine .block ?_ | refine .skip ?_ | refine .ret ?_ | refine .exit ?_ | refine cndT rfl ?_ | refine cndF rfl ?_ | refine c_dec rfl (fun hc => ?_) (fun hc => ?_) | refine c_ndec rfl (fun hc => ?_) (fun hc => ?_) | refine cnd rfl (fun hc => ?_) (fun hc => ?_) | refine gd rfl rfl rfl (fun hg => ?_) (fun hg => ?_) | refine gn rfl rfl rfl (fun hg => ?_) (fun hg => ?_)
        · have hk' : k < l[i].proofs.length := by omega
          have hst : bfold (upto l i ++ l[i].proofs.take (k + 1)) = bstep (m, la) l[i].proofs[k] := by
            rw [List.take_succ_eq_append_getElem hk', ← List.append_assoc, bfold_snoc, ← hm]
          have hat : (l[i].proofs.map Pf.cells)[((k : Nat) : Int).toNat]? = some (Pf.cells l[i].proofs[k]) := by simp [hk']
          generalize l[i].proofs[k] = p at hst hat
          have hla := bfold_le (upto l i ++ l[i].proofs.take k)
          rw [← hm] at hla
          simp only at hla
          have hkind := mkind m
          have hput := mput_row p.seq p.view p.body m
          by_cases hv : 1 ≤ p.seq ∧ p.seq ≤ 64
          · have hmf := mfind_row p.seq m
            have hb : bstep (m, la) p = (if better (fget p.seq m) p then fput p.seq (p.view, p.body) m else m, max la p.seq) := by
              simp only [bstep, validS]; rw [decide_eq_true hv]; rfl
            rw [hb] at hst
            cases hg : fget p.seq m with
            | none =>
              rw [hg] at hmf hst
              repeat' first | refine wr (by omega) ?_ | refine ln ?_ | refine stp lay_ok rfl ?_ | refine fin ?_ | refine n_thn ?_ | refine n_blk ?_ | refine e_thn ?_ | refine e_hit ?_ | refine e_miss rfl ?_ | refine r_thn ?_ | refine r_blk ?_ | refine e_rr ?_ | refine r_rr ?_ | refine e_cr ?_ | refine r_cr ?_ | refine .seq ?_ | refine reg ?_ | refine .block ?_ | refine .skip ?_ | refine .ret ?_ | refine .exit ?_ | refine cndT rfl ?_ | refine cndF rfl ?_ | refine c_dec rfl (fun hc => ?_) (fun hc => ?_) | refine c_ndec rfl (fun hc => ?_) (fun hc => ?_) | refine cnd rfl (fun hc => ?_) (fun hc => ?_) | ((first | refine o_none rfl ?_ | refine o_none_ ?_ | refine o_yes rfl rfl rfl ?_ | refine o_yes_ rfl rfl ?_); first | refine st_index (Pf.cells p) lay_ok rfl rfl rfl rfl (by omega) hat ?_ | refine st_lookupOk (.agg [.int .i64 0, .str ⟨#[]⟩]) false lay_ok rfl rfl rfl rfl rfl rfl rfl rfl rfl hkind (by rw [hmf]; rfl) (by rw [hmf]; rfl) ?_ | refine st_mapUpdate lay_ok rfl rfl rfl rfl rfl rfl rfl rfl rfl rfl hkind ?_ | refine st_max rfl rfl ?_) | refine gd rfl rfl rfl (fun hg => ?_) (fun hg => ?_) | refine gn rfl rfl rfl (fun hg => ?_) (fun hg => ?_)
              · omega
              · omega
              refine n_rr ((k + 1, fput p.seq (p.view, p.body) m, max la p.seq)) ?_ (.of [] (by (repeat' first | exact trivial | refine And.intro ?_ ?_ | rfl | (rw [← hput]; rfl)); first | done | fail) (by (repeat' first | exact trivial | refine And.intro ?_ ?_ | rfl | (rw [← hput]; rfl)); first | done | fail) rfl) ?_
              · show l[i].proofs.length - (k + 1) < l[i].proofs.length - k; omega
              · exact ⟨hk', hst.symm⟩
            | some b =>
              rw [hg] at hmf hst
              repeat' first | refine wr (by omega) ?_ | refine ln ?_ | refine stp lay_ok rfl ?_ | refine fin ?_ | refine n_thn ?_ | refine n_blk ?_ | refine e_thn ?_ | refine e_hit ?_ | refine e_miss rfl ?_ | refine r_thn ?_ | refine r_blk ?_ | refine e_rr ?_ | refine r_rr ?_ | refine e_cr ?_ | refine r_cr ?_ | refine .seq ?_ | refine reg ?_ | refine .block ?_ | refine .skip ?_ | refine .ret ?_ | refine .exit ?_ | refine cndT rfl ?_ | refine cndF rfl ?_ | refine c_dec rfl (fun hc => ?_) (fun hc => ?_) | refine c_ndec rfl (fun hc => ?_) (fun hc => ?_) | refine cnd rfl (fun hc => ?_) (fun hc => ?_) | ((first | refine o_none rfl ?_ | refine o_none_ ?_ | refine o_yes rfl rfl rfl ?_ | refine o_yes_ rfl rfl ?_); first | refine st_index (Pf.cells p) lay_ok rfl rfl rfl rfl (by omega) hat ?_ | refine st_lookupOk (.agg [.int .i64 b.1, .str b.2]) true lay_ok rfl rfl rfl rfl rfl rfl rfl rfl rfl hkind (by rw [hmf]; rfl) (by rw [hmf]; rfl) ?_ | refine st_mapUpdate lay_ok rfl rfl rfl rfl rfl rfl rfl rfl rfl rfl hkind ?_ | refine st_max rfl rfl ?_) | refine gd rfl rfl rfl (fun hg => ?_) (fun hg => ?_) | refine gn rfl rfl rfl (fun hg => ?_) (fun hg => ?_)
              · omega
              · omega
              · refine n_rr ((k + 1, fput p.seq (p.view, p.body) m, max la p.seq)) ?_ (.of [] (by (repeat' first | exact trivial | refine And.intro ?_ ?_ | rfl | (rw [← hput]; rfl)); first | done | fail) (by (repeat' first | exact trivial | refine And.intro ?_ ?_ | rfl | (rw [← hput]; rfl)); first | done | fail) rfl) ?_
                · show l[i].proofs.length - (k + 1) < l[i].proofs.length - k; omega
                · refine ⟨hk', ?_⟩
                  rw [hst, if_pos (by simp only [better, decide_eq_true_eq]; omega)]
              · refine n_rr ((k + 1, m, max la p.seq)) ?_ (.of [] (by (repeat' first | exact trivial | refine And.intro ?_ ?_ | rfl); first | done | fail) (by (repeat' first | exact trivial | refine And.intro ?_ ?_ | rfl); first | done | fail) rfl) ?_
                · show l[i].proofs.length - (k + 1) < l[i].proofs.length - k; omega
                · refine ⟨hk', ?_⟩
                  rw [hst, if_neg (by simp only [better, decide_eq_true_eq]; omega)]
          · have hb : bstep (m, la) p = (m, la) := by
              simp only [bstep, validS]; rw [decide_eq_false hv]; rfl
            rw [hb] at hst
            repeat' first | refine wr (by omega) ?_ | refine ln ?_ | refine stp lay_ok rfl ?_ | refine fin ?_ | refine n_thn ?_ | refine n_blk ?_ | refine e_thn ?_ | refine e_hit ?_ | refine e_miss rfl ?_ | refine r_thn ?_ | refine r_blk ?_ | refine e_rr ?_ | refine r_rr ?_ | refine e_cr ?_ | refine r_cr ?_ | refine .seq ?_ | refine reg ?_ | refine .block ?_ | refine .skip ?_ | refine .ret ?_ | refine .exit ?_ | refine cndT rfl ?_ | refine cndF rfl ?_ | refine c_dec rfl (fun hc => ?_) (fun hc => ?_) | refine c_ndec rfl (fun hc => ?_) (fun hc => ?_) | refine cnd rfl (fun hc => ?_) (fun hc => ?_) | ((first | refine o_none rfl ?_ | refine o_none_ ?_ | refine o_yes rfl rfl rfl ?_ | refine o_yes_ rfl rfl ?_); first | refine st_index (Pf.cells p) lay_ok rfl rfl rfl rfl (by omega) hat ?_) | refine gd rfl rfl rfl (fun hg => ?_) (fun hg => ?_) | refine gn rfl rfl rfl (fun hg => ?_) (fun hg => ?_)
            · refine n_rr ((k + 1, m, la)) ?_ (.of [] (by (repeat' first | exact trivial | refine And.intro ?_ ?_ | rfl); first | done | fail) (by (repeat' first | exact trivial | refine And.intro ?_ ?_ | rfl); first | done | fail) rfl) ?_
              · show l[i].proofs.length - (k + 1) < l[i].proofs.length - k; omega
              · exact ⟨hk', hst.symm⟩
            · refine n_rr ((k + 1, m, la)) ?_ (.of [] (by (repeat' first | exact trivial | refine And.intro ?_ ?_ | rfl); first | done | fail) (by (repeat' first | exact trivial | refine And.intro ?_ ?_ | rfl); first | done | fail) rfl) ?_
              · show l[i].proofs.length - (k + 1) < l[i].proofs.length - k; omega
              · exact ⟨hk', hst.symm⟩
            · omega
        · refine n_rr ((i + 1, m, la)) ?_ (.of [] (by (repeat' first | exact trivial | refine And.intro ?_ ?_ | rfl); first | done | fail) (by (repeat' first | exact trivial | refine And.intro ?_ ?_ | rfl); first | done | fail) rfl) ?_
          · show l.length - (i + 1) < l.length - i; omega
          · refine ⟨hi', ?_⟩
            rw [hm, upto_succ hi', List.take_of_length_le (by omega)]
    · have ei : i = l.length := by omega
      subst ei
      have hla := bfold_le (upto l l.length)
      have hbo : bodiesOf l = (List.range la.toNat).map fun (i : Nat) => bodyOf m ((i : Int) + 1) := by unfold bodiesOf; rw [← hm]
      rw [← hm] at hla
      simp only at hla
      have hkind := mkind m
      rw [hbo]
      refine CodeOk.wk (Wk.nilT 1 11 rfl rfl) (Nat.le_succ _) ?_
      refine lpR (fun (q, R) => q ≤ la.toNat ∧ R = (List.range q).map (fun (i : Nat) => rowS (bodyOf m ((i : Int) + 1)))) (fun (q, R) => la.toNat - q) (fun (q, R) => [(12, I ((q : Int) + 1)), (11, .lsl 2 1 0 R.length)]) (fun (q, R) => [(2, .arr 1 R)]) ((0, [])) [3, 4] [] [1] rfl rfl rfl (.of [1] (by (repeat' first | exact trivial | refine And.intro ?_ ?_ | rfl); first | done | fail) (by (repeat' first | exact trivial | refine And.intro ?_ ?_ | rfl); first | done | fail) rfl) ?_ ?_
      · exact ⟨Nat.zero_le _, rfl⟩
      · rintro ⟨q, R⟩ ⟨hq, hR⟩
        refine nrm rfl rfl ?_
        have hRl : R.length = q := by rw [hR]; simp
        repeat' first | refine wr (by omega) ?_ | refine ln ?_ | refine stp lay_ok rfl ?_ | refine fin ?_ | refine n_thn ?_ | refine n_blk ?_ | refine e_thn ?_ | refine e_hit ?_ | refine e_miss rfl ?_ | refine r_thn ?_ | refine r_blk ?_ | refine e_rr ?_ | refine r_rr ?_ | refine e_cr ?_ | refine r_cr ?_ | refine .seq ?_ | refine reg ?_ | refine .block ?_ | refine .skip ?_ | refine .ret ?_ | refine .exit ?_ | refine cndT rfl ?_ | refine cndF rfl ?_ | refine c_dec rfl (fun hc => ?_) (fun hc => ?_) | refine c_ndec rfl (fun hc => ?_) (fun hc => ?_) | refine cnd rfl (fun hc => ?_) (fun hc => ?_) | refine gd rfl rfl rfl (fun hg => ?_) (fun hg => ?_) | refine gn rfl rfl rfl (fun hg => ?_) (fun hg => ?_)
        · have hmf := mfind_row ((q : Int) + 1) m
          have hb : bodyOf m ((q : Int) + 1) = ((fget ((q : Int) + 1) m).map Prod.snd).getD ⟨#[]⟩ := rfl
          cases hg : fget ((q : Int) + 1) m with
          | none =>
            rw [hg] at hmf hb
            have ho := one_s ⟨#[]⟩
            repeat' first | refine wr (by omega) ?_ | refine ln ?_ | refine stp lay_ok rfl ?_ | refine fin ?_ | refine n_thn ?_ | refine n_blk ?_ | refine e_thn ?_ | refine e_hit ?_ | refine e_miss rfl ?_ | refine r_thn ?_ | refine r_blk ?_ | refine e_rr ?_ | refine r_rr ?_ | refine e_cr ?_ | refine r_cr ?_ | refine .seq ?_ | refine reg ?_ | refine .block ?_ | refine .skip ?_ | refine .ret ?_ | refine .exit ?_ | refine cndT rfl ?_ | refine cndF rfl ?_ | refine c_dec rfl (fun hc => ?_) (fun hc => ?_) | refine c_ndec rfl (fun hc => ?_) (fun hc => ?_) | refine cnd rfl (fun hc => ?_) (fun hc => ?_) | ((first | refine o_none rfl ?_ | refine o_none_ ?_ | refine o_yes rfl rfl rfl ?_ | refine o_yes_ rfl rfl ?_); first | refine st_lookup (.agg [.int .i64 0, .str ⟨#[]⟩]) lay_ok rfl rfl rfl rfl rfl rfl rfl rfl rfl hkind (by rw [hmf]; rfl) ?_ | refine st_field lay_ok rfl fld60 rfl rfl rfl rfl ?_ | refine st_append lay_ok rfl rfl rfl rfl rfl rfl rfl rfl (.lsl rfl rfl) .sl rfl ho (by simp; omega) (by simp; omega) ?_) | refine gd rfl rfl rfl (fun hg => ?_) (fun hg => ?_) | refine gn rfl rfl rfl (fun hg => ?_) (fun hg => ?_)
            refine n_rr ((q + 1, R ++ [[.str ⟨#[]⟩]])) ?_ (.of [3] (by (repeat' first | exact trivial | refine And.intro ?_ ?_ | rfl); first | done | fail) (by (repeat' first | exact trivial | refine And.intro ?_ ?_ | rfl); first | done | fail) rfl) ?_
            · show la.toNat - (q + 1) < la.toNat - q; omega
            · exact ⟨by omega, by rw [List.range_succ, List.map_append, ← hR]; simp [hb, rowS]⟩
          | some b =>
            rw [hg] at hmf hb
            have ho := one_s b.2
            repeat' first | refine wr (by omega) ?_ | refine ln ?_ | refine stp lay_ok rfl ?_ | refine fin ?_ | refine n_thn ?_ | refine n_blk ?_ | refine e_thn ?_ | refine e_hit ?_ | refine e_miss rfl ?_ | refine r_thn ?_ | refine r_blk ?_ | refine e_rr ?_ | refine r_rr ?_ | refine e_cr ?_ | refine r_cr ?_ | refine .seq ?_ | refine reg ?_ | refine .block ?_ | refine .skip ?_ | refine .ret ?_ | refine .exit ?_ | refine cndT rfl ?_ | refine cndF rfl ?_ | refine c_dec rfl (fun hc => ?_) (fun hc => ?_) | refine c_ndec rfl (fun hc => ?_) (fun hc => ?_) | refine cnd rfl (fun hc => ?_) (fun hc => ?_) | ((first | refine o_none rfl ?_ | refine o_none_ ?_ | refine o_yes rfl rfl rfl ?_ | refine o_yes_ rfl rfl ?_); first | refine st_lookup (.agg [.int .i64 b.1, .str b.2]) lay_ok rfl rfl rfl rfl rfl rfl rfl rfl rfl hkind (by rw [hmf]; rfl) ?_ | refine st_field lay_ok rfl fld60 rfl rfl rfl rfl ?_ | refine st_append lay_ok rfl rfl rfl rfl rfl rfl rfl rfl (.lsl rfl rfl) .sl rfl ho (by simp; omega) (by simp; omega) ?_) | refine gd rfl rfl rfl (fun hg => ?_) (fun hg => ?_) | refine gn rfl rfl rfl (fun hg => ?_) (fun hg => ?_)
            refine n_rr ((q + 1, R ++ [[.str b.2]])) ?_ (.of [3] (by (repeat' first | exact trivial | refine And.intro ?_ ?_ | rfl); first | done | fail) (by (repeat' first | exact trivial | refine And.intro ?_ ?_ | rfl); first | done | fail) rfl) ?_
            · show la.toNat - (q + 1) < la.toNat - q; omega
            · exact ⟨by omega, by rw [List.range_succ, List.map_append, ← hR]; simp [hb, rowS]⟩
        · refine f_end (n0 := 0) (t'' := [(2, .st (.sl 1 R))]) (h'' := []) (Wk.then (Wk.frz 2 [2] rfl rfl rfl (by (repeat' first | exact trivial | refine And.intro ?_ ?_ | rfl); first | done | fail) (by (repeat' first | exact trivial | refine And.intro ?_ ?_ | rfl); first | done | fail) rfl rfl) (WkR.of [] (by (repeat' first | exact trivial | refine And.intro ?_ ?_ | rfl); first | done | fail) (by (repeat' first | exact trivial | refine And.intro ?_ ?_ | rfl); first | done | fail) rfl)) rfl rfl ⟨?_, rfl⟩
          have eq' : q = la.toNat := by omega
          subst eq'
          rw [hR, List.map_map]; rfl
end Go.Proofs.YtcandekalmjfaaaFn
