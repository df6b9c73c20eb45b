import Derived.Test.YtcandekalmjfaaaAlVb
set_option linter.all false
namespace Go.Proofs.YtcandekalmjfaaaFn
open Go.Proofs.YtcandekalmjfaaaAl Go.Proofs.Try
attribute [local irreducible] IntKind.wrap CodeOk OpsL OpG ACalls thn inBlk rndR cutR WkR Wk fnR DW
theorem at_rowS {l : List ByteArray} {k : Nat} (h : k < l.length) : (l.map rowS)[((k : Nat) : Int).toNat]? = some (rowS l[k]) := by simp [h]
theorem same_ok (a b : List ByteArray) (ha : a.length ≤ 100000000) : ACalls prog 17 0 [.st (.sl 1 (a.map rowS)), .st (.sl 1 (b.map rowS))] [] fun r h => r = B (decide (a = b)) ∧ h = [] := by
  refine fnC lay_ok func17 rfl rfl rfl rfl rfl ?_
  repeat' first | refine wr (by omega) ?_ | refine ln ?_ | refine stp lay_ok rfl ?_ | refine fin ?_ | refine n_thn ?_ | refine n_blk ?_ | refine e_thn ?_ | refine e_hit ?_ | refine e_miss rfl ?_ | refine r_thn ?_ | refine r_blk ?_ | refine e_rr ?_ | refine r_rr ?_ | refine e_cr ?_ | refine r_cr ?_ | refine .seq ?_ | refine reg ?_ | refine .block ?_ | refine .skip ?_ | refine .ret ?_ | refine .exit ?_ | refine cndT rfl ?_ | refine cndF rfl ?_ | refine c_dec rfl (fun hc => ?_) (fun hc => ?_) | refine c_ndec rfl (fun hc => ?_) (fun hc => ?_) | refine cnd rfl (fun hc => ?_) (fun hc => ?_) | refine gd rfl rfl rfl (fun hg => ?_) (fun hg => ?_) | refine gn rfl rfl rfl (fun hg => ?_) (fun hg => ?_) | refine dwr (by omega) ?_ | refine dwl ?_ | refine dws lay_ok rfl rfl rfl rfl rfl rfl rfl ?_ | refine dw_end ?_ | refine dw_skip rfl rfl rfl ?_ | refine dwn lay_ok rfl rfl rfl rfl rfl ?_ | refine dw_dec rfl rfl rfl (fun hg => ?_) (fun hg => ?_) | refine dw_ndec rfl rfl rfl (fun hg => ?_) (fun hg => ?_)
  · refine f_r [] rfl trivial rfl ⟨?_, rfl⟩
    simp only [retOf, B, AV.st.injEq, SV.bool.injEq]; symm; rw [decide_eq_false_iff_not]; intro e; subst e; omega
  · have hab : a.length = b.length := by omega
    refine lpR (fun k => k ≤ a.length ∧ a.take k = b.take k) (fun k => a.length - k) (fun k => [(5, I k)]) (fun k => []) (0) [0, 1] [] [] rfl rfl rfl (.of [] (by (repeat' first | exact trivial | refine And.intro ?_ ?_ | rfl); first | done | fail) (by (repeat' first | exact trivial | refine And.intro ?_ ?_ | rfl); first | done | fail) rfl) ?_ ?_
    · simp
    rintro k ⟨hk, hall⟩
    refine nrm rfl rfl ?_
    repeat' first | refine wr (by omega) ?_ | refine ln ?_ | refine stp lay_ok rfl ?_ | refine fin ?_ | refine n_thn ?_ | refine n_blk ?_ | refine e_thn ?_ | refine e_hit ?_ | refine e_miss rfl ?_ | refine r_thn ?_ | refine r_blk ?_ | refine e_rr ?_ | refine r_rr ?_ | refine e_cr ?_ | refine r_cr ?_ | refine .seq ?_ | refine reg ?_ | refine .block ?_ | refine .skip ?_ | refine .ret ?_ | refine .exit ?_ | refine cndT rfl ?_ | refine cndF rfl ?_ | refine c_dec rfl (fun hc => ?_) (fun hc => ?_) | refine c_ndec rfl (fun hc => ?_) (fun hc => ?_) | refine cnd rfl (fun hc => ?_) (fun hc => ?_) | refine gd rfl rfl rfl (fun hg => ?_) (fun hg => ?_) | refine gn rfl rfl rfl (fun hg => ?_) (fun hg => ?_) | refine dwr (by omega) ?_ | refine dwl ?_ | refine dws lay_ok rfl rfl rfl rfl rfl rfl rfl ?_ | refine dw_end ?_ | refine dw_skip rfl rfl rfl ?_ | refine dwn lay_ok rfl rfl rfl rfl rfl ?_ | refine dw_dec rfl rfl rfl (fun hg => ?_) (fun hg => ?_) | refine dw_ndec rfl rfl rfl (fun hg => ?_) (fun hg => ?_)
    · have hk' : k < a.length := by omega
      have h1 := at_rowS (l := a) hk'
      have h2 := at_rowS (l := b) (k := k) (by omega)
      refine dreg [(0, [], [18, 21, 22, 23, 24]), (1, [], [17, 21, 22, 23, 24]), (2, [0, 1], [21, 22, 23, 24]), (3, [0, 1, 2], [21, 22, 23, 24]), (4, [], [17, 18, 19, 20, 22]), (5, [], [17, 18, 19, 20, 21]), (6, [4, 5], [17, 18, 19, 20]), (7, [4, 5, 6], [17, 18, 19, 20]), (8, [0, 1, 2, 3, 4, 5, 6, 7], [])] mixed (by kernel_rfl) ?_
      repeat' first | refine wr (by omega) ?_ | refine ln ?_ | refine stp lay_ok rfl ?_ | refine fin ?_ | refine n_thn ?_ | refine n_blk ?_ | refine e_thn ?_ | refine e_hit ?_ | refine e_miss rfl ?_ | refine r_thn ?_ | refine r_blk ?_ | refine e_rr ?_ | refine r_rr ?_ | refine e_cr ?_ | refine r_cr ?_ | refine .seq ?_ | refine reg ?_ | refine .block ?_ | refine .skip ?_ | refine .ret ?_ | refine .exit ?_ | refine cndT rfl ?_ | refine cndF rfl ?_ | refine c_dec rfl (fun hc => ?_) (fun hc => ?_) | refine c_ndec rfl (fun hc => ?_) (fun hc => ?_) | refine cnd rfl (fun hc => ?_) (fun hc => ?_) | ((first | refine o_none rfl ?_ | refine o_none_ ?_ | refine o_yes rfl rfl rfl ?_ | refine o_yes_ rfl rfl ?_); first | refine st_index (rowS a[k]) lay_ok rfl rfl rfl rfl (by omega) h1 ?_ | refine st_index (rowS b[k]) lay_ok rfl rfl rfl rfl (by omega) h2 ?_) | refine gd rfl rfl rfl (fun hg => ?_) (fun hg => ?_) | refine gn rfl rfl rfl (fun hg => ?_) (fun hg => ?_) | refine dwr (by omega) ?_ | refine dwl ?_ | refine dws lay_ok rfl rfl rfl rfl rfl rfl rfl ?_ | refine dw_end ?_ | refine dw_skip rfl rfl rfl ?_ | refine dwn lay_ok rfl rfl rfl rfl rfl ?_ | refine dwb rfl rfl rfl rfl rfl (by (first | refine st_index (rowS a[k]) lay_ok rfl rfl rfl rfl (by omega) h1 ?_ | refine st_index (rowS b[k]) lay_ok rfl rfl rfl rfl (by omega) h2 ?_); exact fin rfl) rfl rfl ?_ | refine dwg rfl rfl rfl rfl rfl (by (first | refine st_index (rowS a[k]) lay_ok rfl rfl rfl rfl (by omega) h1 ?_ | refine st_index (rowS b[k]) lay_ok rfl rfl rfl rfl (by omega) h2 ?_); exact fin rfl) rfl rfl rfl rfl rfl ?_ | refine dw_dec rfl rfl rfl (fun hg => ?_) (fun hg => ?_) | refine dw_ndec rfl rfl rfl (fun hg => ?_) (fun hg => ?_)

      · refine f_r [] rfl trivial rfl ⟨?_, rfl⟩
        simp only [retOf, B, AV.st.injEq, SV.bool.injEq]; symm; rw [decide_eq_false_iff_not]; intro e; subst e; contradiction
      · refine n_rr (k + 1) ?_ (.of [] (by (repeat' first | exact trivial | refine And.intro ?_ ?_ | rfl); first | done | fail) (by (repeat' first | exact trivial | refine And.intro ?_ ?_ | rfl); first | done | fail) rfl) ?_
        · omega
        · refine ⟨hk', ?_⟩
          have : ¬ a[k] ≠ b[k] := by assumption
          rw [List.take_succ_eq_append_getElem hk', List.take_succ_eq_append_getElem (l := b) (by omega), hall, Decidable.not_not.1 this]
    · refine f_r [] rfl trivial rfl ⟨?_, rfl⟩
      rw [List.take_of_length_le (by omega), List.take_of_length_le (by omega)] at hall
      subst hall; simp [retOf]

def fits (bs : List ByteArray) (seq : Int) (body : ByteArray) : Bool := if 1 ≤ seq ∧ seq ≤ 64 then (if seq ≤ bs.length then decide (bs.getD (seq - 1).toNat ⟨#[]⟩ = body) else decide (body ≠ ⟨#[]⟩)) else false
theorem fits_ok (l : List Ch) (seq : Int) (body : ByteArray) (hl : l.length ≤ 100000000) (hs : ∀ c ∈ l, c.proofs.length ≤ 100000000) : ACalls prog 19 0 [.st (.sl 3 (l.map Ch.cells)), I seq, .st (.str body)] [] fun r h => r = B (fits (bodiesOf l) seq body) ∧ h = [] := by
  refine fnC lay_ok func19 rfl rfl rfl rfl rfl ?_
  have hb := cbodies_ok l hl hs
  generalize bodiesOf l = bs at hb
  by_cases h1 : 1 ≤ seq ∧ seq ≤ bs.length
  · have hat : (bs.map rowS)[(seq - 1).toNat]? = some (rowS (bs.getD (seq - 1).toNat ⟨#[]⟩)) := by
      rw [List.getElem?_map, List.getD_eq_getElem?_getD]
      have : (seq - 1).toNat < bs.length := by omega
      rw [List.getElem?_eq_getElem this]; rfl
    repeat' first | refine wr (by omega) ?_ | refine ln ?_ | refine stp lay_ok rfl ?_ | refine fin ?_ | refine n_thn ?_ | refine n_blk ?_ | refine e_thn ?_ | refine e_hit ?_ | refine e_miss rfl ?_ | refine r_thn ?_ | refine r_blk ?_ | refine e_rr ?_ | refine r_rr ?_ | refine e_cr ?_ | refine r_cr ?_ | refine .seq ?_ | refine reg ?_ | refine .block ?_ | refine .skip ?_ | refine .ret ?_ | refine .exit ?_ | refine cndT rfl ?_ | refine cndF rfl ?_ | refine c_dec rfl (fun hc => ?_) (fun hc => ?_) | refine c_ndec rfl (fun hc => ?_) (fun hc => ?_) | refine cnd rfl (fun hc => ?_) (fun hc => ?_) | ((first | refine o_none rfl ?_ | refine o_none_ ?_ | refine o_yes rfl rfl rfl ?_ | refine o_yes_ rfl rfl ?_); first | refine st_pure (hb) b18 rfl rfl rfl rfl ?_ | refine st_index (rowS (bs.getD (seq - 1).toNat ⟨#[]⟩)) lay_ok rfl rfl rfl rfl (by omega) hat ?_) | refine gd rfl rfl rfl (fun hg => ?_) (fun hg => ?_) | refine gn rfl rfl rfl (fun hg => ?_) (fun hg => ?_) | refine dwr (by omega) ?_ | refine dwl ?_ | refine dws lay_ok rfl rfl rfl rfl rfl rfl rfl ?_ | refine dw_end ?_ | refine dw_skip rfl rfl rfl ?_ | refine dwn lay_ok rfl rfl rfl rfl rfl ?_ | refine dwb rfl rfl rfl rfl rfl (by (first | refine st_pure (hb) b18 rfl rfl rfl rfl ?_ | refine st_index (rowS (bs.getD (seq - 1).toNat ⟨#[]⟩)) lay_ok rfl rfl rfl rfl (by omega) hat ?_); exact fin rfl) rfl rfl ?_ | refine dwg rfl rfl rfl rfl rfl (by (first | refine st_pure (hb) b18 rfl rfl rfl rfl ?_ | refine st_index (rowS (bs.getD (seq - 1).toNat ⟨#[]⟩)) lay_ok rfl rfl rfl rfl (by omega) hat ?_); exact fin rfl) rfl rfl rfl rfl rfl ?_ | refine dw_dec rfl rfl rfl (fun hg => ?_) (fun hg => ?_) | refine dw_ndec rfl rfl rfl (fun hg => ?_) (fun hg => ?_)
    · omega
    · refine f_r [] rfl trivial rfl ⟨?_, rfl⟩; simp only [retOf, fits]; rw [if_neg (by omega)]
    · refine f_r [] rfl trivial rfl ⟨?_, rfl⟩; simp only [retOf, fits]; rw [if_pos (by omega), if_pos (by omega)]
    · omega
  · repeat' first | refine wr (by omega) ?_ | refine ln ?_ | refine stp lay_ok rfl ?_ | refine fin ?_ | refine n_thn ?_ | refine n_blk ?_ | refine e_thn ?_ | refine e_hit ?_ | refine e_miss rfl ?_ | refine r_thn ?_ | refine r_blk ?_ | refine e_rr ?_ | refine r_rr ?_ | refine e_cr ?_ | refine r_cr ?_ | refine .seq ?_ | refine reg ?_ | refine .block ?_ | refine .skip ?_ | refine .ret ?_ | refine .exit ?_ | refine cndT rfl ?_ | refine cndF rfl ?_ | refine c_dec rfl (fun hc => ?_) (fun hc => ?_) | refine c_ndec rfl (fun hc => ?_) (fun hc => ?_) | refine cnd rfl (fun hc => ?_) (fun hc => ?_) | ((first | refine o_none rfl ?_ | refine o_none_ ?_ | refine o_yes rfl rfl rfl ?_ | refine o_yes_ rfl rfl ?_); first | refine st_pure (hb) b18 rfl rfl rfl rfl ?_) | refine gd rfl rfl rfl (fun hg => ?_) (fun hg => ?_) | refine gn rfl rfl rfl (fun hg => ?_) (fun hg => ?_) | refine dwr (by omega) ?_ | refine dwl ?_ | refine dws lay_ok rfl rfl rfl rfl rfl rfl rfl ?_ | refine dw_end ?_ | refine dw_skip rfl rfl rfl ?_ | refine dwn lay_ok rfl rfl rfl rfl rfl ?_ | refine dwb rfl rfl rfl rfl rfl (by (first | refine st_pure (hb) b18 rfl rfl rfl rfl ?_); exact fin rfl) rfl rfl ?_ | refine dwg rfl rfl rfl rfl rfl (by (first | refine st_pure (hb) b18 rfl rfl rfl rfl ?_); exact fin rfl) rfl rfl rfl rfl rfl ?_ | refine dw_dec rfl rfl rfl (fun hg => ?_) (fun hg => ?_) | refine dw_ndec rfl rfl rfl (fun hg => ?_) (fun hg => ?_)
    · refine f_r [] rfl trivial rfl ⟨?_, rfl⟩; simp only [retOf, fits]; rw [if_neg (by omega)]
    · refine f_r [] rfl trivial rfl ⟨?_, rfl⟩; simp only [retOf, fits]; rw [if_neg (by omega)]
    · omega
    · refine f_r [] rfl trivial rfl ⟨?_, rfl⟩; simp only [retOf, fits]; rw [if_pos (by omega), if_neg (by omega)]

/-! ### the program chooses what the document says -/
theorem fold_get (s : Int) (hv : 1 ≤ s ∧ s ≤ 64) : ∀ (ps : List Pf) (st : FM × Int), fget s (ps.foldl bstep st).1 = ps.foldl (rstep s) (fget s st.1) := by
  intro ps
  induction ps with
  | nil => intro st; rfl
  | cons p ps ih =>
    intro st
    rw [List.foldl_cons, List.foldl_cons, ih]
    congr 1
    simp only [bstep, rstep]
    by_cases hs : p.seq = s
    · subst hs
      rw [if_pos (by simp only [validS, decide_eq_true_eq]; exact hv)]
      by_cases hb : better (fget p.seq st.1) p = true
      · simp only [hb, if_true, fget_put, and_self]
      · simp only [hb, if_false, and_false]; rfl
    · have hne : ∀ v, fget s (fput p.seq v st.1) = fget s st.1 := fun v => by rw [fget_put, if_neg (fun e => hs e.symm)]
      simp only [hs, false_and, if_false]
      split
      · simp only; split
        · exact hne _
        · rfl
      · rfl
theorem get_best (s : Int) (hv : 1 ≤ s ∧ s ≤ 64) (ps : List Pf) : fget s (bfold ps).1 = rbest s ps := fold_get s hv ps _
theorem rbest_some (s : Int) (ps : List Pf) : (rbest s ps).isSome = ps.any fun p => decide (p.seq = s) := by
  unfold rbest
  have : ∀ (o : Option (Int × ByteArray)), (ps.foldl (rstep s) o).isSome = (o.isSome || ps.any fun p => decide (p.seq = s)) := by
    induction ps with
    | nil => intro o; simp
    | cons p ps ih =>
      intro o
      rw [List.foldl_cons, ih, List.any_cons, ← Bool.or_assoc]
      congr 1
      simp only [rstep]
      cases o with
      | none => by_cases hs : p.seq = s <;> simp [hs, better]
      | some b => split <;> simp
  simpa using this none
theorem bfold_ge (ps : List Pf) : (∀ p ∈ ps, validS p = true → p.seq ≤ (bfold ps).2) ∧ ((bfold ps).2 ≠ 0 → ∃ p ∈ ps, validS p = true ∧ p.seq = (bfold ps).2) := by
  unfold bfold
  have : ∀ (st : FM × Int), (st.2 ≤ (ps.foldl bstep st).2 ∧ ∀ p ∈ ps, validS p = true → p.seq ≤ (ps.foldl bstep st).2) ∧ ((ps.foldl bstep st).2 = st.2 ∨ ∃ p ∈ ps, validS p = true ∧ p.seq = (ps.foldl bstep st).2) := by
    induction ps with
    | nil => intro st; simp
    | cons p ps ih =>
      intro st
      rw [List.foldl_cons]
      obtain ⟨⟨h1, h2⟩, h3⟩ := ih (bstep st p)
      have hb : (bstep st p).2 = if validS p = true then max st.2 p.seq else st.2 := by simp only [bstep]; split <;> rfl
      rw [hb] at h1 h3
      refine ⟨⟨by split at h1 <;> omega, fun p' hp' hv => ?_⟩, ?_⟩
      · rcases List.mem_cons.1 hp' with rfl | hp'
        · rw [if_pos hv] at h1; omega
        · exact h2 p' hp' hv
      · rcases h3 with h3 | ⟨p', hp', hv, e⟩
        · by_cases hv : validS p = true
          · rw [if_pos hv] at h3
            rcases Int.le_total st.2 p.seq with hle | hle
            · exact .inr ⟨p, by simp, hv, by omega⟩
            · exact .inl (by omega)
          · rw [if_neg hv] at h3; exact .inl h3
        · exact .inr ⟨p', List.mem_cons_of_mem _ hp', hv, e⟩
  obtain ⟨⟨_, h2⟩, h3⟩ := this ([], 0)
  refine ⟨h2, fun hn => ?_⟩
  rcases h3 with h3 | h3
  · exact absurd h3 hn
  · exact h3
theorem rlast_ge (l : List Ch) (q : Nat) : (∀ s : Int, 1 ≤ s → s ≤ q → (rbest s (upto l l.length)).isSome = true → s ≤ rlast l q) ∧ (rlast l q ≠ 0 → (rbest (rlast l q) (upto l l.length)).isSome = true) := by
  induction q with
  | zero => exact ⟨fun s h1 h2 => by omega, fun h => by simp [rlast] at h⟩
  | succ q ih =>
    have hle := rlast_le l q
    simp only [rlast]
    split
    · rename_i h; exact ⟨fun s h1 h2 _ => by omega, fun _ => h⟩
    · rename_i h
      refine ⟨fun s h1 h2 h3 => ?_, ih.2⟩
      by_cases e : s = (q : Int) + 1
      · subst e; exact absurd h3 h
      · exact ih.1 s h1 (by omega) h3
theorem last_eq (l : List Ch) : (bfold (upto l l.length)).2 = rlast l 64 := by
  obtain ⟨a1, a2⟩ := bfold_ge (upto l l.length)
  obtain ⟨b1, b2⟩ := rlast_ge l 64
  have a3 := bfold_le (upto l l.length)
  have b3 := rlast_le l 64
  apply Int.le_antisymm
  · by_cases h0 : (bfold (upto l l.length)).2 = 0
    · omega
    · obtain ⟨p, hp, hv, e⟩ := a2 h0
      simp only [validS, decide_eq_true_eq] at hv
      refine b1 _ (by omega) (by omega) ?_
      rw [rbest_some, List.any_eq_true]; exact ⟨p, hp, by simp [e]⟩
  · by_cases h0 : rlast l 64 = 0
    · omega
    · have h1 := b2 h0
      rw [rbest_some, List.any_eq_true] at h1
      obtain ⟨p, hp, e⟩ := h1
      simp only [decide_eq_true_eq] at e
      rw [← e]
      exact a1 p hp (by simp only [validS, decide_eq_true_eq]; omega)
theorem bodies_eq (l : List Ch) : bodiesOf l = rbodies l := by
  unfold bodiesOf rbodies
  rw [last_eq]
  apply List.map_congr_left
  intro i hi
  have := rlast_le l 64
  simp only [List.mem_range] at hi
  unfold bodyOf
  rw [get_best _ (by omega)]
  cases rbest ((i : Int) + 1) (upto l l.length) <;> rfl
theorem bodies_len (l : List Ch) : (bodiesOf l).length ≤ 64 := by
  have := bfold_le (upto l l.length)
  unfold bodiesOf; rw [List.length_map, List.length_range]; omega
end Go.Proofs.YtcandekalmjfaaaFn
