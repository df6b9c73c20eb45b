import Derived.Test.YtcandekalmjfaaaAlVc
import Derived.Test.YtcandekalmjfaaaAlZd
set_option linter.all false
namespace Go.Proofs.YtcandekalmjfaaaFn
open Go.Proofs.YtcandekalmjfaaaAl Go.Proofs.Try
attribute [local irreducible] IntKind.wrap CodeOk OpsL OpG ACalls thn inBlk rndR cutR WkR Wk fnR DW
def chX : Ch := ⟨0, 0, [⟨1, 2, ⟨#[98]⟩, []⟩]⟩
theorem up14_ok : ACalls prog 15 0 [] [] fun r h => r = B true ∧ h = [] := by
  refine fnC lay_ok func15 rfl rfl rfl rfl rfl ?_
  have h1 := cbodies_ok [chX] (by decide) (by simp [chX])
  rw [show bodiesOf [chX] = [⟨#[]⟩, ⟨#[98]⟩] by rfl] at h1
  have h2 := fits_ok [] 1 ⟨#[120]⟩ (by decide) (by simp)
  have h3 := fits_ok [] 1 ⟨#[]⟩ (by decide) (by simp)
  rw [show fits (bodiesOf []) 1 ⟨#[120]⟩ = true by rfl] at h2
  rw [show fits (bodiesOf []) 1 ⟨#[]⟩ = false by rfl] at h3
  have a0 : (([⟨#[]⟩, ⟨#[98]⟩] : List ByteArray).map rowS)[(0 : Int).toNat]? = some (rowS ⟨#[]⟩) := rfl
  have a1 : (([⟨#[]⟩, ⟨#[98]⟩] : List ByteArray).map rowS)[(1 : Int).toNat]? = some (rowS ⟨#[98]⟩) := rfl
  repeat' first | refine wr (by omega) ?_ | refine ln ?_ | refine stp lay_ok rfl ?_ | refine fin ?_ | refine n_thn ?_ | refine n_blk ?_ | refine e_thn ?_ | refine e_hit ?_ | refine e_miss rfl ?_ | refine r_thn ?_ | refine r_blk ?_ | refine e_rr ?_ | refine r_rr ?_ | refine e_cr ?_ | refine r_cr ?_ | refine .seq ?_ | refine reg ?_ | refine .block ?_ | refine .skip ?_ | refine .ret ?_ | refine .exit ?_ | refine cndT rfl ?_ | refine cndF rfl ?_ | refine c_dec rfl (fun hc => ?_) (fun hc => ?_) | refine c_ndec rfl (fun hc => ?_) (fun hc => ?_) | refine cnd rfl (fun hc => ?_) (fun hc => ?_) | ((first | refine o_none rfl ?_ | refine o_none_ ?_ | refine o_yes rfl rfl rfl ?_ | refine o_yes_ rfl rfl ?_); first | refine st_pureL (h1) b18 rfl (by (repeat' first | exact AVLeL.nil | refine AVLeL.cons ?_ ?_ | exact AVLe.refl _ | refine AVLe.st ?_ | exact SLe.refl _ | exact SLe.nil _ | exact SLe.sl0 _ | refine SLe.agg ?_ | refine SLe.sl ?_ | refine SLe.iface ?_ | exact SLeL.nil | refine SLeL.cons ?_ ?_ | exact RLe.nil' | refine RLe.cons' rfl ?_ ?_); first | done | fail) rfl rfl rfl ?_ | refine st_pureL (h2) b19 rfl (by (repeat' first | exact AVLeL.nil | refine AVLeL.cons ?_ ?_ | exact AVLe.refl _ | refine AVLe.st ?_ | exact SLe.refl _ | exact SLe.nil _ | exact SLe.sl0 _ | refine SLe.agg ?_ | refine SLe.sl ?_ | refine SLe.iface ?_ | exact SLeL.nil | refine SLeL.cons ?_ ?_ | exact RLe.nil' | refine RLe.cons' rfl ?_ ?_); first | done | fail) rfl rfl rfl ?_ | refine st_pureL (h3) b19 rfl (by (repeat' first | exact AVLeL.nil | refine AVLeL.cons ?_ ?_ | exact AVLe.refl _ | refine AVLe.st ?_ | exact SLe.refl _ | exact SLe.nil _ | exact SLe.sl0 _ | refine SLe.agg ?_ | refine SLe.sl ?_ | refine SLe.iface ?_ | exact SLeL.nil | refine SLeL.cons ?_ ?_ | exact RLe.nil' | refine RLe.cons' rfl ?_ ?_); first | done | fail) rfl rfl rfl ?_ | refine st_index (rowS ⟨#[]⟩) lay_ok rfl rfl rfl rfl (by omega) a0 ?_ | refine st_index (rowS ⟨#[98]⟩) lay_ok rfl rfl rfl rfl (by omega) a1 ?_) | refine gd rfl rfl rfl (fun hg => ?_) (fun hg => ?_) | refine gn rfl rfl rfl (fun hg => ?_) (fun hg => ?_)
  refine f_r [] rfl trivial rfl ⟨?_, rfl⟩
  rfl
theorem shortC_small {l : List Ch} (h : shortC l = true) : ∀ c ∈ l, c.proofs.length ≤ 100000000 := by
  intro c hc
  simp only [shortC, List.all_eq_true] at h
  have := short_len (h c hc); omega

/-! ### ChooseBodies -/
set_option maxHeartbeats 1000000 in
theorem chooseBodies_ok (l : List Ch) (seq : Int) (body : ByteArray) : ACalls prog 6 0 [.st (.sl 3 (l.map Ch.cells)), I seq, .st (.str body)] [] fun r h => r = B true ∧ h = [] := by
  refine fnC lay_ok func6 rfl rfl rfl rfl rfl ?_
  have hup := up14_ok
  have hsh := shortL l
  cases hs : (decide (l.length ≤ 50) && shortC l) with
  | false =>
    rw [hs] at hsh
    repeat' first | refine wr (by omega) ?_ | refine ln ?_ | refine stp lay_ok rfl ?_ | refine fin ?_ | refine n_thn ?_ | refine n_blk ?_ | refine e_thn ?_ | refine e_hit ?_ | refine e_miss rfl ?_ | refine r_thn ?_ | refine r_blk ?_ | refine e_rr ?_ | refine r_rr ?_ | refine e_cr ?_ | refine r_cr ?_ | refine .seq ?_ | refine reg ?_ | refine .block ?_ | refine .skip ?_ | refine .ret ?_ | refine .exit ?_ | refine cndT rfl ?_ | refine cndF rfl ?_ | refine c_dec rfl (fun hc => ?_) (fun hc => ?_) | refine c_ndec rfl (fun hc => ?_) (fun hc => ?_) | refine cnd rfl (fun hc => ?_) (fun hc => ?_) | ((first | refine o_none rfl ?_ | refine o_none_ ?_ | refine o_yes rfl rfl rfl ?_ | refine o_yes_ rfl rfl ?_); first | refine st_pure (hup) b15 rfl rfl rfl rfl ?_ | refine st_pureL (hsh) b12 rfl (by (repeat' first | exact AVLeL.nil | refine AVLeL.cons ?_ ?_ | exact AVLe.refl _ | refine AVLe.st ?_ | exact SLe.refl _ | exact SLe.nil _ | exact SLe.sl0 _ | refine SLe.agg ?_ | refine SLe.sl ?_ | refine SLe.iface ?_ | exact SLeL.nil | refine SLeL.cons ?_ ?_ | exact RLe.nil' | refine RLe.cons' rfl ?_ ?_); first | done | fail) rfl rfl rfl ?_) | refine gd rfl rfl rfl (fun hg => ?_) (fun hg => ?_) | refine gn rfl rfl rfl (fun hg => ?_) (fun hg => ?_)
    refine f_r [] rfl trivial rfl ⟨?_, rfl⟩; rfl
  | true =>
    rw [hs] at hsh
    simp only [Bool.and_eq_true, decide_eq_true_eq] at hs
    have hsm := shortC_small hs.2
    have hb := cbodies_ok l (by omega) hsm
    have hr := rbodies_ok l (by omega) hsm
    have hf := fits_ok l seq body (by omega) hsm
    rw [← bodies_eq] at hr
    have hlen := bodies_len l
    generalize bodiesOf l = bs at hb hr hf hlen
    have hsame := same_ok bs bs (by omega)
    rw [decide_eq_true rfl] at hsame
    by_cases h1 : 1 ≤ seq ∧ seq ≤ bs.length
    · have hat : (bs.map rowS)[(seq - 1).toNat]? = some (rowS (bs.getD (seq - 1).toNat ⟨#[]⟩)) := by
        rw [List.getElem?_map, List.getD_eq_getElem?_getD]
        have : (seq - 1).toNat < bs.length := by omega
        rw [List.getElem?_eq_getElem this]; rfl
      rw [fits, if_pos (by omega), if_pos (by omega)] at hf
      repeat' first | refine wr (by omega) ?_ | refine ln ?_ | refine stp lay_ok rfl ?_ | refine fin ?_ | refine n_thn ?_ | refine n_blk ?_ | refine e_thn ?_ | refine e_hit ?_ | refine e_miss rfl ?_ | refine r_thn ?_ | refine r_blk ?_ | refine e_rr ?_ | refine r_rr ?_ | refine e_cr ?_ | refine r_cr ?_ | refine .seq ?_ | refine reg ?_ | refine .block ?_ | refine .skip ?_ | refine .ret ?_ | refine .exit ?_ | refine cndT rfl ?_ | refine cndF rfl ?_ | refine c_dec rfl (fun hc => ?_) (fun hc => ?_) | refine c_ndec rfl (fun hc => ?_) (fun hc => ?_) | refine cnd rfl (fun hc => ?_) (fun hc => ?_) | ((first | refine o_none rfl ?_ | refine o_none_ ?_ | refine o_yes rfl rfl rfl ?_ | refine o_yes_ rfl rfl ?_); first | refine st_pure (hup) b15 rfl rfl rfl rfl ?_ | refine st_pureL (hsh) b12 rfl (by (repeat' first | exact AVLeL.nil | refine AVLeL.cons ?_ ?_ | exact AVLe.refl _ | refine AVLe.st ?_ | exact SLe.refl _ | exact SLe.nil _ | exact SLe.sl0 _ | refine SLe.agg ?_ | refine SLe.sl ?_ | refine SLe.iface ?_ | exact SLeL.nil | refine SLeL.cons ?_ ?_ | exact RLe.nil' | refine RLe.cons' rfl ?_ ?_); first | done | fail) rfl rfl rfl ?_ | refine st_pure (hb) b18 rfl rfl rfl rfl ?_ | refine st_pure (hr) b16 rfl rfl rfl rfl ?_ | refine st_pure (hf) b19 rfl rfl rfl rfl ?_ | refine st_pure (hsame) b17 rfl rfl rfl rfl ?_ | refine st_index (rowS (bs.getD (seq - 1).toNat ⟨#[]⟩)) lay_ok rfl rfl rfl rfl (by omega) hat ?_) | refine gd rfl rfl rfl (fun hg => ?_) (fun hg => ?_) | refine gn rfl rfl rfl (fun hg => ?_) (fun hg => ?_)
      all_goals first
        | omega
        | (refine f_r [] rfl trivial rfl ⟨?_, rfl⟩; simp [retOf])
    · by_cases h2 : 1 ≤ seq ∧ seq ≤ 64
      · rw [fits, if_pos h2, if_neg (by omega)] at hf
        repeat' first | refine wr (by omega) ?_ | refine ln ?_ | refine stp lay_ok rfl ?_ | refine fin ?_ | refine n_thn ?_ | refine n_blk ?_ | refine e_thn ?_ | refine e_hit ?_ | refine e_miss rfl ?_ | refine r_thn ?_ | refine r_blk ?_ | refine e_rr ?_ | refine r_rr ?_ | refine e_cr ?_ | refine r_cr ?_ | refine .seq ?_ | refine reg ?_ | refine .block ?_ | refine .skip ?_ | refine .ret ?_ | refine .exit ?_ | refine cndT rfl ?_ | refine cndF rfl ?_ | refine c_dec rfl (fun hc => ?_) (fun hc => ?_) | refine c_ndec rfl (fun hc => ?_) (fun hc => ?_) | refine cnd rfl (fun hc => ?_) (fun hc => ?_) | ((first | refine o_none rfl ?_ | refine o_none_ ?_ | refine o_yes rfl rfl rfl ?_ | refine o_yes_ rfl rfl ?_); first | refine st_pure (hup) b15 rfl rfl rfl rfl ?_ | refine st_pureL (hsh) b12 rfl (by (repeat' first | exact AVLeL.nil | refine AVLeL.cons ?_ ?_ | exact AVLe.refl _ | refine AVLe.st ?_ | exact SLe.refl _ | exact SLe.nil _ | exact SLe.sl0 _ | refine SLe.agg ?_ | refine SLe.sl ?_ | refine SLe.iface ?_ | exact SLeL.nil | refine SLeL.cons ?_ ?_ | exact RLe.nil' | refine RLe.cons' rfl ?_ ?_); first | done | fail) rfl rfl rfl ?_ | refine st_pure (hb) b18 rfl rfl rfl rfl ?_ | refine st_pure (hr) b16 rfl rfl rfl rfl ?_ | refine st_pure (hf) b19 rfl rfl rfl rfl ?_ | refine st_pure (hsame) b17 rfl rfl rfl rfl ?_) | refine gd rfl rfl rfl (fun hg => ?_) (fun hg => ?_) | refine gn rfl rfl rfl (fun hg => ?_) (fun hg => ?_)
        all_goals first
          | omega
          | (refine f_r [] rfl trivial rfl ⟨?_, rfl⟩; simp [retOf])
      · rw [fits, if_neg h2] at hf
        repeat' first | refine wr (by omega) ?_ | refine ln ?_ | refine stp lay_ok rfl ?_ | refine fin ?_ | refine n_thn ?_ | refine n_blk ?_ | refine e_thn ?_ | refine e_hit ?_ | refine e_miss rfl ?_ | refine r_thn ?_ | refine r_blk ?_ | refine e_rr ?_ | refine r_rr ?_ | refine e_cr ?_ | refine r_cr ?_ | refine .seq ?_ | refine reg ?_ | refine .block ?_ | refine .skip ?_ | refine .ret ?_ | refine .exit ?_ | refine cndT rfl ?_ | refine cndF rfl ?_ | refine c_dec rfl (fun hc => ?_) (fun hc => ?_) | refine c_ndec rfl (fun hc => ?_) (fun hc => ?_) | refine cnd rfl (fun hc => ?_) (fun hc => ?_) | ((first | refine o_none rfl ?_ | refine o_none_ ?_ | refine o_yes rfl rfl rfl ?_ | refine o_yes_ rfl rfl ?_); first | refine st_pure (hup) b15 rfl rfl rfl rfl ?_ | refine st_pureL (hsh) b12 rfl (by (repeat' first | exact AVLeL.nil | refine AVLeL.cons ?_ ?_ | exact AVLe.refl _ | refine AVLe.st ?_ | exact SLe.refl _ | exact SLe.nil _ | exact SLe.sl0 _ | refine SLe.agg ?_ | refine SLe.sl ?_ | refine SLe.iface ?_ | exact SLeL.nil | refine SLeL.cons ?_ ?_ | exact RLe.nil' | refine RLe.cons' rfl ?_ ?_); first | done | fail) rfl rfl rfl ?_ | refine st_pure (hb) b18 rfl rfl rfl rfl ?_ | refine st_pure (hr) b16 rfl rfl rfl rfl ?_ | refine st_pure (hf) b19 rfl rfl rfl rfl ?_ | refine st_pure (hsame) b17 rfl rfl rfl rfl ?_) | refine gd rfl rfl rfl (fun hg => ?_) (fun hg => ?_) | refine gn rfl rfl rfl (fun hg => ?_) (fun hg => ?_)
        all_goals first
          | omega
          | (refine f_r [] rfl trivial rfl ⟨?_, rfl⟩; simp [retOf])

/-! ### ChooseTwice -/
theorem twice_eq (l : List Ch) : bodiesOf (l ++ l) = bodiesOf l := by
  have hu : upto (l ++ l) (l ++ l).length = upto l l.length ++ upto l l.length := by
    unfold upto; rw [List.take_length, List.take_length, List.flatMap_append]
  have hb : ∀ s, rbest s (upto (l ++ l) (l ++ l).length) = rbest s (upto l l.length) := by
    intro s
    rw [hu]
    generalize upto l l.length = ps
    unfold rbest
    rw [List.foldl_append]
    have h1 : ∀ (ps : List Pf) (o : Option (Int × ByteArray)), (∀ b, o = some b → ∃ b', ps.foldl (rstep s) o = some b' ∧ b.1 ≤ b'.1) ∧ ∀ p ∈ ps, p.seq = s → ∃ b', ps.foldl (rstep s) o = some b' ∧ p.view ≤ b'.1 := by
      intro ps
      induction ps with
      | nil => intro o; exact ⟨fun b h => ⟨b, h, Int.le_refl _⟩, fun p hp => by simp at hp⟩
      | cons p ps ih =>
        intro o
        rw [List.foldl_cons]
        obtain ⟨i1, i2⟩ := ih (rstep s o p)
        refine ⟨fun b hb => ?_, fun p' hp' hs => ?_⟩
        · subst hb
          by_cases hst : p.seq = s ∧ better (some b) p = true
          · obtain ⟨b', g1, g2⟩ := i1 (p.view, p.body) (by simp only [rstep]; rw [if_pos hst])
            have := hst.2
            simp only [better, decide_eq_true_eq] at this
            exact ⟨b', g1, by simp only at g2; omega⟩
          · exact i1 b (by simp only [rstep]; rw [if_neg hst])
        · rcases List.mem_cons.1 hp' with rfl | hp'
          · by_cases hst : better o p' = true
            · exact i1 (p'.view, p'.body) (by simp only [rstep]; rw [if_pos ⟨hs, hst⟩])
            · cases o with
              | none => simp [better] at hst
              | some b =>
                simp only [better, decide_eq_true_eq] at hst
                obtain ⟨b', g1, g2⟩ := i1 b (by simp only [rstep]; rw [if_neg (by simp only [better, decide_eq_true_eq]; omega)])
                exact ⟨b', g1, by omega⟩
          · exact i2 p' hp' hs
    have h2 := (h1 ps none).2
    generalize ps.foldl (rstep s) none = o at h2
    induction ps with
    | nil => rfl
    | cons p ps ih =>
      rw [List.foldl_cons]
      have : rstep s o p = o := by
        simp only [rstep]
        rw [if_neg]
        rintro ⟨e, hb⟩
        obtain ⟨b', g1, g2⟩ := h2 p (by simp) e
        subst g1
        simp only [better, decide_eq_true_eq] at hb
        omega
      rw [this]
      exact ih fun p' hp' => h2 p' (by simp [hp'])
  rw [bodies_eq, bodies_eq]
  have hl : ∀ q, rlast (l ++ l) q = rlast l q := by
    intro q
    induction q with
    | zero => rfl
    | succ q ih => simp only [rlast, hb, ih]
  unfold rbodies
  simp only [hl, hb]
set_option maxHeartbeats 1000000 in
theorem twice_ok (l : List Ch) (hlm : l.length * 40 ≤ 140737488351232) : ACalls prog 9 0 [.st (.sl 3 (l.map Ch.cells))] [] fun r h => r = B true ∧ h = [] := by
  refine fnC lay_ok func9 rfl rfl rfl rfl rfl ?_
  have hup := up14_ok
  have hsh := shortL l
  cases hs : (decide (l.length ≤ 50) && shortC l) with
  | false =>
    rw [hs] at hsh
    repeat' first | refine wr (by omega) ?_ | refine ln ?_ | refine stp lay_ok rfl ?_ | refine fin ?_ | refine n_thn ?_ | refine n_blk ?_ | refine e_thn ?_ | refine e_hit ?_ | refine e_miss rfl ?_ | refine r_thn ?_ | refine r_blk ?_ | refine e_rr ?_ | refine r_rr ?_ | refine e_cr ?_ | refine r_cr ?_ | refine .seq ?_ | refine reg ?_ | refine .block ?_ | refine .skip ?_ | refine .ret ?_ | refine .exit ?_ | refine cndT rfl ?_ | refine cndF rfl ?_ | refine c_dec rfl (fun hc => ?_) (fun hc => ?_) | refine c_ndec rfl (fun hc => ?_) (fun hc => ?_) | refine cnd rfl (fun hc => ?_) (fun hc => ?_) | ((first | refine o_none rfl ?_ | refine o_none_ ?_ | refine o_yes rfl rfl rfl ?_ | refine o_yes_ rfl rfl ?_); first | refine st_pure (hup) b15 rfl rfl rfl rfl ?_ | refine st_pureL (hsh) b12 rfl (by (repeat' first | exact AVLeL.nil | refine AVLeL.cons ?_ ?_ | exact AVLe.refl _ | refine AVLe.st ?_ | exact SLe.refl _ | exact SLe.nil _ | exact SLe.sl0 _ | refine SLe.agg ?_ | refine SLe.sl ?_ | refine SLe.iface ?_ | exact SLeL.nil | refine SLeL.cons ?_ ?_ | exact RLe.nil' | refine RLe.cons' rfl ?_ ?_); first | done | fail) rfl rfl rfl ?_) | refine gd rfl rfl rfl (fun hg => ?_) (fun hg => ?_) | refine gn rfl rfl rfl (fun hg => ?_) (fun hg => ?_)
    refine f_r [] rfl trivial rfl ⟨?_, rfl⟩; rfl
  | true =>
    rw [hs] at hsh
    simp only [Bool.and_eq_true, decide_eq_true_eq] at hs
    have hsm := shortC_small hs.2
    have hb := cbodies_ok l (by omega) hsm
    have hb2 := cbodies_ok (l ++ l) (by simp; omega) (fun c hc => hsm c (by simpa using hc))
    rw [twice_eq] at hb2
    rw [show (l ++ l).map Ch.cells = ([] ++ l.map Ch.cells) ++ l.map Ch.cells by simp] at hb2
    have hlen := bodies_len l
    generalize bodiesOf l = bs at hb hb2 hlen
    have hsame := same_ok bs bs (by omega)
    rw [decide_eq_true rfl] at hsame
    have ho1 := one_cells l
    repeat' first | refine wr (by omega) ?_ | refine ln ?_ | refine stp lay_ok rfl ?_ | refine fin ?_ | refine n_thn ?_ | refine n_blk ?_ | refine e_thn ?_ | refine e_hit ?_ | refine e_miss rfl ?_ | refine r_thn ?_ | refine r_blk ?_ | refine e_rr ?_ | refine r_rr ?_ | refine e_cr ?_ | refine r_cr ?_ | refine .seq ?_ | refine reg ?_ | refine .block ?_ | refine .skip ?_ | refine .ret ?_ | refine .exit ?_ | refine cndT rfl ?_ | refine cndF rfl ?_ | refine c_dec rfl (fun hc => ?_) (fun hc => ?_) | refine c_ndec rfl (fun hc => ?_) (fun hc => ?_) | refine cnd rfl (fun hc => ?_) (fun hc => ?_) | ((first | refine o_none rfl ?_ | refine o_none_ ?_ | refine o_yes rfl rfl rfl ?_ | refine o_yes_ rfl rfl ?_); first | refine st_pure (hup) b15 rfl rfl rfl rfl ?_ | refine st_pureL (hsh) b12 rfl (by (repeat' first | exact AVLeL.nil | refine AVLeL.cons ?_ ?_ | exact AVLe.refl _ | refine AVLe.st ?_ | exact SLe.refl _ | exact SLe.nil _ | exact SLe.sl0 _ | refine SLe.agg ?_ | refine SLe.sl ?_ | refine SLe.iface ?_ | exact SLeL.nil | refine SLeL.cons ?_ ?_ | exact RLe.nil' | refine RLe.cons' rfl ?_ ?_); first | done | fail) rfl rfl rfl ?_ | refine st_pure (hsame) b17 rfl rfl rfl rfl ?_ | refine st_append lay_ok rfl rfl rfl rfl rfl rfl rfl rfl .sl0 .sl rfl ho1 (by simp; omega) (by simp; omega) ?_ | refine st_append lay_ok rfl rfl rfl rfl rfl rfl rfl rfl (.lsl rfl rfl) .sl rfl ho1 (by simp; omega) (by simp; omega) ?_) | refine gd rfl rfl rfl (fun hg => ?_) (fun hg => ?_) | refine gn rfl rfl rfl (fun hg => ?_) (fun hg => ?_)
    · refine f_r [] rfl trivial rfl ⟨?_, rfl⟩; rfl
    · refine OpsL.wk (Wk.frz 1 [ 0, 3, 17, 18, 23] rfl rfl rfl (by (repeat' first | exact trivial | refine And.intro ?_ ?_ | rfl); first | done | fail) (by (repeat' first | exact trivial | refine And.intro ?_ ?_ | rfl); first | done | fail) rfl rfl) (Nat.le_refl _) ?_; refine nrmO rfl rfl ?_
      repeat' first | refine wr (by omega) ?_ | refine ln ?_ | refine stp lay_ok rfl ?_ | refine fin ?_ | refine n_thn ?_ | refine n_blk ?_ | refine e_thn ?_ | refine e_hit ?_ | refine e_miss rfl ?_ | refine r_thn ?_ | refine r_blk ?_ | refine e_rr ?_ | refine r_rr ?_ | refine e_cr ?_ | refine r_cr ?_ | refine .seq ?_ | refine reg ?_ | refine .block ?_ | refine .skip ?_ | refine .ret ?_ | refine .exit ?_ | refine cndT rfl ?_ | refine cndF rfl ?_ | refine c_dec rfl (fun hc => ?_) (fun hc => ?_) | refine c_ndec rfl (fun hc => ?_) (fun hc => ?_) | refine cnd rfl (fun hc => ?_) (fun hc => ?_) | ((first | refine o_none rfl ?_ | refine o_none_ ?_ | refine o_yes rfl rfl rfl ?_ | refine o_yes_ rfl rfl ?_); first | refine st_pure (hb) b18 rfl rfl rfl rfl ?_ | refine st_pure (hb2) b18 rfl rfl rfl rfl ?_ | refine st_pure (hsame) b17 rfl rfl rfl rfl ?_) | refine gd rfl rfl rfl (fun hg => ?_) (fun hg => ?_) | refine gn rfl rfl rfl (fun hg => ?_) (fun hg => ?_)
      refine f_r [] rfl trivial rfl ⟨?_, rfl⟩; rfl

/-! ### ChooseOwn -/
theorem size_app_ne (b : ByteArray) : ¬ b = b ++ ⟨#[120]⟩ := by
  intro e
  have := congrArg ByteArray.size e
  rw [ByteArray.size_append] at this
  have h1 : (⟨#[120]⟩ : ByteArray).size = 1 := rfl
  omega
theorem rbest_mem {s : Int} {ps : List Pf} {b : Int × ByteArray} (h : rbest s ps = some b) : ∃ p ∈ ps, p.body = b.2 := by
  unfold rbest at h
  have : ∀ (ps : List Pf) (o : Option (Int × ByteArray)), ps.foldl (rstep s) o = some b → o = some b ∨ ∃ p ∈ ps, p.body = b.2 := by
    intro ps
    induction ps with
    | nil => intro o h; exact .inl h
    | cons p ps ih =>
      intro o h
      rcases ih _ h with h | ⟨p', hp', e⟩
      · simp only [rstep] at h
        split at h
        · cases h; exact .inr ⟨p, by simp, rfl⟩
        · exact .inl h
      · exact .inr ⟨p', List.mem_cons_of_mem _ hp', e⟩
  rcases this ps none h with h | h
  · cases h
  · exact h
theorem bodies_size {l : List Ch} (h : shortC l = true) : ∀ b ∈ bodiesOf l, b.size ≤ 5000 := by
  intro b hb
  rw [bodies_eq] at hb
  unfold rbodies at hb
  obtain ⟨i, _, rfl⟩ := List.mem_map.1 hb
  cases ho : rbest ((i : Int) + 1) (upto l l.length) with
  | none => exact Nat.zero_le _
  | some x =>
    obtain ⟨p, hp, e⟩ := rbest_mem ho
    show x.2.size ≤ 5000
    rw [← e]
    unfold upto at hp
    rw [List.take_length, List.mem_flatMap] at hp
    obtain ⟨c, hc, hpc⟩ := hp
    simp only [shortC, List.all_eq_true] at h
    have := h c hc
    simp only [shortP, Bool.and_eq_true, List.all_eq_true] at this
    have := this.2 p hpc
    simp only [pfOk, decide_eq_true_eq] at this
    exact this.1
theorem fits_at {bs : List ByteArray} {i : Nat} (hi : i < bs.length) (hl : bs.length ≤ 64) (b : ByteArray) : fits bs ((i : Int) + 1) b = decide (bs[i] = b) := by
  rw [fits, if_pos (by omega), if_pos (by omega), show ((i : Int) + 1 - 1).toNat = i by omega]
  simp [List.getD_eq_getElem?_getD, hi]
set_option maxHeartbeats 1000000 in
theorem own_ok (l : List Ch) (body : ByteArray) : ACalls prog 8 0 [.st (.sl 3 (l.map Ch.cells)), .st (.str body)] [] fun r h => r = B true ∧ h = [] := by
  refine fnC lay_ok func8 rfl rfl rfl rfl rfl ?_
  have hup := up14_ok
  have hsh := shortL l
  cases hs : (decide (l.length ≤ 50) && shortC l) with
  | false =>
    rw [hs] at hsh
    repeat' first | refine wr (by omega) ?_ | refine ln ?_ | refine stp lay_ok rfl ?_ | refine fin ?_ | refine n_thn ?_ | refine n_blk ?_ | refine e_thn ?_ | refine e_hit ?_ | refine e_miss rfl ?_ | refine r_thn ?_ | refine r_blk ?_ | refine e_rr ?_ | refine r_rr ?_ | refine e_cr ?_ | refine r_cr ?_ | refine .seq ?_ | refine reg ?_ | refine .block ?_ | refine .skip ?_ | refine .ret ?_ | refine .exit ?_ | refine cndT rfl ?_ | refine cndF rfl ?_ | refine c_dec rfl (fun hc => ?_) (fun hc => ?_) | refine c_ndec rfl (fun hc => ?_) (fun hc => ?_) | refine cnd rfl (fun hc => ?_) (fun hc => ?_) | ((first | refine o_none rfl ?_ | refine o_none_ ?_ | refine o_yes rfl rfl rfl ?_ | refine o_yes_ rfl rfl ?_); first | refine st_pure (hup) b15 rfl rfl rfl rfl ?_ | refine st_pureL (hsh) b12 rfl (by (repeat' first | exact AVLeL.nil | refine AVLeL.cons ?_ ?_ | exact AVLe.refl _ | refine AVLe.st ?_ | exact SLe.refl _ | exact SLe.nil _ | exact SLe.sl0 _ | refine SLe.agg ?_ | refine SLe.sl ?_ | refine SLe.iface ?_ | exact SLeL.nil | refine SLeL.cons ?_ ?_ | exact RLe.nil' | refine RLe.cons' rfl ?_ ?_); first | done | fail) rfl rfl rfl ?_) | refine gd rfl rfl rfl (fun hg => ?_) (fun hg => ?_) | refine gn rfl rfl rfl (fun hg => ?_) (fun hg => ?_)
    refine f_r [] rfl trivial rfl ⟨?_, rfl⟩; rfl
  | true =>
    rw [hs] at hsh
    simp only [Bool.and_eq_true, decide_eq_true_eq] at hs
    have hsm := shortC_small hs.2
    have hb := cbodies_ok l (by omega) hsm
    have hlen := bodies_len l
    have hsz := bodies_size hs.2
    have hfit := fun seq b => fits_ok l seq b (by omega) hsm
    generalize bodiesOf l = bs at hb hlen hsz hfit
    repeat' first | refine wr (by omega) ?_ | refine ln ?_ | refine stp lay_ok rfl ?_ | refine fin ?_ | refine n_thn ?_ | refine n_blk ?_ | refine e_thn ?_ | refine e_hit ?_ | refine e_miss rfl ?_ | refine r_thn ?_ | refine r_blk ?_ | refine e_rr ?_ | refine r_rr ?_ | refine e_cr ?_ | refine r_cr ?_ | refine .seq ?_ | refine reg ?_ | refine .block ?_ | refine .skip ?_ | refine .ret ?_ | refine .exit ?_ | refine cndT rfl ?_ | refine cndF rfl ?_ | refine c_dec rfl (fun hc => ?_) (fun hc => ?_) | refine c_ndec rfl (fun hc => ?_) (fun hc => ?_) | refine cnd rfl (fun hc => ?_) (fun hc => ?_) | ((first | refine o_none rfl ?_ | refine o_none_ ?_ | refine o_yes rfl rfl rfl ?_ | refine o_yes_ rfl rfl ?_); first | refine st_pure (hup) b15 rfl rfl rfl rfl ?_ | refine st_pureL (hsh) b12 rfl (by (repeat' first | exact AVLeL.nil | refine AVLeL.cons ?_ ?_ | exact AVLe.refl _ | refine AVLe.st ?_ | exact SLe.refl _ | exact SLe.nil _ | exact SLe.sl0 _ | refine SLe.agg ?_ | refine SLe.sl ?_ | refine SLe.iface ?_ | exact SLeL.nil | refine SLeL.cons ?_ ?_ | exact RLe.nil' | refine RLe.cons' rfl ?_ ?_); first | done | fail) rfl rfl rfl ?_ | refine st_pure (hb) b18 rfl rfl rfl rfl ?_) | refine gd rfl rfl rfl (fun hg => ?_) (fun hg => ?_) | refine gn rfl rfl rfl (fun hg => ?_) (fun hg => ?_)
    · refine f_r [] rfl trivial rfl ⟨?_, rfl⟩; rfl
    · refine lpR (fun i => i ≤ bs.length) (fun i => bs.length - i) (fun i => [(8, I i)]) (fun i => []) (0) [0, 1, 5, 7] [] [] rfl rfl rfl (.of [] (by (repeat' first | exact trivial | refine And.intro ?_ ?_ | rfl); first | done | fail) (by (repeat' first | exact trivial | refine And.intro ?_ ?_ | rfl); first | done | fail) rfl) ?_ ?_
      · omega
      intro i hi
      refine nrm rfl rfl ?_
      repeat' first | refine wr (by omega) ?_ | refine ln ?_ | refine stp lay_ok rfl ?_ | refine fin ?_ | refine n_thn ?_ | refine n_blk ?_ | refine e_thn ?_ | refine e_hit ?_ | refine e_miss rfl ?_ | refine r_thn ?_ | refine r_blk ?_ | refine e_rr ?_ | refine r_rr ?_ | refine e_cr ?_ | refine r_cr ?_ | refine .seq ?_ | refine reg ?_ | refine .block ?_ | refine .skip ?_ | refine .ret ?_ | refine .exit ?_ | refine cndT rfl ?_ | refine cndF rfl ?_ | refine c_dec rfl (fun hc => ?_) (fun hc => ?_) | refine c_ndec rfl (fun hc => ?_) (fun hc => ?_) | refine cnd rfl (fun hc => ?_) (fun hc => ?_) | refine gd rfl rfl rfl (fun hg => ?_) (fun hg => ?_) | refine gn rfl rfl rfl (fun hg => ?_) (fun hg => ?_)
      · have hi' : i < bs.length := by omega
        have hat := at_rowS hi'
        have f1 := hfit ((i : Int) + 1) bs[i]
        have f2 := hfit ((i : Int) + 1) (bs[i] ++ ⟨#[120]⟩)
        rw [fits_at hi' hlen, decide_eq_true rfl] at f1
        rw [fits_at hi' hlen, decide_eq_false (size_app_ne _)] at f2
        have hz := hsz bs[i] (List.getElem_mem hi')
        have hz' : bs[i].size + (⟨#[120]⟩ : ByteArray).size ≤ 9223372036854775807 := by
          have h1 : (⟨#[120]⟩ : ByteArray).size = 1 := rfl
          omega
        repeat' first | refine wr (by omega) ?_ | refine ln ?_ | refine stp lay_ok rfl ?_ | refine fin ?_ | refine n_thn ?_ | refine n_blk ?_ | refine e_thn ?_ | refine e_hit ?_ | refine e_miss rfl ?_ | refine r_thn ?_ | refine r_blk ?_ | refine e_rr ?_ | refine r_rr ?_ | refine e_cr ?_ | refine r_cr ?_ | refine .seq ?_ | refine reg ?_ | refine .block ?_ | refine .skip ?_ | refine .ret ?_ | refine .exit ?_ | refine cndT rfl ?_ | refine cndF rfl ?_ | refine c_dec rfl (fun hc => ?_) (fun hc => ?_) | refine c_ndec rfl (fun hc => ?_) (fun hc => ?_) | refine cnd rfl (fun hc => ?_) (fun hc => ?_) | ((first | refine o_none rfl ?_ | refine o_none_ ?_ | refine o_yes rfl rfl rfl ?_ | refine o_yes_ rfl rfl ?_); first | refine st_index (rowS bs[i]) lay_ok rfl rfl rfl rfl (by omega) hat ?_ | refine st_pure (f1) b19 rfl rfl rfl rfl ?_ | refine st_pure (f2) b19 rfl rfl rfl rfl ?_ | refine st_cat rfl rfl hz' ?_) | refine gd rfl rfl rfl (fun hg => ?_) (fun hg => ?_) | refine gn rfl rfl rfl (fun hg => ?_) (fun hg => ?_)
        refine n_rr (i + 1) ?_ (.of [] (by (repeat' first | exact trivial | refine And.intro ?_ ?_ | rfl); first | done | fail) (by (repeat' first | exact trivial | refine And.intro ?_ ?_ | rfl); first | done | fail) rfl) ?_
        · omega
        · exact hi'
      · refine f_r [] rfl trivial rfl ⟨?_, rfl⟩; rfl
      · have f3 := hfit ((bs.length : Int) + 1) body
        rw [fits, if_pos (by omega), if_neg (by omega)] at f3
        repeat' first | refine wr (by omega) ?_ | refine ln ?_ | refine stp lay_ok rfl ?_ | refine fin ?_ | refine n_thn ?_ | refine n_blk ?_ | refine e_thn ?_ | refine e_hit ?_ | refine e_miss rfl ?_ | refine r_thn ?_ | refine r_blk ?_ | refine e_rr ?_ | refine r_rr ?_ | refine e_cr ?_ | refine r_cr ?_ | refine .seq ?_ | refine reg ?_ | refine .block ?_ | refine .skip ?_ | refine .ret ?_ | refine .exit ?_ | refine cndT rfl ?_ | refine cndF rfl ?_ | refine c_dec rfl (fun hc => ?_) (fun hc => ?_) | refine c_ndec rfl (fun hc => ?_) (fun hc => ?_) | refine cnd rfl (fun hc => ?_) (fun hc => ?_) | ((first | refine o_none rfl ?_ | refine o_none_ ?_ | refine o_yes rfl rfl rfl ?_ | refine o_yes_ rfl rfl ?_); first | refine st_pure (f3) b19 rfl rfl rfl rfl ?_) | refine gd rfl rfl rfl (fun hg => ?_) (fun hg => ?_) | refine gn rfl rfl rfl (fun hg => ?_) (fun hg => ?_)
        refine f_r [] rfl trivial rfl ⟨?_, rfl⟩; simp [retOf]
end Go.Proofs.YtcandekalmjfaaaFn
