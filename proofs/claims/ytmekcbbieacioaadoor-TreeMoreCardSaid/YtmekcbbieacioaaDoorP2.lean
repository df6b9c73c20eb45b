/- Texts that the law's proof uses: part 2. -/
import Derived.Test.YtmekcbbieacioaaDoorP1
import Derived.Sort.Walk0
import Derived.WalkKit
import Derived.LaidEql
import Derived.Stop.Asserts
import Derived.RowKitTokens
import Derived.Stop.IfaceNil
import Derived.Test.YtmekcbbieacioaaDoorAlZp
set_option linter.all false
namespace Go.Proofs.YtmekcbbieacioaaDoorFn
open Go.Proofs.YtmekcbbieacioaaDoorAl Go.Proofs.Tryd
attribute [local irreducible] IntKind.wrap CodeOk OpsL OpG ACalls thn inBlk rndR cutR WkR Wk fnR DW ExtOk partsOf
set_option maxHeartbeats 16000000 in
set_option maxRecDepth 4000 in
theorem parteq_ok (g : Nat) (bg : HasBody prog g) (cm : EV → EV → Int) (hcm : ∀ x y, ACalls prog g 0 [.st (.agg (rowE x)), .st (.agg (rowE y))] [] fun r h => r = I (cm x y) ∧ h = [])
    (d0 : Array EV) (a b pv : Nat) (hap : a ≤ pv) (hpb : pv < b) (hb : b ≤ d0.size) (hn : d0.size ≤ 4000000000) :
    ACalls prog 46 1 [.lsl 0 3 0 d0.size, I a, I b, I pv, fnG g] [(0, .arr 3 (rA d0))] fun r h =>
      r = I (Sort.partitionEqual (ltC cm) d0 a b pv).1 ∧ h = [(0, .arr 3 (rA (Sort.partitionEqual (ltC cm) d0 a b pv).2))] := by
  have hP : Sort.partitionEqual (ltC cm) d0 a b pv = Sort.partEqLoop (ltC cm) a (a + 1) (b - 1) (Sort.swp d0 a pv) := rfl
  have hat0 := rA_at (d := d0) (i := (a : Int)) (k := a) rfl (by omega)
  have hat1 := rA_at (d := d0) (i := (pv : Int)) (k := pv) rfl (by omega)
  have hst2 := rA_st2 (d := d0) (i := (a : Int)) (j := (pv : Int)) (p := a) (q := pv) rfl rfl (by omega)
  have hfin := rA_swp (d := d0) (i := (a : Int)) (j := (pv : Int)) (p := a) (q := pv) rfl rfl
  have hss := swp_size d0 a pv
  generalize Sort.partitionEqual (ltC cm) d0 a b pv = K at *
  generalize d0[a]! = x0 at *
  generalize d0[pv]! = x1 at *
  generalize Sort.swp d0 a pv = d1 at *
  generalize hn0 : d0.size = n at *
  refine fnC lay_ok func46 rfl rfl rfl rfl rfl ?_
  repeat' first | refine wr (by omega) ?_ | refine ln ?_ | refine stp lay_ok rfl ?_ | refine fin ?_ | refine n_thn ?_ | refine n_blk ?_ | refine e_thn ?_ | refine e_hit ?_ | refine e_miss rfl ?_ | refine r_thn ?_ | refine r_blk ?_ | refine e_rr ?_ | refine r_rr ?_ | refine e_cr ?_ | refine r_cr ?_ | refine .seq ?_ | refine reg ?_ | refine .block ?_ | refine .skip ?_ | refine .ret ?_ | refine .exit ?_ | refine cndT rfl ?_ | refine cndF rfl ?_ | refine c_dec rfl (fun hc => ?_) (fun hc => ?_) | refine c_ndec rfl (fun hc => ?_) (fun hc => ?_) | refine cnd rfl (fun hc => ?_) (fun hc => ?_) | refine gd rfl rfl rfl (fun hg => ?_) (fun hg => ?_) | refine gn rfl rfl rfl (fun hg => ?_) (fun hg => ?_) | refine dwr (by omega) ?_ | refine dwl ?_ | refine dws lay_ok rfl rfl rfl rfl rfl rfl rfl ?_ | refine dwu lay_ok rfl rfl rfl rfl rfl rfl rfl rfl rfl ?_ | refine dw_end ?_ | refine dw_skip rfl rfl rfl ?_ | refine dwn lay_ok rfl rfl rfl rfl rfl ?_ | refine dw_dec rfl rfl rfl (fun hg => ?_) (fun hg => ?_) | refine dw_ndec rfl rfl rfl (fun hg => ?_) (fun hg => ?_)
  refine dreg [(0, [], [14, 15, 16, 17, 18, 19, 20, 21, 22, 23, 24]), (1, [], [13, 15, 16, 17, 18, 19, 20, 21, 22, 23, 24]), (2, [], [13, 14, 16, 17, 18, 19, 20, 21, 22, 23, 24, 25]), (3, [], [13, 14, 15, 17, 18, 19, 20, 21, 22, 23, 24, 25]), (4, [], [13, 14, 15, 16, 18, 21, 22, 23, 24]), (5, [], [13, 14, 15, 16, 17, 21, 22, 23, 24]), (6, [4, 5], [13, 14, 15, 16, 21, 22, 23, 24]), (7, [4, 5, 6], [13, 14, 15, 16, 21, 22, 23, 24]), (8, [], [13, 14, 15, 16, 17, 18, 19, 20, 22]), (9, [], [13, 14, 15, 16, 17, 18, 19, 20, 21]), (10, [8, 9], [13, 14, 15, 16, 17, 18, 19, 20]), (11, [8, 9, 10], [13, 14, 15, 16, 17, 18, 19, 20]), (12, [0, 1, 4, 5, 6, 7, 8, 9, 10, 11], [15, 16]), (13, [0, 1, 4, 5, 6, 7, 8, 9, 10, 11, 12], [15, 16]), (14, [0, 1, 2, 3, 4, 5, 6, 7, 8, 9, 10, 11, 12, 13], []), (15, [0, 1, 2, 3, 4, 5, 6, 7, 8, 9, 10, 11, 12, 13, 14], [])] mixed (by kernel_rfl) ?_
  repeat' first | refine wr (by omega) ?_ | refine ln ?_ | refine stp lay_ok rfl ?_ | refine fin ?_ | refine n_thn ?_ | refine n_blk ?_ | refine e_thn ?_ | refine e_hit ?_ | refine e_miss rfl ?_ | refine r_thn ?_ | refine r_blk ?_ | refine e_rr ?_ | refine r_rr ?_ | refine e_cr ?_ | refine r_cr ?_ | refine .seq ?_ | refine reg ?_ | refine .block ?_ | refine .skip ?_ | refine .ret ?_ | refine .exit ?_ | refine cndT rfl ?_ | refine cndF rfl ?_ | refine c_dec rfl (fun hc => ?_) (fun hc => ?_) | refine c_ndec rfl (fun hc => ?_) (fun hc => ?_) | refine cnd rfl (fun hc => ?_) (fun hc => ?_) | ((first | refine o_none rfl ?_ | refine o_none_ ?_ | refine o_yes rfl rfl rfl ?_ | refine o_yes_ rfl rfl ?_); first | refine st_indexL lay_ok rfl rfl rfl rfl (by omega) (by omega) ?_ | refine st_loadE (rowE x0) lay_ok rfl rfl rfl hat0 rfl rfl rfl ?_ | refine st_loadE (rowE x1) lay_ok rfl rfl rfl hat1 rfl rfl rfl ?_) | refine o_none_ (st_storeE lay_ok rfl rfl rfl hat0 rfl rfl rfl rfl ?_) | refine o_none_ (st_storeE lay_ok rfl rfl rfl hst2 rfl rfl rfl rfl ?_) | refine gd rfl rfl rfl (fun hg => ?_) (fun hg => ?_) | refine gn rfl rfl rfl (fun hg => ?_) (fun hg => ?_) | refine dwr (by omega) ?_ | refine dwl ?_ | refine dws lay_ok rfl rfl rfl rfl rfl rfl rfl ?_ | refine dwu lay_ok rfl rfl rfl rfl rfl rfl rfl rfl rfl ?_ | refine dw_end ?_ | refine dw_skip rfl rfl rfl ?_ | refine dwn lay_ok rfl rfl rfl rfl rfl ?_ | refine dwb rfl rfl rfl rfl rfl (by (first | refine st_indexL lay_ok rfl rfl rfl rfl (by omega) (by omega) ?_ | refine st_loadE (rowE x0) lay_ok rfl rfl rfl hat0 rfl rfl rfl ?_ | refine st_loadE (rowE x1) lay_ok rfl rfl rfl hat1 rfl rfl rfl ?_); exact fin rfl) rfl rfl ?_ | refine dwg rfl rfl rfl rfl rfl (by (first | refine st_indexL lay_ok rfl rfl rfl rfl (by omega) (by omega) ?_ | refine st_loadE (rowE x0) lay_ok rfl rfl rfl hat0 rfl rfl rfl ?_ | refine st_loadE (rowE x1) lay_ok rfl rfl rfl hat1 rfl rfl rfl ?_); exact fin rfl) rfl rfl rfl rfl rfl ?_ | refine dwv rfl rfl rfl rfl (by refine st_storeE lay_ok rfl rfl rfl hat0 rfl rfl rfl rfl ?_; exact fin rfl) rfl rfl rfl rfl ?_ | refine dwv rfl rfl rfl rfl (by refine st_storeE lay_ok rfl rfl rfl hst2 rfl rfl rfl rfl ?_; exact fin rfl) rfl rfl rfl rfl ?_ | refine dw_dec rfl rfl rfl (fun hg => ?_) (fun hg => ?_) | refine dw_ndec rfl rfl rfl (fun hg => ?_) (fun hg => ?_)
  refine lpR (fun (i, j, z, d) => d.size = n ∧ a < i ∧ z = ((j : Nat) : Int) ∧ i ≤ j + 1 ∧ j < b ∧ K = Sort.partEqLoop (ltC cm) a i j d) (fun (i, j, z, d) => j + 1 - i) (fun (i, j, z, d) => [(11, I i), (12, .st (.int .i64 z))]) (fun (i, j, z, d) => [(0, .arr 3 (rA d))]) ((a + 1, b - 1, (b : Int) - 1, d1)) [0, 1, 4] [0] [] rfl rfl rfl (.of [] (by (repeat' first | exact trivial | refine And.intro ?_ ?_ | rfl | exact congrArg (fun r => some (AO.arr 3 r)) hfin); first | done | fail) (by (repeat' first | exact trivial | refine And.intro ?_ ?_ | rfl | exact congrArg (fun r => some (AO.arr 3 r)) hfin); first | done | fail) rfl) ?_ ?_
  · exact ⟨hss, by omega, by omega, by omega, by omega, hP⟩
  rintro ⟨i, j, z, d⟩ ⟨h1, h2, h3, h4, h5, h6⟩
  refine nrm rfl rfl ?_
  clear hat0 hat1 hst2 hfin hP
  have hata := rA_at (d := d) (i := (a : Int)) (k := a) rfl (by omega)
  rw [Sort.partEqLoop_eq] at h6
  generalize hi3 : Sort.scanUp (fun x => !ltC cm d[a]! x) d j i = i3 at *
  generalize hj3 : Sort.scanDown (fun x => ltC cm d[a]! x) d i3 j = j3 at *
  have hsp := Sort.scanUp_spec (fun x => !ltC cm d[a]! x) d j _ i rfl
  rw [hi3] at hsp
  have hsd := Sort.scanDown_spec (fun x => ltC cm d[a]! x) d i3 j
  rw [hj3] at hsd
  have hi3' := hi3.symm
  have hj3' := hj3.symm
  repeat' first | refine cutr (x := .block 2 _) (fun s' => s' = ⟨f46.ntmps, 1, [(0, .lsl 0 3 0 n), (1, I a), (4, fnG g), (11, I i3), (12, .st (.int .i64 z))], [(0, .arr 3 (rA d))]⟩) ?_ ?_ | refine wr (by omega) ?_ | refine ln ?_ | refine stp lay_ok rfl ?_ | refine fin ?_ | refine n_thn ?_ | refine n_blk ?_ | refine e_thn ?_ | refine e_hit ?_ | refine e_miss rfl ?_ | refine r_thn ?_ | refine r_blk ?_ | refine e_rr ?_ | refine r_rr ?_ | refine e_cr ?_ | refine r_cr ?_ | refine .seq ?_ | refine reg ?_ | refine .block ?_ | refine .skip ?_ | refine .ret ?_ | refine .exit ?_ | refine cndT rfl ?_ | refine cndF rfl ?_ | refine c_dec rfl (fun hc => ?_) (fun hc => ?_) | refine c_ndec rfl (fun hc => ?_) (fun hc => ?_) | refine cnd rfl (fun hc => ?_) (fun hc => ?_) | refine gd rfl rfl rfl (fun hg => ?_) (fun hg => ?_) | refine gn rfl rfl rfl (fun hg => ?_) (fun hg => ?_) | refine dwr (by omega) ?_ | refine dwl ?_ | refine dws lay_ok rfl rfl rfl rfl rfl rfl rfl ?_ | refine dwu lay_ok rfl rfl rfl rfl rfl rfl rfl rfl rfl ?_ | refine dw_end ?_ | refine dw_skip rfl rfl rfl ?_ | refine dwn lay_ok rfl rfl rfl rfl rfl ?_ | refine dw_dec rfl rfl rfl (fun hg => ?_) (fun hg => ?_) | refine dw_ndec rfl rfl rfl (fun hg => ?_) (fun hg => ?_)
  ·
    refine lpR (fun i => a < i ∧ i ≤ j + 1 ∧ i3 = Sort.scanUp (fun x => !ltC cm d[a]! x) d j i) (fun i => j + 1 - i) (fun i => [(11, I i)]) (fun i => [(0, .arr 3 (rA d))]) (i) [0, 1, 4, 12] [0] [] rfl rfl rfl (.of [] (by (repeat' first | exact trivial | refine And.intro ?_ ?_ | rfl | rfl); first | done | fail) (by (repeat' first | exact trivial | refine And.intro ?_ ?_ | rfl | rfl); first | done | fail) rfl) ?_ ?_
    · exact ⟨by omega, by omega, by assumption⟩
    rintro i ⟨e1, e2, e3⟩
    refine nrm rfl rfl ?_
    rw [Sort.scanUp] at e3
    by_cases hci : i ≤ j ∧ ¬ cm d[a]! d[i]! < 0
    · rw [if_pos (by simp only [Bool.and_eq_true, decide_eq_true_eq, Bool.not_eq_true', decide_eq_false_iff_not]; exact hci)] at e3
      have hati := rA_at (d := d) (i := (i : Int)) (k := i) rfl (by omega)
      have hcl := hcm d[a]! d[i]!
      repeat' first | refine wr (by omega) ?_ | refine ln ?_ | refine stp lay_ok rfl ?_ | refine fin ?_ | refine n_thn ?_ | refine n_blk ?_ | refine e_thn ?_ | refine e_hit ?_ | refine e_miss rfl ?_ | refine r_thn ?_ | refine r_blk ?_ | refine e_rr ?_ | refine r_rr ?_ | refine e_cr ?_ | refine r_cr ?_ | refine .seq ?_ | refine reg ?_ | refine .block ?_ | refine .skip ?_ | refine .ret ?_ | refine .exit ?_ | refine cndT rfl ?_ | refine cndF rfl ?_ | refine c_dec rfl (fun hc => ?_) (fun hc => ?_) | refine c_ndec rfl (fun hc => ?_) (fun hc => ?_) | refine cnd rfl (fun hc => ?_) (fun hc => ?_) | refine gd rfl rfl rfl (fun hg => ?_) (fun hg => ?_) | refine gn rfl rfl rfl (fun hg => ?_) (fun hg => ?_) | refine dwr (by omega) ?_ | refine dwl ?_ | refine dws lay_ok rfl rfl rfl rfl rfl rfl rfl ?_ | refine dwu lay_ok rfl rfl rfl rfl rfl rfl rfl rfl rfl ?_ | refine dw_end ?_ | refine dw_skip rfl rfl rfl ?_ | refine dwn lay_ok rfl rfl rfl rfl rfl ?_ | refine dw_dec rfl rfl rfl (fun hg => ?_) (fun hg => ?_) | refine dw_ndec rfl rfl rfl (fun hg => ?_) (fun hg => ?_)
      refine dreg [(0, [], [32]), (1, [], [31]), (2, [0, 1], []), (3, [0, 1, 2], []), (4, [0, 1, 2, 3], [36, 37, 38, 39, 40, 41, 42, 43]), (5, [0, 1, 2, 3], [35, 37, 40, 41, 42, 43]), (6, [0, 1, 2, 3], [35, 36, 40, 41, 42, 43]), (7, [0, 1, 2, 3, 5, 6], [35, 40, 41, 42, 43]), (8, [0, 1, 2, 3, 5, 6, 7], [35, 40, 41, 42, 43]), (9, [0, 1, 2, 3], [35, 36, 37, 38, 39, 41]), (10, [0, 1, 2, 3], [35, 36, 37, 38, 39, 40]), (11, [0, 1, 2, 3, 9, 10], [35, 36, 37, 38, 39]), (12, [0, 1, 2, 3, 9, 10, 11], [35, 36, 37, 38, 39]), (13, [0, 1, 2, 3, 4, 5, 6, 7, 8, 9, 10, 11, 12], []), (14, [0, 1, 2, 3, 4, 5, 6, 7, 8, 9, 10, 11, 12, 13], []), (15, [0, 1, 2, 3, 4, 5, 6, 7, 8, 9, 10, 11, 12, 13, 14], []), (16, [0, 1, 2, 3, 4, 5, 6, 7, 8, 9, 10, 11, 12, 13, 14, 15], [])] mixed (by kernel_rfl) ?_
      repeat' first | refine wr (by omega) ?_ | refine ln ?_ | refine stp lay_ok rfl ?_ | refine fin ?_ | refine n_thn ?_ | refine n_blk ?_ | refine e_thn ?_ | refine e_hit ?_ | refine e_miss rfl ?_ | refine r_thn ?_ | refine r_blk ?_ | refine e_rr ?_ | refine r_rr ?_ | refine e_cr ?_ | refine r_cr ?_ | refine .seq ?_ | refine reg ?_ | refine .block ?_ | refine .skip ?_ | refine .ret ?_ | refine .exit ?_ | refine cndT rfl ?_ | refine cndF rfl ?_ | refine c_dec rfl (fun hc => ?_) (fun hc => ?_) | refine c_ndec rfl (fun hc => ?_) (fun hc => ?_) | refine cnd rfl (fun hc => ?_) (fun hc => ?_) | ((first | refine o_none rfl ?_ | refine o_none_ ?_ | refine o_yes rfl rfl rfl ?_ | refine o_yes_ rfl rfl ?_); first | refine st_indexL lay_ok rfl rfl rfl rfl (by omega) (by omega) ?_ | refine st_loadE (rowE d[i]!) lay_ok rfl rfl rfl hati rfl rfl rfl ?_ | refine st_loadE (rowE d[a]!) lay_ok rfl rfl rfl hata rfl rfl rfl ?_ | refine st_pure (hcl) bg rfl rfl rfl rfl ?_) | refine gd rfl rfl rfl (fun hg => ?_) (fun hg => ?_) | refine gn rfl rfl rfl (fun hg => ?_) (fun hg => ?_) | refine dwr (by omega) ?_ | refine dwl ?_ | refine dws lay_ok rfl rfl rfl rfl rfl rfl rfl ?_ | refine dwu lay_ok rfl rfl rfl rfl rfl rfl rfl rfl rfl ?_ | refine dw_end ?_ | refine dw_skip rfl rfl rfl ?_ | refine dwn lay_ok rfl rfl rfl rfl rfl ?_ | refine dwb rfl rfl rfl rfl rfl (by (first | refine st_indexL lay_ok rfl rfl rfl rfl (by omega) (by omega) ?_ | refine st_loadE (rowE d[i]!) lay_ok rfl rfl rfl hati rfl rfl rfl ?_ | refine st_loadE (rowE d[a]!) lay_ok rfl rfl rfl hata rfl rfl rfl ?_ | refine st_pure (hcl) bg rfl rfl rfl rfl ?_); exact fin rfl) rfl rfl ?_ | refine dwg rfl rfl rfl rfl rfl (by (first | refine st_indexL lay_ok rfl rfl rfl rfl (by omega) (by omega) ?_ | refine st_loadE (rowE d[i]!) lay_ok rfl rfl rfl hati rfl rfl rfl ?_ | refine st_loadE (rowE d[a]!) lay_ok rfl rfl rfl hata rfl rfl rfl ?_ | refine st_pure (hcl) bg rfl rfl rfl rfl ?_); exact fin rfl) rfl rfl rfl rfl rfl ?_ | refine dw_dec rfl rfl rfl (fun hg => ?_) (fun hg => ?_) | refine dw_ndec rfl rfl rfl (fun hg => ?_) (fun hg => ?_)
      all_goals first
        | (exfalso; omega)
        | skip
      refine n_rr (i + 1) ?_ (.of [0] (by (repeat' first | exact trivial | refine And.intro ?_ ?_ | rfl); first | done | fail) (by (repeat' first | exact trivial | refine And.intro ?_ ?_ | rfl); first | done | fail) rfl) ?_
      · show j + 1 - (i + 1) < j + 1 - i; omega
      · exact ⟨by omega, by omega, e3⟩
    · rw [if_neg (by simp only [Bool.and_eq_true, decide_eq_true_eq, Bool.not_eq_true', decide_eq_false_iff_not]; exact hci)] at e3
      subst e3
      by_cases hij : i3 ≤ j
      · have hati := rA_at (d := d) (i := (i3 : Int)) (k := i3) rfl (by omega)
        have hcl := hcm d[a]! d[i3]!
        repeat' first | refine wr (by omega) ?_ | refine ln ?_ | refine stp lay_ok rfl ?_ | refine fin ?_ | refine n_thn ?_ | refine n_blk ?_ | refine e_thn ?_ | refine e_hit ?_ | refine e_miss rfl ?_ | refine r_thn ?_ | refine r_blk ?_ | refine e_rr ?_ | refine r_rr ?_ | refine e_cr ?_ | refine r_cr ?_ | refine .seq ?_ | refine reg ?_ | refine .block ?_ | refine .skip ?_ | refine .ret ?_ | refine .exit ?_ | refine cndT rfl ?_ | refine cndF rfl ?_ | refine c_dec rfl (fun hc => ?_) (fun hc => ?_) | refine c_ndec rfl (fun hc => ?_) (fun hc => ?_) | refine cnd rfl (fun hc => ?_) (fun hc => ?_) | refine gd rfl rfl rfl (fun hg => ?_) (fun hg => ?_) | refine gn rfl rfl rfl (fun hg => ?_) (fun hg => ?_) | refine dwr (by omega) ?_ | refine dwl ?_ | refine dws lay_ok rfl rfl rfl rfl rfl rfl rfl ?_ | refine dwu lay_ok rfl rfl rfl rfl rfl rfl rfl rfl rfl ?_ | refine dw_end ?_ | refine dw_skip rfl rfl rfl ?_ | refine dwn lay_ok rfl rfl rfl rfl rfl ?_ | refine dw_dec rfl rfl rfl (fun hg => ?_) (fun hg => ?_) | refine dw_ndec rfl rfl rfl (fun hg => ?_) (fun hg => ?_)
        refine dreg [(0, [], [32]), (1, [], [31]), (2, [0, 1], []), (3, [0, 1, 2], []), (4, [0, 1, 2, 3], [36, 37, 38, 39, 40, 41, 42, 43]), (5, [0, 1, 2, 3], [35, 37, 40, 41, 42, 43]), (6, [0, 1, 2, 3], [35, 36, 40, 41, 42, 43]), (7, [0, 1, 2, 3, 5, 6], [35, 40, 41, 42, 43]), (8, [0, 1, 2, 3, 5, 6, 7], [35, 40, 41, 42, 43]), (9, [0, 1, 2, 3], [35, 36, 37, 38, 39, 41]), (10, [0, 1, 2, 3], [35, 36, 37, 38, 39, 40]), (11, [0, 1, 2, 3, 9, 10], [35, 36, 37, 38, 39]), (12, [0, 1, 2, 3, 9, 10, 11], [35, 36, 37, 38, 39]), (13, [0, 1, 2, 3, 4, 5, 6, 7, 8, 9, 10, 11, 12], []), (14, [0, 1, 2, 3, 4, 5, 6, 7, 8, 9, 10, 11, 12, 13], []), (15, [0, 1, 2, 3, 4, 5, 6, 7, 8, 9, 10, 11, 12, 13, 14], []), (16, [0, 1, 2, 3, 4, 5, 6, 7, 8, 9, 10, 11, 12, 13, 14, 15], [])] mixed (by kernel_rfl) ?_
        repeat' first | refine wr (by omega) ?_ | refine ln ?_ | refine stp lay_ok rfl ?_ | refine fin ?_ | refine n_thn ?_ | refine n_blk ?_ | refine e_thn ?_ | refine e_hit ?_ | refine e_miss rfl ?_ | refine r_thn ?_ | refine r_blk ?_ | refine e_rr ?_ | refine r_rr ?_ | refine e_cr ?_ | refine r_cr ?_ | refine .seq ?_ | refine reg ?_ | refine .block ?_ | refine .skip ?_ | refine .ret ?_ | refine .exit ?_ | refine cndT rfl ?_ | refine cndF rfl ?_ | refine c_dec rfl (fun hc => ?_) (fun hc => ?_) | refine c_ndec rfl (fun hc => ?_) (fun hc => ?_) | refine cnd rfl (fun hc => ?_) (fun hc => ?_) | ((first | refine o_none rfl ?_ | refine o_none_ ?_ | refine o_yes rfl rfl rfl ?_ | refine o_yes_ rfl rfl ?_); first | refine st_indexL lay_ok rfl rfl rfl rfl (by omega) (by omega) ?_ | refine st_loadE (rowE d[i3]!) lay_ok rfl rfl rfl hati rfl rfl rfl ?_ | refine st_loadE (rowE d[a]!) lay_ok rfl rfl rfl hata rfl rfl rfl ?_ | refine st_pure (hcl) bg rfl rfl rfl rfl ?_) | refine gd rfl rfl rfl (fun hg => ?_) (fun hg => ?_) | refine gn rfl rfl rfl (fun hg => ?_) (fun hg => ?_) | refine dwr (by omega) ?_ | refine dwl ?_ | refine dws lay_ok rfl rfl rfl rfl rfl rfl rfl ?_ | refine dwu lay_ok rfl rfl rfl rfl rfl rfl rfl rfl rfl ?_ | refine dw_end ?_ | refine dw_skip rfl rfl rfl ?_ | refine dwn lay_ok rfl rfl rfl rfl rfl ?_ | refine dwb rfl rfl rfl rfl rfl (by (first | refine st_indexL lay_ok rfl rfl rfl rfl (by omega) (by omega) ?_ | refine st_loadE (rowE d[i3]!) lay_ok rfl rfl rfl hati rfl rfl rfl ?_ | refine st_loadE (rowE d[a]!) lay_ok rfl rfl rfl hata rfl rfl rfl ?_ | refine st_pure (hcl) bg rfl rfl rfl rfl ?_); exact fin rfl) rfl rfl ?_ | refine dwg rfl rfl rfl rfl rfl (by (first | refine st_indexL lay_ok rfl rfl rfl rfl (by omega) (by omega) ?_ | refine st_loadE (rowE d[i3]!) lay_ok rfl rfl rfl hati rfl rfl rfl ?_ | refine st_loadE (rowE d[a]!) lay_ok rfl rfl rfl hata rfl rfl rfl ?_ | refine st_pure (hcl) bg rfl rfl rfl rfl ?_); exact fin rfl) rfl rfl rfl rfl rfl ?_ | refine dw_dec rfl rfl rfl (fun hg => ?_) (fun hg => ?_) | refine dw_ndec rfl rfl rfl (fun hg => ?_) (fun hg => ?_)
        all_goals first
          | (exfalso; omega)
          | skip
        refine n_cr _ (.of [0] (by (repeat' first | exact trivial | refine And.intro ?_ ?_ | rfl); first | done | fail) (by (repeat' first | exact trivial | refine And.intro ?_ ?_ | rfl); first | done | fail) rfl) (Nat.le_refl _) rfl
      · repeat' first | refine wr (by omega) ?_ | refine ln ?_ | refine stp lay_ok rfl ?_ | refine fin ?_ | refine n_thn ?_ | refine n_blk ?_ | refine e_thn ?_ | refine e_hit ?_ | refine e_miss rfl ?_ | refine r_thn ?_ | refine r_blk ?_ | refine e_rr ?_ | refine r_rr ?_ | refine e_cr ?_ | refine r_cr ?_ | refine .seq ?_ | refine reg ?_ | refine .block ?_ | refine .skip ?_ | refine .ret ?_ | refine .exit ?_ | refine cndT rfl ?_ | refine cndF rfl ?_ | refine c_dec rfl (fun hc => ?_) (fun hc => ?_) | refine c_ndec rfl (fun hc => ?_) (fun hc => ?_) | refine cnd rfl (fun hc => ?_) (fun hc => ?_) | refine gd rfl rfl rfl (fun hg => ?_) (fun hg => ?_) | refine gn rfl rfl rfl (fun hg => ?_) (fun hg => ?_) | refine dwr (by omega) ?_ | refine dwl ?_ | refine dws lay_ok rfl rfl rfl rfl rfl rfl rfl ?_ | refine dwu lay_ok rfl rfl rfl rfl rfl rfl rfl rfl rfl ?_ | refine dw_end ?_ | refine dw_skip rfl rfl rfl ?_ | refine dwn lay_ok rfl rfl rfl rfl rfl ?_ | refine dw_dec rfl rfl rfl (fun hg => ?_) (fun hg => ?_) | refine dw_ndec rfl rfl rfl (fun hg => ?_) (fun hg => ?_)
        refine dreg [(0, [], [32]), (1, [], [31]), (2, [0, 1], []), (3, [0, 1, 2], []), (4, [0, 1, 2, 3], [36, 37, 38, 39, 40, 41, 42, 43]), (5, [0, 1, 2, 3], [35, 37, 40, 41, 42, 43]), (6, [0, 1, 2, 3], [35, 36, 40, 41, 42, 43]), (7, [0, 1, 2, 3, 5, 6], [35, 40, 41, 42, 43]), (8, [0, 1, 2, 3, 5, 6, 7], [35, 40, 41, 42, 43]), (9, [0, 1, 2, 3], [35, 36, 37, 38, 39, 41]), (10, [0, 1, 2, 3], [35, 36, 37, 38, 39, 40]), (11, [0, 1, 2, 3, 9, 10], [35, 36, 37, 38, 39]), (12, [0, 1, 2, 3, 9, 10, 11], [35, 36, 37, 38, 39]), (13, [0, 1, 2, 3, 4, 5, 6, 7, 8, 9, 10, 11, 12], []), (14, [0, 1, 2, 3, 4, 5, 6, 7, 8, 9, 10, 11, 12, 13], []), (15, [0, 1, 2, 3, 4, 5, 6, 7, 8, 9, 10, 11, 12, 13, 14], []), (16, [0, 1, 2, 3, 4, 5, 6, 7, 8, 9, 10, 11, 12, 13, 14, 15], [])] mixed (by kernel_rfl) ?_
        repeat' first | refine wr (by omega) ?_ | refine ln ?_ | refine stp lay_ok rfl ?_ | refine fin ?_ | refine n_thn ?_ | refine n_blk ?_ | refine e_thn ?_ | refine e_hit ?_ | refine e_miss rfl ?_ | refine r_thn ?_ | refine r_blk ?_ | refine e_rr ?_ | refine r_rr ?_ | refine e_cr ?_ | refine r_cr ?_ | refine .seq ?_ | refine reg ?_ | refine .block ?_ | refine .skip ?_ | refine .ret ?_ | refine .exit ?_ | refine cndT rfl ?_ | refine cndF rfl ?_ | refine c_dec rfl (fun hc => ?_) (fun hc => ?_) | refine c_ndec rfl (fun hc => ?_) (fun hc => ?_) | refine cnd rfl (fun hc => ?_) (fun hc => ?_) | refine gd rfl rfl rfl (fun hg => ?_) (fun hg => ?_) | refine gn rfl rfl rfl (fun hg => ?_) (fun hg => ?_) | refine dwr (by omega) ?_ | refine dwl ?_ | refine dws lay_ok rfl rfl rfl rfl rfl rfl rfl ?_ | refine dwu lay_ok rfl rfl rfl rfl rfl rfl rfl rfl rfl ?_ | refine dw_end ?_ | refine dw_skip rfl rfl rfl ?_ | refine dwn lay_ok rfl rfl rfl rfl rfl ?_ | refine dw_dec rfl rfl rfl (fun hg => ?_) (fun hg => ?_) | refine dw_ndec rfl rfl rfl (fun hg => ?_) (fun hg => ?_)
        all_goals first
          | (exfalso; omega)
          | skip
        refine n_cr _ (.of [0] (by (repeat' first | exact trivial | refine And.intro ?_ ?_ | rfl); first | done | fail) (by (repeat' first | exact trivial | refine And.intro ?_ ?_ | rfl); first | done | fail) rfl) (Nat.le_refl _) rfl
  rintro _ rfl
  refine nrm rfl rfl ?_
  repeat' first | refine cutr (x := .block 4 _) (fun s' => s' = ⟨f46.ntmps, 1, [(0, .lsl 0 3 0 n), (1, I a), (4, fnG g), (11, I i3), (12, I j3)], [(0, .arr 3 (rA d))]⟩) ?_ ?_ | refine wr (by omega) ?_ | refine ln ?_ | refine stp lay_ok rfl ?_ | refine fin ?_ | refine n_thn ?_ | refine n_blk ?_ | refine e_thn ?_ | refine e_hit ?_ | refine e_miss rfl ?_ | refine r_thn ?_ | refine r_blk ?_ | refine e_rr ?_ | refine r_rr ?_ | refine e_cr ?_ | refine r_cr ?_ | refine .seq ?_ | refine reg ?_ | refine .block ?_ | refine .skip ?_ | refine .ret ?_ | refine .exit ?_ | refine cndT rfl ?_ | refine cndF rfl ?_ | refine c_dec rfl (fun hc => ?_) (fun hc => ?_) | refine c_ndec rfl (fun hc => ?_) (fun hc => ?_) | refine cnd rfl (fun hc => ?_) (fun hc => ?_) | refine gd rfl rfl rfl (fun hg => ?_) (fun hg => ?_) | refine gn rfl rfl rfl (fun hg => ?_) (fun hg => ?_) | refine dwr (by omega) ?_ | refine dwl ?_ | refine dws lay_ok rfl rfl rfl rfl rfl rfl rfl ?_ | refine dwu lay_ok rfl rfl rfl rfl rfl rfl rfl rfl rfl ?_ | refine dw_end ?_ | refine dw_skip rfl rfl rfl ?_ | refine dwn lay_ok rfl rfl rfl rfl rfl ?_ | refine dw_dec rfl rfl rfl (fun hg => ?_) (fun hg => ?_) | refine dw_ndec rfl rfl rfl (fun hg => ?_) (fun hg => ?_)
  ·
    refine lpR (fun (j, z) => z = ((j : Nat) : Int) ∧ j < n ∧ i3 ≤ j + 1 ∧ j3 = Sort.scanDown (fun x => ltC cm d[a]! x) d i3 j) (fun (j, z) => j) (fun (j, z) => [(12, .st (.int .i64 z))]) (fun (j, z) => []) ((j, z)) [0, 1, 4, 11] [] [] rfl rfl rfl (.of [] (by (repeat' first | exact trivial | refine And.intro ?_ ?_ | rfl); first | done | fail) (by (repeat' first | exact trivial | refine And.intro ?_ ?_ | rfl); first | done | fail) rfl) ?_ ?_
    · exact ⟨by omega, by omega, by omega, by assumption⟩
    rintro ⟨j, z⟩ ⟨e0, e1, e2, e3⟩
    refine nrm rfl rfl ?_
    by_cases hj0 : j = 0
    · subst hj0
      rw [Sort.scanDown] at e3
      repeat' first | refine wr (by omega) ?_ | refine ln ?_ | refine stp lay_ok rfl ?_ | refine fin ?_ | refine n_thn ?_ | refine n_blk ?_ | refine e_thn ?_ | refine e_hit ?_ | refine e_miss rfl ?_ | refine r_thn ?_ | refine r_blk ?_ | refine e_rr ?_ | refine r_rr ?_ | refine e_cr ?_ | refine r_cr ?_ | refine .seq ?_ | refine reg ?_ | refine .block ?_ | refine .skip ?_ | refine .ret ?_ | refine .exit ?_ | refine cndT rfl ?_ | refine cndF rfl ?_ | refine c_dec rfl (fun hc => ?_) (fun hc => ?_) | refine c_ndec rfl (fun hc => ?_) (fun hc => ?_) | refine cnd rfl (fun hc => ?_) (fun hc => ?_) | refine gd rfl rfl rfl (fun hg => ?_) (fun hg => ?_) | refine gn rfl rfl rfl (fun hg => ?_) (fun hg => ?_) | refine dwr (by omega) ?_ | refine dwl ?_ | refine dws lay_ok rfl rfl rfl rfl rfl rfl rfl ?_ | refine dwu lay_ok rfl rfl rfl rfl rfl rfl rfl rfl rfl ?_ | refine dw_end ?_ | refine dw_skip rfl rfl rfl ?_ | refine dwn lay_ok rfl rfl rfl rfl rfl ?_ | refine dw_dec rfl rfl rfl (fun hg => ?_) (fun hg => ?_) | refine dw_ndec rfl rfl rfl (fun hg => ?_) (fun hg => ?_)
      refine dreg [(0, [], [51]), (1, [], [50]), (2, [0, 1], []), (3, [0, 1, 2], []), (4, [0, 1, 2, 3], [55, 56, 57, 58, 59, 60, 61, 62]), (5, [0, 1, 2, 3], [54, 56, 59, 60, 61, 62]), (6, [0, 1, 2, 3], [54, 55, 59, 60, 61, 62]), (7, [0, 1, 2, 3, 5, 6], [54, 59, 60, 61, 62]), (8, [0, 1, 2, 3, 5, 6, 7], [54, 59, 60, 61, 62]), (9, [0, 1, 2, 3], [54, 55, 56, 57, 58, 60]), (10, [0, 1, 2, 3], [54, 55, 56, 57, 58, 59]), (11, [0, 1, 2, 3, 9, 10], [54, 55, 56, 57, 58]), (12, [0, 1, 2, 3, 9, 10, 11], [54, 55, 56, 57, 58]), (13, [0, 1, 2, 3, 4, 5, 6, 7, 8, 9, 10, 11, 12], []), (14, [0, 1, 2, 3, 4, 5, 6, 7, 8, 9, 10, 11, 12, 13], []), (15, [0, 1, 2, 3, 4, 5, 6, 7, 8, 9, 10, 11, 12, 13, 14], [])] mixed (by kernel_rfl) ?_
      repeat' first | refine wr (by omega) ?_ | refine ln ?_ | refine stp lay_ok rfl ?_ | refine fin ?_ | refine n_thn ?_ | refine n_blk ?_ | refine e_thn ?_ | refine e_hit ?_ | refine e_miss rfl ?_ | refine r_thn ?_ | refine r_blk ?_ | refine e_rr ?_ | refine r_rr ?_ | refine e_cr ?_ | refine r_cr ?_ | refine .seq ?_ | refine reg ?_ | refine .block ?_ | refine .skip ?_ | refine .ret ?_ | refine .exit ?_ | refine cndT rfl ?_ | refine cndF rfl ?_ | refine c_dec rfl (fun hc => ?_) (fun hc => ?_) | refine c_ndec rfl (fun hc => ?_) (fun hc => ?_) | refine cnd rfl (fun hc => ?_) (fun hc => ?_) | refine gd rfl rfl rfl (fun hg => ?_) (fun hg => ?_) | refine gn rfl rfl rfl (fun hg => ?_) (fun hg => ?_) | refine dwr (by omega) ?_ | refine dwl ?_ | refine dws lay_ok rfl rfl rfl rfl rfl rfl rfl ?_ | refine dwu lay_ok rfl rfl rfl rfl rfl rfl rfl rfl rfl ?_ | refine dw_end ?_ | refine dw_skip rfl rfl rfl ?_ | refine dwn lay_ok rfl rfl rfl rfl rfl ?_ | refine dw_dec rfl rfl rfl (fun hg => ?_) (fun hg => ?_) | refine dw_ndec rfl rfl rfl (fun hg => ?_) (fun hg => ?_)
      all_goals first
        | (exfalso; omega)
        | skip
      refine n_cr _ (.of [0] (by (repeat' first | exact trivial | refine And.intro ?_ ?_ | rfl | exact congrArg (fun z : Int => some (AV.st (.int .i64 z))) (show z = ((j3 : Nat) : Int) by omega)); first | done | fail) (by (repeat' first | exact trivial | refine And.intro ?_ ?_ | rfl | exact congrArg (fun z : Int => some (AV.st (.int .i64 z))) (show z = ((j3 : Nat) : Int) by omega)); first | done | fail) rfl) (Nat.le_refl _) rfl
    obtain ⟨j', rfl⟩ : ∃ j', j = j' + 1 := ⟨j - 1, by omega⟩
    rw [Sort.scanDown] at e3
    have hati := rA_at (d := d) (i := z) (k := j' + 1) (by omega) (by omega)
    have hcl := hcm d[a]! d[j' + 1]!
    generalize d[j' + 1]! = xi at *
    by_cases hci : i3 ≤ j' + 1 ∧ cm d[a]! xi < 0
    · rw [if_pos (by simp only [Bool.and_eq_true, decide_eq_true_eq]; exact hci)] at e3
      repeat' first | refine wr (by omega) ?_ | refine ln ?_ | refine stp lay_ok rfl ?_ | refine fin ?_ | refine n_thn ?_ | refine n_blk ?_ | refine e_thn ?_ | refine e_hit ?_ | refine e_miss rfl ?_ | refine r_thn ?_ | refine r_blk ?_ | refine e_rr ?_ | refine r_rr ?_ | refine e_cr ?_ | refine r_cr ?_ | refine .seq ?_ | refine reg ?_ | refine .block ?_ | refine .skip ?_ | refine .ret ?_ | refine .exit ?_ | refine cndT rfl ?_ | refine cndF rfl ?_ | refine c_dec rfl (fun hc => ?_) (fun hc => ?_) | refine c_ndec rfl (fun hc => ?_) (fun hc => ?_) | refine cnd rfl (fun hc => ?_) (fun hc => ?_) | refine gd rfl rfl rfl (fun hg => ?_) (fun hg => ?_) | refine gn rfl rfl rfl (fun hg => ?_) (fun hg => ?_) | refine dwr (by omega) ?_ | refine dwl ?_ | refine dws lay_ok rfl rfl rfl rfl rfl rfl rfl ?_ | refine dwu lay_ok rfl rfl rfl rfl rfl rfl rfl rfl rfl ?_ | refine dw_end ?_ | refine dw_skip rfl rfl rfl ?_ | refine dwn lay_ok rfl rfl rfl rfl rfl ?_ | refine dw_dec rfl rfl rfl (fun hg => ?_) (fun hg => ?_) | refine dw_ndec rfl rfl rfl (fun hg => ?_) (fun hg => ?_)
      refine dreg [(0, [], [51]), (1, [], [50]), (2, [0, 1], []), (3, [0, 1, 2], []), (4, [0, 1, 2, 3], [55, 56, 57, 58, 59, 60, 61, 62]), (5, [0, 1, 2, 3], [54, 56, 59, 60, 61, 62]), (6, [0, 1, 2, 3], [54, 55, 59, 60, 61, 62]), (7, [0, 1, 2, 3, 5, 6], [54, 59, 60, 61, 62]), (8, [0, 1, 2, 3, 5, 6, 7], [54, 59, 60, 61, 62]), (9, [0, 1, 2, 3], [54, 55, 56, 57, 58, 60]), (10, [0, 1, 2, 3], [54, 55, 56, 57, 58, 59]), (11, [0, 1, 2, 3, 9, 10], [54, 55, 56, 57, 58]), (12, [0, 1, 2, 3, 9, 10, 11], [54, 55, 56, 57, 58]), (13, [0, 1, 2, 3, 4, 5, 6, 7, 8, 9, 10, 11, 12], []), (14, [0, 1, 2, 3, 4, 5, 6, 7, 8, 9, 10, 11, 12, 13], []), (15, [0, 1, 2, 3, 4, 5, 6, 7, 8, 9, 10, 11, 12, 13, 14], [])] mixed (by kernel_rfl) ?_
      repeat' first | refine wr (by omega) ?_ | refine ln ?_ | refine stp lay_ok rfl ?_ | refine fin ?_ | refine n_thn ?_ | refine n_blk ?_ | refine e_thn ?_ | refine e_hit ?_ | refine e_miss rfl ?_ | refine r_thn ?_ | refine r_blk ?_ | refine e_rr ?_ | refine r_rr ?_ | refine e_cr ?_ | refine r_cr ?_ | refine .seq ?_ | refine reg ?_ | refine .block ?_ | refine .skip ?_ | refine .ret ?_ | refine .exit ?_ | refine cndT rfl ?_ | refine cndF rfl ?_ | refine c_dec rfl (fun hc => ?_) (fun hc => ?_) | refine c_ndec rfl (fun hc => ?_) (fun hc => ?_) | refine cnd rfl (fun hc => ?_) (fun hc => ?_) | ((first | refine o_none rfl ?_ | refine o_none_ ?_ | refine o_yes rfl rfl rfl ?_ | refine o_yes_ rfl rfl ?_); first | refine st_indexL lay_ok rfl rfl rfl rfl (by omega) (by omega) ?_ | refine st_loadE (rowE xi) lay_ok rfl rfl rfl hati rfl rfl rfl ?_ | refine st_loadE (rowE d[a]!) lay_ok rfl rfl rfl hata rfl rfl rfl ?_ | refine st_pure (hcl) bg rfl rfl rfl rfl ?_) | refine gd rfl rfl rfl (fun hg => ?_) (fun hg => ?_) | refine gn rfl rfl rfl (fun hg => ?_) (fun hg => ?_) | refine dwr (by omega) ?_ | refine dwl ?_ | refine dws lay_ok rfl rfl rfl rfl rfl rfl rfl ?_ | refine dwu lay_ok rfl rfl rfl rfl rfl rfl rfl rfl rfl ?_ | refine dw_end ?_ | refine dw_skip rfl rfl rfl ?_ | refine dwn lay_ok rfl rfl rfl rfl rfl ?_ | refine dwb rfl rfl rfl rfl rfl (by (first | refine st_indexL lay_ok rfl rfl rfl rfl (by omega) (by omega) ?_ | refine st_loadE (rowE xi) lay_ok rfl rfl rfl hati rfl rfl rfl ?_ | refine st_loadE (rowE d[a]!) lay_ok rfl rfl rfl hata rfl rfl rfl ?_ | refine st_pure (hcl) bg rfl rfl rfl rfl ?_); exact fin rfl) rfl rfl ?_ | refine dwg rfl rfl rfl rfl rfl (by (first | refine st_indexL lay_ok rfl rfl rfl rfl (by omega) (by omega) ?_ | refine st_loadE (rowE xi) lay_ok rfl rfl rfl hati rfl rfl rfl ?_ | refine st_loadE (rowE d[a]!) lay_ok rfl rfl rfl hata rfl rfl rfl ?_ | refine st_pure (hcl) bg rfl rfl rfl rfl ?_); exact fin rfl) rfl rfl rfl rfl rfl ?_ | refine dw_dec rfl rfl rfl (fun hg => ?_) (fun hg => ?_) | refine dw_ndec rfl rfl rfl (fun hg => ?_) (fun hg => ?_)
      all_goals first
        | (exfalso; omega)
        | skip
      refine n_rr ((j', z - 1)) ?_ (.of [] (by (repeat' first | exact trivial | refine And.intro ?_ ?_ | rfl); first | done | fail) (by (repeat' first | exact trivial | refine And.intro ?_ ?_ | rfl); first | done | fail) rfl) ?_
      · exact Nat.lt_succ_self _
      · exact ⟨by omega, by omega, by omega, e3⟩
    · rw [if_neg (by simp only [Bool.and_eq_true, decide_eq_true_eq]; exact hci)] at e3
      by_cases hij : i3 ≤ j' + 1
      · repeat' first | refine wr (by omega) ?_ | refine ln ?_ | refine stp lay_ok rfl ?_ | refine fin ?_ | refine n_thn ?_ | refine n_blk ?_ | refine e_thn ?_ | refine e_hit ?_ | refine e_miss rfl ?_ | refine r_thn ?_ | refine r_blk ?_ | refine e_rr ?_ | refine r_rr ?_ | refine e_cr ?_ | refine r_cr ?_ | refine .seq ?_ | refine reg ?_ | refine .block ?_ | refine .skip ?_ | refine .ret ?_ | refine .exit ?_ | refine cndT rfl ?_ | refine cndF rfl ?_ | refine c_dec rfl (fun hc => ?_) (fun hc => ?_) | refine c_ndec rfl (fun hc => ?_) (fun hc => ?_) | refine cnd rfl (fun hc => ?_) (fun hc => ?_) | refine gd rfl rfl rfl (fun hg => ?_) (fun hg => ?_) | refine gn rfl rfl rfl (fun hg => ?_) (fun hg => ?_) | refine dwr (by omega) ?_ | refine dwl ?_ | refine dws lay_ok rfl rfl rfl rfl rfl rfl rfl ?_ | refine dwu lay_ok rfl rfl rfl rfl rfl rfl rfl rfl rfl ?_ | refine dw_end ?_ | refine dw_skip rfl rfl rfl ?_ | refine dwn lay_ok rfl rfl rfl rfl rfl ?_ | refine dw_dec rfl rfl rfl (fun hg => ?_) (fun hg => ?_) | refine dw_ndec rfl rfl rfl (fun hg => ?_) (fun hg => ?_)
        refine dreg [(0, [], [51]), (1, [], [50]), (2, [0, 1], []), (3, [0, 1, 2], []), (4, [0, 1, 2, 3], [55, 56, 57, 58, 59, 60, 61, 62]), (5, [0, 1, 2, 3], [54, 56, 59, 60, 61, 62]), (6, [0, 1, 2, 3], [54, 55, 59, 60, 61, 62]), (7, [0, 1, 2, 3, 5, 6], [54, 59, 60, 61, 62]), (8, [0, 1, 2, 3, 5, 6, 7], [54, 59, 60, 61, 62]), (9, [0, 1, 2, 3], [54, 55, 56, 57, 58, 60]), (10, [0, 1, 2, 3], [54, 55, 56, 57, 58, 59]), (11, [0, 1, 2, 3, 9, 10], [54, 55, 56, 57, 58]), (12, [0, 1, 2, 3, 9, 10, 11], [54, 55, 56, 57, 58]), (13, [0, 1, 2, 3, 4, 5, 6, 7, 8, 9, 10, 11, 12], []), (14, [0, 1, 2, 3, 4, 5, 6, 7, 8, 9, 10, 11, 12, 13], []), (15, [0, 1, 2, 3, 4, 5, 6, 7, 8, 9, 10, 11, 12, 13, 14], [])] mixed (by kernel_rfl) ?_
        repeat' first | refine wr (by omega) ?_ | refine ln ?_ | refine stp lay_ok rfl ?_ | refine fin ?_ | refine n_thn ?_ | refine n_blk ?_ | refine e_thn ?_ | refine e_hit ?_ | refine e_miss rfl ?_ | refine r_thn ?_ | refine r_blk ?_ | refine e_rr ?_ | refine r_rr ?_ | refine e_cr ?_ | refine r_cr ?_ | refine .seq ?_ | refine reg ?_ | refine .block ?_ | refine .skip ?_ | refine .ret ?_ | refine .exit ?_ | refine cndT rfl ?_ | refine cndF rfl ?_ | refine c_dec rfl (fun hc => ?_) (fun hc => ?_) | refine c_ndec rfl (fun hc => ?_) (fun hc => ?_) | refine cnd rfl (fun hc => ?_) (fun hc => ?_) | ((first | refine o_none rfl ?_ | refine o_none_ ?_ | refine o_yes rfl rfl rfl ?_ | refine o_yes_ rfl rfl ?_); first | refine st_indexL lay_ok rfl rfl rfl rfl (by omega) (by omega) ?_ | refine st_loadE (rowE xi) lay_ok rfl rfl rfl hati rfl rfl rfl ?_ | refine st_loadE (rowE d[a]!) lay_ok rfl rfl rfl hata rfl rfl rfl ?_ | refine st_pure (hcl) bg rfl rfl rfl rfl ?_) | refine gd rfl rfl rfl (fun hg => ?_) (fun hg => ?_) | refine gn rfl rfl rfl (fun hg => ?_) (fun hg => ?_) | refine dwr (by omega) ?_ | refine dwl ?_ | refine dws lay_ok rfl rfl rfl rfl rfl rfl rfl ?_ | refine dwu lay_ok rfl rfl rfl rfl rfl rfl rfl rfl rfl ?_ | refine dw_end ?_ | refine dw_skip rfl rfl rfl ?_ | refine dwn lay_ok rfl rfl rfl rfl rfl ?_ | refine dwb rfl rfl rfl rfl rfl (by (first | refine st_indexL lay_ok rfl rfl rfl rfl (by omega) (by omega) ?_ | refine st_loadE (rowE xi) lay_ok rfl rfl rfl hati rfl rfl rfl ?_ | refine st_loadE (rowE d[a]!) lay_ok rfl rfl rfl hata rfl rfl rfl ?_ | refine st_pure (hcl) bg rfl rfl rfl rfl ?_); exact fin rfl) rfl rfl ?_ | refine dwg rfl rfl rfl rfl rfl (by (first | refine st_indexL lay_ok rfl rfl rfl rfl (by omega) (by omega) ?_ | refine st_loadE (rowE xi) lay_ok rfl rfl rfl hati rfl rfl rfl ?_ | refine st_loadE (rowE d[a]!) lay_ok rfl rfl rfl hata rfl rfl rfl ?_ | refine st_pure (hcl) bg rfl rfl rfl rfl ?_); exact fin rfl) rfl rfl rfl rfl rfl ?_ | refine dw_dec rfl rfl rfl (fun hg => ?_) (fun hg => ?_) | refine dw_ndec rfl rfl rfl (fun hg => ?_) (fun hg => ?_)
        all_goals first
          | (exfalso; omega)
          | skip
        refine n_cr _ (.of [0] (by (repeat' first | exact trivial | refine And.intro ?_ ?_ | rfl | exact congrArg (fun z : Int => some (AV.st (.int .i64 z))) (show z = ((j3 : Nat) : Int) by omega)); first | done | fail) (by (repeat' first | exact trivial | refine And.intro ?_ ?_ | rfl | exact congrArg (fun z : Int => some (AV.st (.int .i64 z))) (show z = ((j3 : Nat) : Int) by omega)); first | done | fail) rfl) (Nat.le_refl _) rfl
      · repeat' first | refine wr (by omega) ?_ | refine ln ?_ | refine stp lay_ok rfl ?_ | refine fin ?_ | refine n_thn ?_ | refine n_blk ?_ | refine e_thn ?_ | refine e_hit ?_ | refine e_miss rfl ?_ | refine r_thn ?_ | refine r_blk ?_ | refine e_rr ?_ | refine r_rr ?_ | refine e_cr ?_ | refine r_cr ?_ | refine .seq ?_ | refine reg ?_ | refine .block ?_ | refine .skip ?_ | refine .ret ?_ | refine .exit ?_ | refine cndT rfl ?_ | refine cndF rfl ?_ | refine c_dec rfl (fun hc => ?_) (fun hc => ?_) | refine c_ndec rfl (fun hc => ?_) (fun hc => ?_) | refine cnd rfl (fun hc => ?_) (fun hc => ?_) | refine gd rfl rfl rfl (fun hg => ?_) (fun hg => ?_) | refine gn rfl rfl rfl (fun hg => ?_) (fun hg => ?_) | refine dwr (by omega) ?_ | refine dwl ?_ | refine dws lay_ok rfl rfl rfl rfl rfl rfl rfl ?_ | refine dwu lay_ok rfl rfl rfl rfl rfl rfl rfl rfl rfl ?_ | refine dw_end ?_ | refine dw_skip rfl rfl rfl ?_ | refine dwn lay_ok rfl rfl rfl rfl rfl ?_ | refine dw_dec rfl rfl rfl (fun hg => ?_) (fun hg => ?_) | refine dw_ndec rfl rfl rfl (fun hg => ?_) (fun hg => ?_)
        refine dreg [(0, [], [51]), (1, [], [50]), (2, [0, 1], []), (3, [0, 1, 2], []), (4, [0, 1, 2, 3], [55, 56, 57, 58, 59, 60, 61, 62]), (5, [0, 1, 2, 3], [54, 56, 59, 60, 61, 62]), (6, [0, 1, 2, 3], [54, 55, 59, 60, 61, 62]), (7, [0, 1, 2, 3, 5, 6], [54, 59, 60, 61, 62]), (8, [0, 1, 2, 3, 5, 6, 7], [54, 59, 60, 61, 62]), (9, [0, 1, 2, 3], [54, 55, 56, 57, 58, 60]), (10, [0, 1, 2, 3], [54, 55, 56, 57, 58, 59]), (11, [0, 1, 2, 3, 9, 10], [54, 55, 56, 57, 58]), (12, [0, 1, 2, 3, 9, 10, 11], [54, 55, 56, 57, 58]), (13, [0, 1, 2, 3, 4, 5, 6, 7, 8, 9, 10, 11, 12], []), (14, [0, 1, 2, 3, 4, 5, 6, 7, 8, 9, 10, 11, 12, 13], []), (15, [0, 1, 2, 3, 4, 5, 6, 7, 8, 9, 10, 11, 12, 13, 14], [])] mixed (by kernel_rfl) ?_
        repeat' first | refine wr (by omega) ?_ | refine ln ?_ | refine stp lay_ok rfl ?_ | refine fin ?_ | refine n_thn ?_ | refine n_blk ?_ | refine e_thn ?_ | refine e_hit ?_ | refine e_miss rfl ?_ | refine r_thn ?_ | refine r_blk ?_ | refine e_rr ?_ | refine r_rr ?_ | refine e_cr ?_ | refine r_cr ?_ | refine .seq ?_ | refine reg ?_ | refine .block ?_ | refine .skip ?_ | refine .ret ?_ | refine .exit ?_ | refine cndT rfl ?_ | refine cndF rfl ?_ | refine c_dec rfl (fun hc => ?_) (fun hc => ?_) | refine c_ndec rfl (fun hc => ?_) (fun hc => ?_) | refine cnd rfl (fun hc => ?_) (fun hc => ?_) | refine gd rfl rfl rfl (fun hg => ?_) (fun hg => ?_) | refine gn rfl rfl rfl (fun hg => ?_) (fun hg => ?_) | refine dwr (by omega) ?_ | refine dwl ?_ | refine dws lay_ok rfl rfl rfl rfl rfl rfl rfl ?_ | refine dwu lay_ok rfl rfl rfl rfl rfl rfl rfl rfl rfl ?_ | refine dw_end ?_ | refine dw_skip rfl rfl rfl ?_ | refine dwn lay_ok rfl rfl rfl rfl rfl ?_ | refine dw_dec rfl rfl rfl (fun hg => ?_) (fun hg => ?_) | refine dw_ndec rfl rfl rfl (fun hg => ?_) (fun hg => ?_)
        all_goals first
          | (exfalso; omega)
          | skip
        refine n_cr _ (.of [0] (by (repeat' first | exact trivial | refine And.intro ?_ ?_ | rfl | exact congrArg (fun z : Int => some (AV.st (.int .i64 z))) (show z = ((j3 : Nat) : Int) by omega)); first | done | fail) (by (repeat' first | exact trivial | refine And.intro ?_ ?_ | rfl | exact congrArg (fun z : Int => some (AV.st (.int .i64 z))) (show z = ((j3 : Nat) : Int) by omega)); first | done | fail) rfl) (Nat.le_refl _) rfl
  rintro _ rfl
  refine nrm rfl rfl ?_
  by_cases hgt : i3 > j3
  · rw [if_pos hgt] at h6
    subst h6
    repeat' first | refine wr (by omega) ?_ | refine ln ?_ | refine stp lay_ok rfl ?_ | refine fin ?_ | refine n_thn ?_ | refine n_blk ?_ | refine e_thn ?_ | refine e_hit ?_ | refine e_miss rfl ?_ | refine r_thn ?_ | refine r_blk ?_ | refine e_rr ?_ | refine r_rr ?_ | refine e_cr ?_ | refine r_cr ?_ | refine .seq ?_ | refine reg ?_ | refine .block ?_ | refine .skip ?_ | refine .ret ?_ | refine .exit ?_ | refine cndT rfl ?_ | refine cndF rfl ?_ | refine c_dec rfl (fun hc => ?_) (fun hc => ?_) | refine c_ndec rfl (fun hc => ?_) (fun hc => ?_) | refine cnd rfl (fun hc => ?_) (fun hc => ?_) | refine gd rfl rfl rfl (fun hg => ?_) (fun hg => ?_) | refine gn rfl rfl rfl (fun hg => ?_) (fun hg => ?_) | refine dwr (by omega) ?_ | refine dwl ?_ | refine dws lay_ok rfl rfl rfl rfl rfl rfl rfl ?_ | refine dwu lay_ok rfl rfl rfl rfl rfl rfl rfl rfl rfl ?_ | refine dw_end ?_ | refine dw_skip rfl rfl rfl ?_ | refine dwn lay_ok rfl rfl rfl rfl rfl ?_ | refine dw_dec rfl rfl rfl (fun hg => ?_) (fun hg => ?_) | refine dw_ndec rfl rfl rfl (fun hg => ?_) (fun hg => ?_)
    all_goals first
      | (exfalso; omega)
      | skip
    refine f_r [(0, .arr 3 (rA d))] rfl (by (repeat' first | exact trivial | refine And.intro ?_ ?_ | rfl); first | done | fail) rfl ⟨?_, rfl⟩
    rfl
  rw [if_neg hgt] at h6
  have hne : i3 ≠ j3 := fun e => by
    have h1 := hsp.2.2.2 (by omega)
    have h2 := hsd.2.2.2 (by omega) (by omega)
    rw [← e] at h2; rw [h2] at h1; cases h1
  have hj0 := hsd.1
  have hib := hsp.1
  clear hsp hsd hi3 hj3 hi3' hj3'
  have hat0 := rA_at (d := d) (i := (i3 : Int)) (k := i3) rfl (by omega)
  have hat1 := rA_at (d := d) (i := (j3 : Int)) (k := j3) rfl (by omega)
  have hst2 := rA_st2 (d := d) (i := (i3 : Int)) (j := (j3 : Int)) (p := i3) (q := j3) rfl rfl (by omega)
  have hfin := rA_swp (d := d) (i := (i3 : Int)) (j := (j3 : Int)) (p := i3) (q := j3) rfl rfl
  have hss3 := swp_size d i3 j3
  generalize d[i3]! = x0 at *
  generalize d[j3]! = x1 at *
  repeat' first | refine wr (by omega) ?_ | refine ln ?_ | refine stp lay_ok rfl ?_ | refine fin ?_ | refine n_thn ?_ | refine n_blk ?_ | refine e_thn ?_ | refine e_hit ?_ | refine e_miss rfl ?_ | refine r_thn ?_ | refine r_blk ?_ | refine e_rr ?_ | refine r_rr ?_ | refine e_cr ?_ | refine r_cr ?_ | refine .seq ?_ | refine reg ?_ | refine .block ?_ | refine .skip ?_ | refine .ret ?_ | refine .exit ?_ | refine cndT rfl ?_ | refine cndF rfl ?_ | refine c_dec rfl (fun hc => ?_) (fun hc => ?_) | refine c_ndec rfl (fun hc => ?_) (fun hc => ?_) | refine cnd rfl (fun hc => ?_) (fun hc => ?_) | refine gd rfl rfl rfl (fun hg => ?_) (fun hg => ?_) | refine gn rfl rfl rfl (fun hg => ?_) (fun hg => ?_) | refine dwr (by omega) ?_ | refine dwl ?_ | refine dws lay_ok rfl rfl rfl rfl rfl rfl rfl ?_ | refine dwu lay_ok rfl rfl rfl rfl rfl rfl rfl rfl rfl ?_ | refine dw_end ?_ | refine dw_skip rfl rfl rfl ?_ | refine dwn lay_ok rfl rfl rfl rfl rfl ?_ | refine dw_dec rfl rfl rfl (fun hg => ?_) (fun hg => ?_) | refine dw_ndec rfl rfl rfl (fun hg => ?_) (fun hg => ?_)
  all_goals first
    | (exfalso; omega)
    | skip
  refine dreg [(0, [], [72, 73, 74, 75, 76, 77, 78, 79, 80, 81, 82]), (1, [], [71, 73, 74, 75, 76, 77, 78, 79, 80, 81, 82]), (2, [], [71, 72, 74, 75, 76, 77, 78, 79, 80, 81, 82, 83]), (3, [], [71, 72, 73, 75, 76, 77, 78, 79, 80, 81, 82, 83]), (4, [], [71, 72, 73, 74, 76, 79, 80, 81, 82]), (5, [], [71, 72, 73, 74, 75, 79, 80, 81, 82]), (6, [4, 5], [71, 72, 73, 74, 79, 80, 81, 82]), (7, [4, 5, 6], [71, 72, 73, 74, 79, 80, 81, 82]), (8, [], [71, 72, 73, 74, 75, 76, 77, 78, 80]), (9, [], [71, 72, 73, 74, 75, 76, 77, 78, 79]), (10, [8, 9], [71, 72, 73, 74, 75, 76, 77, 78]), (11, [8, 9, 10], [71, 72, 73, 74, 75, 76, 77, 78]), (12, [0, 1, 4, 5, 6, 7, 8, 9, 10, 11], [73, 74]), (13, [0, 1, 4, 5, 6, 7, 8, 9, 10, 11, 12], [73, 74]), (14, [0, 1, 2, 3, 4, 5, 6, 7, 8, 9, 10, 11, 12, 13], []), (15, [0, 1, 2, 3, 4, 5, 6, 7, 8, 9, 10, 11, 12, 13, 14], [])] mixed (by kernel_rfl) ?_
  repeat' first | refine wr (by omega) ?_ | refine ln ?_ | refine stp lay_ok rfl ?_ | refine fin ?_ | refine n_thn ?_ | refine n_blk ?_ | refine e_thn ?_ | refine e_hit ?_ | refine e_miss rfl ?_ | refine r_thn ?_ | refine r_blk ?_ | refine e_rr ?_ | refine r_rr ?_ | refine e_cr ?_ | refine r_cr ?_ | refine .seq ?_ | refine reg ?_ | refine .block ?_ | refine .skip ?_ | refine .ret ?_ | refine .exit ?_ | refine cndT rfl ?_ | refine cndF rfl ?_ | refine c_dec rfl (fun hc => ?_) (fun hc => ?_) | refine c_ndec rfl (fun hc => ?_) (fun hc => ?_) | refine cnd rfl (fun hc => ?_) (fun hc => ?_) | ((first | refine o_none rfl ?_ | refine o_none_ ?_ | refine o_yes rfl rfl rfl ?_ | refine o_yes_ rfl rfl ?_); first | refine st_indexL lay_ok rfl rfl rfl rfl (by omega) (by omega) ?_ | refine st_loadE (rowE x0) lay_ok rfl rfl rfl hat0 rfl rfl rfl ?_ | refine st_loadE (rowE x1) lay_ok rfl rfl rfl hat1 rfl rfl rfl ?_) | refine o_none_ (st_storeE lay_ok rfl rfl rfl hat0 rfl rfl rfl rfl ?_) | refine o_none_ (st_storeE lay_ok rfl rfl rfl hst2 rfl rfl rfl rfl ?_) | refine gd rfl rfl rfl (fun hg => ?_) (fun hg => ?_) | refine gn rfl rfl rfl (fun hg => ?_) (fun hg => ?_) | refine dwr (by omega) ?_ | refine dwl ?_ | refine dws lay_ok rfl rfl rfl rfl rfl rfl rfl ?_ | refine dwu lay_ok rfl rfl rfl rfl rfl rfl rfl rfl rfl ?_ | refine dw_end ?_ | refine dw_skip rfl rfl rfl ?_ | refine dwn lay_ok rfl rfl rfl rfl rfl ?_ | refine dwb rfl rfl rfl rfl rfl (by (first | refine st_indexL lay_ok rfl rfl rfl rfl (by omega) (by omega) ?_ | refine st_loadE (rowE x0) lay_ok rfl rfl rfl hat0 rfl rfl rfl ?_ | refine st_loadE (rowE x1) lay_ok rfl rfl rfl hat1 rfl rfl rfl ?_); exact fin rfl) rfl rfl ?_ | refine dwg rfl rfl rfl rfl rfl (by (first | refine st_indexL lay_ok rfl rfl rfl rfl (by omega) (by omega) ?_ | refine st_loadE (rowE x0) lay_ok rfl rfl rfl hat0 rfl rfl rfl ?_ | refine st_loadE (rowE x1) lay_ok rfl rfl rfl hat1 rfl rfl rfl ?_); exact fin rfl) rfl rfl rfl rfl rfl ?_ | refine dwv rfl rfl rfl rfl (by refine st_storeE lay_ok rfl rfl rfl hat0 rfl rfl rfl rfl ?_; exact fin rfl) rfl rfl rfl rfl ?_ | refine dwv rfl rfl rfl rfl (by refine st_storeE lay_ok rfl rfl rfl hst2 rfl rfl rfl rfl ?_; exact fin rfl) rfl rfl rfl rfl ?_ | refine dw_dec rfl rfl rfl (fun hg => ?_) (fun hg => ?_) | refine dw_ndec rfl rfl rfl (fun hg => ?_) (fun hg => ?_)
  refine n_rr ((i3 + 1, j3 - 1, (j3 : Int) - 1, Sort.swp d i3 j3)) ?_ (.of [0] (by (repeat' first | exact trivial | refine And.intro ?_ ?_ | rfl | exact congrArg (fun r => some (AO.arr 3 r)) hfin); first | done | fail) (by (repeat' first | exact trivial | refine And.intro ?_ ?_ | rfl | exact congrArg (fun r => some (AO.arr 3 r)) hfin); first | done | fail) rfl) ?_
  · show j3 - 1 + 1 - (i3 + 1) < j + 1 - i; omega
  · exact ⟨hss3.trans h1, by omega, by omega, by omega, by omega, h6⟩
end Go.Proofs.YtmekcbbieacioaaDoorFn
namespace Go.Proofs.YtmekcbbieacioaaDoorFn
open Go.Proofs.YtmekcbbieacioaaDoorAl Go.Proofs.Tryd
attribute [local irreducible] IntKind.wrap CodeOk OpsL OpG ACalls thn inBlk rndR cutR WkR Wk fnR DW ExtOk partsOf
theorem b67 : HasBody prog 67 := ⟨f67, func67, Option.some_ne_none _, by decide⟩
theorem b62 : HasBody prog 62 := ⟨f62, func62, Option.some_ne_none _, by decide⟩
theorem b43 : HasBody prog 43 := ⟨f43, func43, Option.some_ne_none _, by decide⟩
theorem b45 : HasBody prog 45 := ⟨f45, func45, Option.some_ne_none _, by decide⟩
abbrev cmpH (g : Nat) (cm : EV → EV → Int) : Prop := ∀ x y, ACalls prog g 0 [.st (.agg (rowE x)), .st (.agg (rowE y))] [] fun r h => r = I (cm x y) ∧ h = []
set_option maxHeartbeats 4000000 in
set_option maxRecDepth 4000 in
theorem order2_ok (g : Nat) (bg : HasBody prog g) (cm : EV → EV → Int) (hcm : cmpH g cm) (d : Array EV) (n a b s : Nat) (hn0 : d.size = n) (ha : a < n) (hb : b < n) (hn : n ≤ 4000000000) (hs : s ≤ 4000000000) :
    ACalls prog 67 2 [.lsl 0 3 0 n, I a, I b, .ptr 1 0, fnG g] [(0, .arr 3 (rA d)), (1, .cells [I s])] fun r h =>
      r = .tuple [I (Sort.order2 (ltC cm) d a b s).1, I (Sort.order2 (ltC cm) d a b s).2.1] ∧ h = [(0, .arr 3 (rA d)), (1, .cells [I (Sort.order2 (ltC cm) d a b s).2.2])] := by
  have hat0 := rA_at (d := d) (i := (a : Int)) (k := a) rfl (by omega)
  have hat1 := rA_at (d := d) (i := (b : Int)) (k := b) rfl (by omega)
  have hcl := hcm d[b]! d[a]!
  have ho : Sort.order2 (ltC cm) d a b s = if ltC cm d[b]! d[a]! = true then (b, a, s + 1) else (a, b, s) := rfl
  generalize Sort.order2 (ltC cm) d a b s = O at *
  generalize d[a]! = x0 at *
  generalize d[b]! = x1 at *
  refine fnC lay_ok func67 rfl rfl rfl rfl rfl ?_
  repeat' first | refine wr (by omega) ?_ | refine ln ?_ | refine stp lay_ok rfl ?_ | refine fin ?_ | refine n_thn ?_ | refine n_blk ?_ | refine e_thn ?_ | refine e_hit ?_ | refine e_miss rfl ?_ | refine r_thn ?_ | refine r_blk ?_ | refine e_rr ?_ | refine r_rr ?_ | refine e_cr ?_ | refine r_cr ?_ | refine .seq ?_ | refine reg ?_ | refine .block ?_ | refine .skip ?_ | refine .ret ?_ | refine .exit ?_ | refine cndT rfl ?_ | refine cndF rfl ?_ | refine c_dec rfl (fun hc => ?_) (fun hc => ?_) | refine c_ndec rfl (fun hc => ?_) (fun hc => ?_) | refine cnd rfl (fun hc => ?_) (fun hc => ?_) | refine gd rfl rfl rfl (fun hg => ?_) (fun hg => ?_) | refine gn rfl rfl rfl (fun hg => ?_) (fun hg => ?_) | refine dwr (by omega) ?_ | refine dwl ?_ | refine dws lay_ok rfl rfl rfl rfl rfl rfl rfl ?_ | refine dwu lay_ok rfl rfl rfl rfl rfl rfl rfl rfl rfl ?_ | refine dw_end ?_ | refine dw_skip rfl rfl rfl ?_ | refine dwn lay_ok rfl rfl rfl rfl rfl ?_ | refine dw_dec rfl rfl rfl (fun hg => ?_) (fun hg => ?_) | refine dw_ndec rfl rfl rfl (fun hg => ?_) (fun hg => ?_)
  refine dreg [(0, [], [13, 14, 15, 16, 17, 18, 19, 20]), (1, [], [12, 14, 17, 18, 19, 20]), (2, [], [12, 13, 17, 18, 19, 20]), (3, [1, 2], [12, 17, 18, 19, 20]), (4, [1, 2, 3], [12, 17, 18, 19, 20]), (5, [], [12, 13, 14, 15, 16, 18]), (6, [], [12, 13, 14, 15, 16, 17]), (7, [5, 6], [12, 13, 14, 15, 16]), (8, [5, 6, 7], [12, 13, 14, 15, 16]), (9, [0, 1, 2, 3, 4, 5, 6, 7, 8], []), (10, [0, 1, 2, 3, 4, 5, 6, 7, 8, 9], [])] mixed (by kernel_rfl) ?_
  by_cases hlt : cm x1 x0 < 0
  · rw [if_pos (decide_eq_true hlt)] at ho
    subst ho
    repeat' first | refine wr (by omega) ?_ | refine ln ?_ | refine stp lay_ok rfl ?_ | refine fin ?_ | refine n_thn ?_ | refine n_blk ?_ | refine e_thn ?_ | refine e_hit ?_ | refine e_miss rfl ?_ | refine r_thn ?_ | refine r_blk ?_ | refine e_rr ?_ | refine r_rr ?_ | refine e_cr ?_ | refine r_cr ?_ | refine .seq ?_ | refine reg ?_ | refine .block ?_ | refine .skip ?_ | refine .ret ?_ | refine .exit ?_ | refine cndT rfl ?_ | refine cndF rfl ?_ | refine c_dec rfl (fun hc => ?_) (fun hc => ?_) | refine c_ndec rfl (fun hc => ?_) (fun hc => ?_) | refine cnd rfl (fun hc => ?_) (fun hc => ?_) | ((first | refine o_none rfl ?_ | refine o_none_ ?_ | refine o_yes rfl rfl rfl ?_ | refine o_yes_ rfl rfl ?_); first | refine st_indexL lay_ok rfl rfl rfl rfl (by omega) (by omega) ?_ | refine st_loadE (rowE x0) lay_ok rfl rfl rfl hat0 rfl rfl rfl ?_ | refine st_loadE (rowE x1) lay_ok rfl rfl rfl hat1 rfl rfl rfl ?_ | refine st_pure (hcl) bg rfl rfl rfl rfl ?_) | refine gd rfl rfl rfl (fun hg => ?_) (fun hg => ?_) | refine gn rfl rfl rfl (fun hg => ?_) (fun hg => ?_) | refine dwr (by omega) ?_ | refine dwl ?_ | refine dws lay_ok rfl rfl rfl rfl rfl rfl rfl ?_ | refine dwu lay_ok rfl rfl rfl rfl rfl rfl rfl rfl rfl ?_ | refine dw_end ?_ | refine dw_skip rfl rfl rfl ?_ | refine dwn lay_ok rfl rfl rfl rfl rfl ?_ | refine dwb rfl rfl rfl rfl rfl (by (first | refine st_indexL lay_ok rfl rfl rfl rfl (by omega) (by omega) ?_ | refine st_loadE (rowE x0) lay_ok rfl rfl rfl hat0 rfl rfl rfl ?_ | refine st_loadE (rowE x1) lay_ok rfl rfl rfl hat1 rfl rfl rfl ?_ | refine st_pure (hcl) bg rfl rfl rfl rfl ?_); exact fin rfl) rfl rfl ?_ | refine dwg rfl rfl rfl rfl rfl (by (first | refine st_indexL lay_ok rfl rfl rfl rfl (by omega) (by omega) ?_ | refine st_loadE (rowE x0) lay_ok rfl rfl rfl hat0 rfl rfl rfl ?_ | refine st_loadE (rowE x1) lay_ok rfl rfl rfl hat1 rfl rfl rfl ?_ | refine st_pure (hcl) bg rfl rfl rfl rfl ?_); exact fin rfl) rfl rfl rfl rfl rfl ?_ | refine dw_dec rfl rfl rfl (fun hg => ?_) (fun hg => ?_) | refine dw_ndec rfl rfl rfl (fun hg => ?_) (fun hg => ?_)
    all_goals first
      | (exfalso; omega)
      | (refine f_r [(0, .arr 3 (rA d)), (1, .cells [I (s + 1 : Nat)])] rfl (by (repeat' first | exact trivial | refine And.intro ?_ ?_ | rfl); first | done | fail) rfl ⟨?_, rfl⟩; rfl)
  · rw [if_neg (by simp [hlt])] at ho
    subst ho
    repeat' first | refine wr (by omega) ?_ | refine ln ?_ | refine stp lay_ok rfl ?_ | refine fin ?_ | refine n_thn ?_ | refine n_blk ?_ | refine e_thn ?_ | refine e_hit ?_ | refine e_miss rfl ?_ | refine r_thn ?_ | refine r_blk ?_ | refine e_rr ?_ | refine r_rr ?_ | refine e_cr ?_ | refine r_cr ?_ | refine .seq ?_ | refine reg ?_ | refine .block ?_ | refine .skip ?_ | refine .ret ?_ | refine .exit ?_ | refine cndT rfl ?_ | refine cndF rfl ?_ | refine c_dec rfl (fun hc => ?_) (fun hc => ?_) | refine c_ndec rfl (fun hc => ?_) (fun hc => ?_) | refine cnd rfl (fun hc => ?_) (fun hc => ?_) | ((first | refine o_none rfl ?_ | refine o_none_ ?_ | refine o_yes rfl rfl rfl ?_ | refine o_yes_ rfl rfl ?_); first | refine st_indexL lay_ok rfl rfl rfl rfl (by omega) (by omega) ?_ | refine st_loadE (rowE x0) lay_ok rfl rfl rfl hat0 rfl rfl rfl ?_ | refine st_loadE (rowE x1) lay_ok rfl rfl rfl hat1 rfl rfl rfl ?_ | refine st_pure (hcl) bg rfl rfl rfl rfl ?_) | refine gd rfl rfl rfl (fun hg => ?_) (fun hg => ?_) | refine gn rfl rfl rfl (fun hg => ?_) (fun hg => ?_) | refine dwr (by omega) ?_ | refine dwl ?_ | refine dws lay_ok rfl rfl rfl rfl rfl rfl rfl ?_ | refine dwu lay_ok rfl rfl rfl rfl rfl rfl rfl rfl rfl ?_ | refine dw_end ?_ | refine dw_skip rfl rfl rfl ?_ | refine dwn lay_ok rfl rfl rfl rfl rfl ?_ | refine dwb rfl rfl rfl rfl rfl (by (first | refine st_indexL lay_ok rfl rfl rfl rfl (by omega) (by omega) ?_ | refine st_loadE (rowE x0) lay_ok rfl rfl rfl hat0 rfl rfl rfl ?_ | refine st_loadE (rowE x1) lay_ok rfl rfl rfl hat1 rfl rfl rfl ?_ | refine st_pure (hcl) bg rfl rfl rfl rfl ?_); exact fin rfl) rfl rfl ?_ | refine dwg rfl rfl rfl rfl rfl (by (first | refine st_indexL lay_ok rfl rfl rfl rfl (by omega) (by omega) ?_ | refine st_loadE (rowE x0) lay_ok rfl rfl rfl hat0 rfl rfl rfl ?_ | refine st_loadE (rowE x1) lay_ok rfl rfl rfl hat1 rfl rfl rfl ?_ | refine st_pure (hcl) bg rfl rfl rfl rfl ?_); exact fin rfl) rfl rfl rfl rfl rfl ?_ | refine dw_dec rfl rfl rfl (fun hg => ?_) (fun hg => ?_) | refine dw_ndec rfl rfl rfl (fun hg => ?_) (fun hg => ?_)
    all_goals first
      | (exfalso; omega)
      | (refine f_r [(0, .arr 3 (rA d)), (1, .cells [I s])] rfl (by (repeat' first | exact trivial | refine And.intro ?_ ?_ | rfl); first | done | fail) rfl ⟨?_, rfl⟩; rfl)
theorem order2_le (lt : EV → EV → Bool) (d : Array EV) (a b s : Nat) : (((Sort.order2 lt d a b s).1 = a ∧ (Sort.order2 lt d a b s).2.1 = b) ∨ ((Sort.order2 lt d a b s).1 = b ∧ (Sort.order2 lt d a b s).2.1 = a)) ∧ (Sort.order2 lt d a b s).2.2 ≤ s + 1 := by
  unfold Sort.order2
  split
  · exact ⟨.inr ⟨rfl, rfl⟩, Nat.le_refl _⟩
  · exact ⟨.inl ⟨rfl, rfl⟩, Nat.le_succ _⟩
set_option maxHeartbeats 4000000 in
set_option maxRecDepth 4000 in
theorem median_ok (g : Nat) (bg : HasBody prog g) (cm : EV → EV → Int) (hcm : cmpH g cm) (d : Array EV) (n a b c s : Nat) (hn0 : d.size = n) (ha : a < n) (hb : b < n) (hc : c < n) (hn : n ≤ 4000000000) (hs : s ≤ 3000000000) :
    ACalls prog 62 2 [.lsl 0 3 0 n, I a, I b, I c, .ptr 1 0, fnG g] [(0, .arr 3 (rA d)), (1, .cells [I s])] fun r h =>
      r = I (Sort.median (ltC cm) d a b c s).1 ∧ h = [(0, .arr 3 (rA d)), (1, .cells [I (Sort.median (ltC cm) d a b c s).2])] := by
  have hm : Sort.median (ltC cm) d a b c s = ((Sort.order2 (ltC cm) d (Sort.order2 (ltC cm) d a b s).1 (Sort.order2 (ltC cm) d (Sort.order2 (ltC cm) d a b s).2.1 c (Sort.order2 (ltC cm) d a b s).2.2).1 (Sort.order2 (ltC cm) d (Sort.order2 (ltC cm) d a b s).2.1 c (Sort.order2 (ltC cm) d a b s).2.2).2.2).2.1,
    (Sort.order2 (ltC cm) d (Sort.order2 (ltC cm) d a b s).1 (Sort.order2 (ltC cm) d (Sort.order2 (ltC cm) d a b s).2.1 c (Sort.order2 (ltC cm) d a b s).2.2).1 (Sort.order2 (ltC cm) d (Sort.order2 (ltC cm) d a b s).2.1 c (Sort.order2 (ltC cm) d a b s).2.2).2.2).2.2) := rfl
  generalize Sort.median (ltC cm) d a b c s = M at *
  have h1 := order2_ok g bg cm hcm d n a b s hn0 ha hb hn (by omega)
  have l1 := order2_le (ltC cm) d a b s
  generalize Sort.order2 (ltC cm) d a b s = r1 at *
  obtain ⟨a1, b1, s1⟩ := r1
  simp only at *
  have h2 := order2_ok g bg cm hcm d n b1 c s1 hn0 (by omega) hc hn (by omega)
  have l2 := order2_le (ltC cm) d b1 c s1
  generalize Sort.order2 (ltC cm) d b1 c s1 = r2 at *
  obtain ⟨b2, c2, s2⟩ := r2
  simp only at *
  have h3 := order2_ok g bg cm hcm d n a1 b2 s2 hn0 (by omega) (by omega) hn (by omega)
  generalize Sort.order2 (ltC cm) d a1 b2 s2 = r3 at *
  obtain ⟨a3, b3, s3⟩ := r3
  simp only at *
  subst hm
  refine fnC lay_ok func62 rfl rfl rfl rfl rfl ?_
  repeat' first | refine wr (by omega) ?_ | refine ln ?_ | refine stp lay_ok rfl ?_ | refine fin ?_ | refine n_thn ?_ | refine n_blk ?_ | refine e_thn ?_ | refine e_hit ?_ | refine e_miss rfl ?_ | refine r_thn ?_ | refine r_blk ?_ | refine e_rr ?_ | refine r_rr ?_ | refine e_cr ?_ | refine r_cr ?_ | refine .seq ?_ | refine reg ?_ | refine .block ?_ | refine .skip ?_ | refine .ret ?_ | refine .exit ?_ | refine cndT rfl ?_ | refine cndF rfl ?_ | refine c_dec rfl (fun hc => ?_) (fun hc => ?_) | refine c_ndec rfl (fun hc => ?_) (fun hc => ?_) | refine cnd rfl (fun hc => ?_) (fun hc => ?_) | ((first | refine o_none rfl ?_ | refine o_none_ ?_ | refine o_yes rfl rfl rfl ?_ | refine o_yes_ rfl rfl ?_); first | refine st_callF 0 (h1) b67 rfl rfl rfl rfl rfl rfl (by (repeat' first | exact trivial | refine And.intro ?_ ?_ | rfl); first | done | fail) rfl ?_ | refine st_callF 0 (h2) b67 rfl rfl rfl rfl rfl rfl (by (repeat' first | exact trivial | refine And.intro ?_ ?_ | rfl); first | done | fail) rfl ?_ | refine st_callF 0 (h3) b67 rfl rfl rfl rfl rfl rfl (by (repeat' first | exact trivial | refine And.intro ?_ ?_ | rfl); first | done | fail) rfl ?_) | refine gd rfl rfl rfl (fun hg => ?_) (fun hg => ?_) | refine gn rfl rfl rfl (fun hg => ?_) (fun hg => ?_) | refine dwr (by omega) ?_ | refine dwl ?_ | refine dws lay_ok rfl rfl rfl rfl rfl rfl rfl ?_ | refine dwu lay_ok rfl rfl rfl rfl rfl rfl rfl rfl rfl ?_ | refine dw_end ?_ | refine dw_skip rfl rfl rfl ?_ | refine dwn lay_ok rfl rfl rfl rfl rfl ?_ | refine dwb rfl rfl rfl rfl rfl (by (first | refine st_callF 0 (h1) b67 rfl rfl rfl rfl rfl rfl (by (repeat' first | exact trivial | refine And.intro ?_ ?_ | rfl); first | done | fail) rfl ?_ | refine st_callF 0 (h2) b67 rfl rfl rfl rfl rfl rfl (by (repeat' first | exact trivial | refine And.intro ?_ ?_ | rfl); first | done | fail) rfl ?_ | refine st_callF 0 (h3) b67 rfl rfl rfl rfl rfl rfl (by (repeat' first | exact trivial | refine And.intro ?_ ?_ | rfl); first | done | fail) rfl ?_); exact fin rfl) rfl rfl ?_ | refine dwg rfl rfl rfl rfl rfl (by (first | refine st_callF 0 (h1) b67 rfl rfl rfl rfl rfl rfl (by (repeat' first | exact trivial | refine And.intro ?_ ?_ | rfl); first | done | fail) rfl ?_ | refine st_callF 0 (h2) b67 rfl rfl rfl rfl rfl rfl (by (repeat' first | exact trivial | refine And.intro ?_ ?_ | rfl); first | done | fail) rfl ?_ | refine st_callF 0 (h3) b67 rfl rfl rfl rfl rfl rfl (by (repeat' first | exact trivial | refine And.intro ?_ ?_ | rfl); first | done | fail) rfl ?_); exact fin rfl) rfl rfl rfl rfl rfl ?_ | refine dw_dec rfl rfl rfl (fun hg => ?_) (fun hg => ?_) | refine dw_ndec rfl rfl rfl (fun hg => ?_) (fun hg => ?_)
  refine f_r [(0, .arr 3 (rA d)), (1, .cells [I s3])] rfl (by (repeat' first | exact trivial | refine And.intro ?_ ?_ | rfl); first | done | fail) rfl ⟨?_, rfl⟩
  rfl
theorem median_lt (lt : EV → EV → Bool) (d : Array EV) (a b c s : Nat) : ((Sort.median lt d a b c s).1 = a ∨ (Sort.median lt d a b c s).1 = b ∨ (Sort.median lt d a b c s).1 = c) ∧ (Sort.median lt d a b c s).2 ≤ s + 3 := by
  unfold Sort.median
  simp only
  have l1 := order2_le lt d a b s
  generalize Sort.order2 lt d a b s = r1 at *
  have l2 := order2_le lt d r1.2.1 c r1.2.2
  generalize Sort.order2 lt d r1.2.1 c r1.2.2 = r2 at *
  have l3 := order2_le lt d r1.1 r2.1 r2.2.2
  generalize Sort.order2 lt d r1.1 r2.1 r2.2.2 = r3 at *
  omega
def hintI : Sort.Hint → Int
  | .unknown => 0
  | .increasing => 1
  | .decreasing => 2
set_option maxHeartbeats 4000000 in
set_option maxRecDepth 4000 in
theorem pivot_ok (g : Nat) (bg : HasBody prog g) (cm : EV → EV → Int) (hcm : cmpH g cm) (d : Array EV) (n a b : Nat) (hn0 : d.size = n) (hab : a < b) (hb : b ≤ n) (hn : n ≤ 4000000000) (h50 : b - a < 50) (h12 : 12 < b - a) :
    ACalls prog 43 1 [.lsl 0 3 0 n, I a, I b, fnG g] [(0, .arr 3 (rA d))] fun r h =>
      r = .tuple [I (Sort.choosePivot (ltC cm) d a b).1, I (hintI (Sort.choosePivot (ltC cm) d a b).2)] ∧ h = [(0, .arr 3 (rA d))] := by
  have hq := quoI (z := (b : Int) - (a : Int)) (m := b - a) (k := 4) (.inl (by omega)) (by decide) (by omega)
  have hp : Sort.choosePivot (ltC cm) d a b = ((Sort.median (ltC cm) d (a + (b - a) / 4 * 1) (a + (b - a) / 4 * 2) (a + (b - a) / 4 * 3) 0).1, if (Sort.median (ltC cm) d (a + (b - a) / 4 * 1) (a + (b - a) / 4 * 2) (a + (b - a) / 4 * 3) 0).2 = 0 then .increasing else if (Sort.median (ltC cm) d (a + (b - a) / 4 * 1) (a + (b - a) / 4 * 2) (a + (b - a) / 4 * 3) 0).2 = 12 then .decreasing else .unknown) := by
    unfold Sort.choosePivot
    simp only [if_pos (show b - a ≥ 8 by omega), if_neg (show ¬ b - a ≥ 50 by omega)]
  generalize Sort.choosePivot (ltC cm) d a b = CP at *
  have hml := median_lt (ltC cm) d (a + (b - a) / 4 * 1) (a + (b - a) / 4 * 2) (a + (b - a) / 4 * 3) 0
  have hmo := median_ok g bg cm hcm d n (a + (b - a) / 4 * 1) (a + (b - a) / 4 * 2) (a + (b - a) / 4 * 3) 0 hn0 (by omega) (by omega) (by omega) hn (by decide)
  have hqb : (b - a) / 4 ≤ 12 := by omega
  generalize Sort.median (ltC cm) d (a + (b - a) / 4 * 1) (a + (b - a) / 4 * 2) (a + (b - a) / 4 * 3) 0 = M at *
  generalize (b - a) / 4 = q at *
  obtain ⟨m, sw⟩ := M
  simp only at *
  subst hp
  rw [show ((a + q * 1 : Nat) : Int) = (a : Int) + (q : Int) * 1 by omega, show ((a + q * 2 : Nat) : Int) = (a : Int) + (q : Int) * 2 by omega, show ((a + q * 3 : Nat) : Int) = (a : Int) + (q : Int) * 3 by omega] at hmo
  refine fnC lay_ok func43 rfl rfl rfl rfl rfl ?_
  repeat' first | refine wr (by omega) ?_ | refine ln ?_ | refine stp lay_ok rfl ?_ | refine fin ?_ | refine n_thn ?_ | refine n_blk ?_ | refine e_thn ?_ | refine e_hit ?_ | refine e_miss rfl ?_ | refine r_thn ?_ | refine r_blk ?_ | refine e_rr ?_ | refine r_rr ?_ | refine e_cr ?_ | refine r_cr ?_ | refine .seq ?_ | refine reg ?_ | refine .block ?_ | refine .skip ?_ | refine .ret ?_ | refine .exit ?_ | refine cndT rfl ?_ | refine cndF rfl ?_ | refine c_dec rfl (fun hc => ?_) (fun hc => ?_) | refine c_ndec rfl (fun hc => ?_) (fun hc => ?_) | refine cnd rfl (fun hc => ?_) (fun hc => ?_) | ((first | refine o_none rfl ?_ | refine o_none_ ?_ | refine o_yes rfl rfl rfl ?_ | refine o_yes_ rfl rfl ?_); first | refine st_div rfl rfl hq (by decide) ?_ | refine st_callF 0 (hmo) b62 rfl rfl rfl rfl rfl rfl (by (repeat' first | exact trivial | refine And.intro ?_ ?_ | rfl); first | done | fail) rfl ?_) | refine gd rfl rfl rfl (fun hg => ?_) (fun hg => ?_) | refine gn rfl rfl rfl (fun hg => ?_) (fun hg => ?_) | refine dwr (by omega) ?_ | refine dwl ?_ | refine dws lay_ok rfl rfl rfl rfl rfl rfl rfl ?_ | refine dwu lay_ok rfl rfl rfl rfl rfl rfl rfl rfl rfl ?_ | refine dw_end ?_ | refine dw_skip rfl rfl rfl ?_ | refine dwn lay_ok rfl rfl rfl rfl rfl ?_ | refine dwb rfl rfl rfl rfl rfl (by (first | refine st_div rfl rfl hq (by decide) ?_ | refine st_callF 0 (hmo) b62 rfl rfl rfl rfl rfl rfl (by (repeat' first | exact trivial | refine And.intro ?_ ?_ | rfl); first | done | fail) rfl ?_); exact fin rfl) rfl rfl ?_ | refine dwg rfl rfl rfl rfl rfl (by (first | refine st_div rfl rfl hq (by decide) ?_ | refine st_callF 0 (hmo) b62 rfl rfl rfl rfl rfl rfl (by (repeat' first | exact trivial | refine And.intro ?_ ?_ | rfl); first | done | fail) rfl ?_); exact fin rfl) rfl rfl rfl rfl rfl ?_ | refine dw_dec rfl rfl rfl (fun hg => ?_) (fun hg => ?_) | refine dw_ndec rfl rfl rfl (fun hg => ?_) (fun hg => ?_)
  all_goals first
    | (exfalso; omega)
    | (have hs0 : sw = 0 := by omega
       subst hs0
       refine f_r [(0, .arr 3 (rA d))] rfl (by (repeat' first | exact trivial | refine And.intro ?_ ?_ | rfl); first | done | fail) rfl ⟨?_, rfl⟩
       rfl)
    | (refine f_r [(0, .arr 3 (rA d))] rfl (by (repeat' first | exact trivial | refine And.intro ?_ ?_ | rfl); first | done | fail) rfl ⟨?_, rfl⟩
       rw [if_neg (by omega), if_neg (by omega)]; rfl)
theorem pivot_lt (lt : EV → EV → Bool) (d : Array EV) (a b : Nat) (hab : a < b) : a ≤ (Sort.choosePivot lt d a b).1 ∧ (Sort.choosePivot lt d a b).1 < b := Sort.choosePivot_holds lt d a b hab
/-- On short ranges it only looks whether all is sorted. -/
theorem partial_eq (lt : EV → EV → Bool) (d : Array EV) (a b : Nat) (h50 : b - a < 50) : Sort.partialInsertionSort lt d a b = (d, decide (Sort.scanSorted lt d b (a + 1) = b)) := by
  unfold Sort.partialInsertionSort Sort.partialIns
  simp only
  split
  · rename_i h; rw [decide_eq_true h]
  · rename_i h; first | (rw [if_pos h50, decide_eq_false h]; done) | rw [decide_eq_false h]
set_option maxHeartbeats 8000000 in
set_option maxRecDepth 4000 in
theorem partial_ok (g : Nat) (bg : HasBody prog g) (cm : EV → EV → Int) (hcm : cmpH g cm) (d : Array EV) (n a b : Nat) (hn0 : d.size = n) (hab : a < b) (hb : b ≤ n) (hn : n ≤ 4000000000) (h50 : b - a < 50) :
    ACalls prog 45 1 [.lsl 0 3 0 n, I a, I b, fnG g] [(0, .arr 3 (rA d))] fun r h =>
      r = B (Sort.partialInsertionSort (ltC cm) d a b).2 ∧ h = [(0, .arr 3 (rA (Sort.partialInsertionSort (ltC cm) d a b).1))] := by
  rw [partial_eq _ _ _ _ h50]
  simp only
  generalize hS : Sort.scanSorted (ltC cm) d b (a + 1) = S
  refine fnC lay_ok func45 rfl rfl rfl rfl rfl ?_
  repeat' first | refine wr (by omega) ?_ | refine ln ?_ | refine stp lay_ok rfl ?_ | refine fin ?_ | refine n_thn ?_ | refine n_blk ?_ | refine e_thn ?_ | refine e_hit ?_ | refine e_miss rfl ?_ | refine r_thn ?_ | refine r_blk ?_ | refine e_rr ?_ | refine r_rr ?_ | refine e_cr ?_ | refine r_cr ?_ | refine .seq ?_ | refine reg ?_ | refine .block ?_ | refine .skip ?_ | refine .ret ?_ | refine .exit ?_ | refine cndT rfl ?_ | refine cndF rfl ?_ | refine c_dec rfl (fun hc => ?_) (fun hc => ?_) | refine c_ndec rfl (fun hc => ?_) (fun hc => ?_) | refine cnd rfl (fun hc => ?_) (fun hc => ?_) | refine gd rfl rfl rfl (fun hg => ?_) (fun hg => ?_) | refine gn rfl rfl rfl (fun hg => ?_) (fun hg => ?_) | refine dwr (by omega) ?_ | refine dwl ?_ | refine dws lay_ok rfl rfl rfl rfl rfl rfl rfl ?_ | refine dwu lay_ok rfl rfl rfl rfl rfl rfl rfl rfl rfl ?_ | refine dw_end ?_ | refine dw_skip rfl rfl rfl ?_ | refine dwn lay_ok rfl rfl rfl rfl rfl ?_ | refine dw_dec rfl rfl rfl (fun hg => ?_) (fun hg => ?_) | refine dw_ndec rfl rfl rfl (fun hg => ?_) (fun hg => ?_)
  refine lpR (fun u => u = 0) (fun u => u) (fun u => [(9, I (a + 1 : Nat)), (10, I u)]) (fun u => [(0, .arr 3 (rA d))]) (0) [0, 1, 2, 3] [0] [] rfl rfl rfl (.of [] (by (repeat' first | exact trivial | refine And.intro ?_ ?_ | rfl); first | done | fail) (by (repeat' first | exact trivial | refine And.intro ?_ ?_ | rfl); first | done | fail) rfl) ?_ ?_
  · rfl
  rintro u rfl
  refine nrm rfl rfl ?_
  repeat' first | refine wr (by omega) ?_ | refine ln ?_ | refine stp lay_ok rfl ?_ | refine fin ?_ | refine n_thn ?_ | refine n_blk ?_ | refine e_thn ?_ | refine e_hit ?_ | refine e_miss rfl ?_ | refine r_thn ?_ | refine r_blk ?_ | refine e_rr ?_ | refine r_rr ?_ | refine e_cr ?_ | refine r_cr ?_ | refine .seq ?_ | refine reg ?_ | refine .block ?_ | refine .skip ?_ | refine .ret ?_ | refine .exit ?_ | refine cndT rfl ?_ | refine cndF rfl ?_ | refine c_dec rfl (fun hc => ?_) (fun hc => ?_) | refine c_ndec rfl (fun hc => ?_) (fun hc => ?_) | refine cnd rfl (fun hc => ?_) (fun hc => ?_) | refine gd rfl rfl rfl (fun hg => ?_) (fun hg => ?_) | refine gn rfl rfl rfl (fun hg => ?_) (fun hg => ?_) | refine dwr (by omega) ?_ | refine dwl ?_ | refine dws lay_ok rfl rfl rfl rfl rfl rfl rfl ?_ | refine dwu lay_ok rfl rfl rfl rfl rfl rfl rfl rfl rfl ?_ | refine dw_end ?_ | refine dw_skip rfl rfl rfl ?_ | refine dwn lay_ok rfl rfl rfl rfl rfl ?_ | refine dw_dec rfl rfl rfl (fun hg => ?_) (fun hg => ?_) | refine dw_ndec rfl rfl rfl (fun hg => ?_) (fun hg => ?_)
  all_goals first
    | (exfalso; omega)
    | skip
  refine lpR (fun i => a < i ∧ i ≤ b ∧ S = Sort.scanSorted (ltC cm) d b i) (fun i => b - i) (fun i => [(9, I i)]) (fun i => [(0, .arr 3 (rA d))]) (a + 1) [0, 1, 2, 3, 10] [0] [] rfl rfl rfl (.of [] (by (repeat' first | exact trivial | refine And.intro ?_ ?_ | rfl); first | done | fail) (by (repeat' first | exact trivial | refine And.intro ?_ ?_ | rfl); first | done | fail) rfl) ?_ ?_
  · exact ⟨by omega, by omega, hS.symm⟩
  rintro i ⟨e1, e2, e3⟩
  refine nrm rfl rfl ?_
  rw [Sort.scanSorted] at e3
  by_cases hib : i < b
  case neg =>
    rw [if_neg (by simp [hib])] at e3
    subst e3
    repeat' first | refine wr (by omega) ?_ | refine ln ?_ | refine stp lay_ok rfl ?_ | refine fin ?_ | refine n_thn ?_ | refine n_blk ?_ | refine e_thn ?_ | refine e_hit ?_ | refine e_miss rfl ?_ | refine r_thn ?_ | refine r_blk ?_ | refine e_rr ?_ | refine r_rr ?_ | refine e_cr ?_ | refine r_cr ?_ | refine .seq ?_ | refine reg ?_ | refine .block ?_ | refine .skip ?_ | refine .ret ?_ | refine .exit ?_ | refine cndT rfl ?_ | refine cndF rfl ?_ | refine c_dec rfl (fun hc => ?_) (fun hc => ?_) | refine c_ndec rfl (fun hc => ?_) (fun hc => ?_) | refine cnd rfl (fun hc => ?_) (fun hc => ?_) | refine gd rfl rfl rfl (fun hg => ?_) (fun hg => ?_) | refine gn rfl rfl rfl (fun hg => ?_) (fun hg => ?_) | refine dwr (by omega) ?_ | refine dwl ?_ | refine dws lay_ok rfl rfl rfl rfl rfl rfl rfl ?_ | refine dwu lay_ok rfl rfl rfl rfl rfl rfl rfl rfl rfl ?_ | refine dw_end ?_ | refine dw_skip rfl rfl rfl ?_ | refine dwn lay_ok rfl rfl rfl rfl rfl ?_ | refine dw_dec rfl rfl rfl (fun hg => ?_) (fun hg => ?_) | refine dw_ndec rfl rfl rfl (fun hg => ?_) (fun hg => ?_)
    refine dreg [(0, [], [20]), (1, [], [19]), (2, [0, 1], []), (3, [0, 1, 2], []), (4, [0, 1, 2, 3], [24, 25, 26, 27, 28, 29, 30, 31, 32]), (5, [0, 1, 2, 3], [23, 25, 28, 29, 30, 31, 32]), (6, [0, 1, 2, 3], [23, 24, 28, 29, 30, 31, 32]), (7, [0, 1, 2, 3, 5, 6], [23, 28, 29, 30, 31, 32]), (8, [0, 1, 2, 3, 5, 6, 7], [23, 28, 29, 30, 31, 32]), (9, [0, 1, 2, 3], [23, 24, 25, 26, 27, 29, 30]), (10, [0, 1, 2, 3], [23, 24, 25, 26, 27, 28]), (11, [0, 1, 2, 3, 10], [23, 24, 25, 26, 27, 28]), (12, [0, 1, 2, 3, 9, 10, 11], [23, 24, 25, 26, 27]), (13, [0, 1, 2, 3, 9, 10, 11, 12], [23, 24, 25, 26, 27]), (14, [0, 1, 2, 3, 4, 5, 6, 7, 8, 9, 10, 11, 12, 13], []), (15, [0, 1, 2, 3, 4, 5, 6, 7, 8, 9, 10, 11, 12, 13, 14], []), (16, [0, 1, 2, 3, 4, 5, 6, 7, 8, 9, 10, 11, 12, 13, 14, 15], []), (17, [0, 1, 2, 3, 4, 5, 6, 7, 8, 9, 10, 11, 12, 13, 14, 15, 16], [])] mixed (by kernel_rfl) ?_
    repeat' first | refine wr (by omega) ?_ | refine ln ?_ | refine stp lay_ok rfl ?_ | refine fin ?_ | refine n_thn ?_ | refine n_blk ?_ | refine e_thn ?_ | refine e_hit ?_ | refine e_miss rfl ?_ | refine r_thn ?_ | refine r_blk ?_ | refine e_rr ?_ | refine r_rr ?_ | refine e_cr ?_ | refine r_cr ?_ | refine .seq ?_ | refine reg ?_ | refine .block ?_ | refine .skip ?_ | refine .ret ?_ | refine .exit ?_ | refine cndT rfl ?_ | refine cndF rfl ?_ | refine c_dec rfl (fun hc => ?_) (fun hc => ?_) | refine c_ndec rfl (fun hc => ?_) (fun hc => ?_) | refine cnd rfl (fun hc => ?_) (fun hc => ?_) | refine gd rfl rfl rfl (fun hg => ?_) (fun hg => ?_) | refine gn rfl rfl rfl (fun hg => ?_) (fun hg => ?_) | refine dwr (by omega) ?_ | refine dwl ?_ | refine dws lay_ok rfl rfl rfl rfl rfl rfl rfl ?_ | refine dwu lay_ok rfl rfl rfl rfl rfl rfl rfl rfl rfl ?_ | refine dw_end ?_ | refine dw_skip rfl rfl rfl ?_ | refine dwn lay_ok rfl rfl rfl rfl rfl ?_ | refine dw_dec rfl rfl rfl (fun hg => ?_) (fun hg => ?_) | refine dw_ndec rfl rfl rfl (fun hg => ?_) (fun hg => ?_)
    all_goals first
      | (exfalso; omega)
      | (refine f_r [(0, .arr 3 (rA d))] rfl (by (repeat' first | exact trivial | refine And.intro ?_ ?_ | rfl); first | done | fail) rfl ⟨?_, rfl⟩; rw [decide_eq_true (by omega)]; rfl)
      | (refine f_r [(0, .arr 3 (rA d))] rfl (by (repeat' first | exact trivial | refine And.intro ?_ ?_ | rfl); first | done | fail) rfl ⟨?_, rfl⟩; rw [decide_eq_false (by omega)]; rfl)
  have hat0 := rA_at (d := d) (i := (i : Int)) (k := i) rfl (by omega)
  have hat1 := rA_at (d := d) (i := (i : Int) - 1) (k := i - 1) (by omega) (by omega)
  have hcl := hcm d[i]! d[i - 1]!
  generalize d[i]! = x0 at *
  generalize d[i - 1]! = x1 at *
  by_cases hlt : cm x0 x1 < 0
  · rw [if_neg (by simp [hlt])] at e3
    subst e3
    repeat' first | refine wr (by omega) ?_ | refine ln ?_ | refine stp lay_ok rfl ?_ | refine fin ?_ | refine n_thn ?_ | refine n_blk ?_ | refine e_thn ?_ | refine e_hit ?_ | refine e_miss rfl ?_ | refine r_thn ?_ | refine r_blk ?_ | refine e_rr ?_ | refine r_rr ?_ | refine e_cr ?_ | refine r_cr ?_ | refine .seq ?_ | refine reg ?_ | refine .block ?_ | refine .skip ?_ | refine .ret ?_ | refine .exit ?_ | refine cndT rfl ?_ | refine cndF rfl ?_ | refine c_dec rfl (fun hc => ?_) (fun hc => ?_) | refine c_ndec rfl (fun hc => ?_) (fun hc => ?_) | refine cnd rfl (fun hc => ?_) (fun hc => ?_) | refine gd rfl rfl rfl (fun hg => ?_) (fun hg => ?_) | refine gn rfl rfl rfl (fun hg => ?_) (fun hg => ?_) | refine dwr (by omega) ?_ | refine dwl ?_ | refine dws lay_ok rfl rfl rfl rfl rfl rfl rfl ?_ | refine dwu lay_ok rfl rfl rfl rfl rfl rfl rfl rfl rfl ?_ | refine dw_end ?_ | refine dw_skip rfl rfl rfl ?_ | refine dwn lay_ok rfl rfl rfl rfl rfl ?_ | refine dw_dec rfl rfl rfl (fun hg => ?_) (fun hg => ?_) | refine dw_ndec rfl rfl rfl (fun hg => ?_) (fun hg => ?_)
    refine dreg [(0, [], [20]), (1, [], [19]), (2, [0, 1], []), (3, [0, 1, 2], []), (4, [0, 1, 2, 3], [24, 25, 26, 27, 28, 29, 30, 31, 32]), (5, [0, 1, 2, 3], [23, 25, 28, 29, 30, 31, 32]), (6, [0, 1, 2, 3], [23, 24, 28, 29, 30, 31, 32]), (7, [0, 1, 2, 3, 5, 6], [23, 28, 29, 30, 31, 32]), (8, [0, 1, 2, 3, 5, 6, 7], [23, 28, 29, 30, 31, 32]), (9, [0, 1, 2, 3], [23, 24, 25, 26, 27, 29, 30]), (10, [0, 1, 2, 3], [23, 24, 25, 26, 27, 28]), (11, [0, 1, 2, 3, 10], [23, 24, 25, 26, 27, 28]), (12, [0, 1, 2, 3, 9, 10, 11], [23, 24, 25, 26, 27]), (13, [0, 1, 2, 3, 9, 10, 11, 12], [23, 24, 25, 26, 27]), (14, [0, 1, 2, 3, 4, 5, 6, 7, 8, 9, 10, 11, 12, 13], []), (15, [0, 1, 2, 3, 4, 5, 6, 7, 8, 9, 10, 11, 12, 13, 14], []), (16, [0, 1, 2, 3, 4, 5, 6, 7, 8, 9, 10, 11, 12, 13, 14, 15], []), (17, [0, 1, 2, 3, 4, 5, 6, 7, 8, 9, 10, 11, 12, 13, 14, 15, 16], [])] mixed (by kernel_rfl) ?_
    repeat' first | refine wr (by omega) ?_ | refine ln ?_ | refine stp lay_ok rfl ?_ | refine fin ?_ | refine n_thn ?_ | refine n_blk ?_ | refine e_thn ?_ | refine e_hit ?_ | refine e_miss rfl ?_ | refine r_thn ?_ | refine r_blk ?_ | refine e_rr ?_ | refine r_rr ?_ | refine e_cr ?_ | refine r_cr ?_ | refine .seq ?_ | refine reg ?_ | refine .block ?_ | refine .skip ?_ | refine .ret ?_ | refine .exit ?_ | refine cndT rfl ?_ | refine cndF rfl ?_ | refine c_dec rfl (fun hc => ?_) (fun hc => ?_) | refine c_ndec rfl (fun hc => ?_) (fun hc => ?_) | refine cnd rfl (fun hc => ?_) (fun hc => ?_) | ((first | refine o_none rfl ?_ | refine o_none_ ?_ | refine o_yes rfl rfl rfl ?_ | refine o_yes_ rfl rfl ?_); first | refine st_indexL lay_ok rfl rfl rfl rfl (by omega) (by omega) ?_ | refine st_loadE (rowE x0) lay_ok rfl rfl rfl hat0 rfl rfl rfl ?_ | refine st_loadE (rowE x1) lay_ok rfl rfl rfl hat1 rfl rfl rfl ?_ | refine st_pure (hcl) bg rfl rfl rfl rfl ?_) | refine gd rfl rfl rfl (fun hg => ?_) (fun hg => ?_) | refine gn rfl rfl rfl (fun hg => ?_) (fun hg => ?_) | refine dwr (by omega) ?_ | refine dwl ?_ | refine dws lay_ok rfl rfl rfl rfl rfl rfl rfl ?_ | refine dwu lay_ok rfl rfl rfl rfl rfl rfl rfl rfl rfl ?_ | refine dw_end ?_ | refine dw_skip rfl rfl rfl ?_ | refine dwn lay_ok rfl rfl rfl rfl rfl ?_ | refine dwb rfl rfl rfl rfl rfl (by (first | refine st_indexL lay_ok rfl rfl rfl rfl (by omega) (by omega) ?_ | refine st_loadE (rowE x0) lay_ok rfl rfl rfl hat0 rfl rfl rfl ?_ | refine st_loadE (rowE x1) lay_ok rfl rfl rfl hat1 rfl rfl rfl ?_ | refine st_pure (hcl) bg rfl rfl rfl rfl ?_); exact fin rfl) rfl rfl ?_ | refine dwg rfl rfl rfl rfl rfl (by (first | refine st_indexL lay_ok rfl rfl rfl rfl (by omega) (by omega) ?_ | refine st_loadE (rowE x0) lay_ok rfl rfl rfl hat0 rfl rfl rfl ?_ | refine st_loadE (rowE x1) lay_ok rfl rfl rfl hat1 rfl rfl rfl ?_ | refine st_pure (hcl) bg rfl rfl rfl rfl ?_); exact fin rfl) rfl rfl rfl rfl rfl ?_ | refine dw_dec rfl rfl rfl (fun hg => ?_) (fun hg => ?_) | refine dw_ndec rfl rfl rfl (fun hg => ?_) (fun hg => ?_)
    all_goals first
      | (exfalso; omega)
      | (refine f_r [(0, .arr 3 (rA d))] rfl (by (repeat' first | exact trivial | refine And.intro ?_ ?_ | rfl); first | done | fail) rfl ⟨?_, rfl⟩; rw [decide_eq_false (by omega)]; rfl)
  · rw [if_pos (by simp only [Bool.and_eq_true, decide_eq_true_eq, Bool.not_eq_true', decide_eq_false_iff_not]; exact ⟨hib, hlt⟩)] at e3
    repeat' first | refine wr (by omega) ?_ | refine ln ?_ | refine stp lay_ok rfl ?_ | refine fin ?_ | refine n_thn ?_ | refine n_blk ?_ | refine e_thn ?_ | refine e_hit ?_ | refine e_miss rfl ?_ | refine r_thn ?_ | refine r_blk ?_ | refine e_rr ?_ | refine r_rr ?_ | refine e_cr ?_ | refine r_cr ?_ | refine .seq ?_ | refine reg ?_ | refine .block ?_ | refine .skip ?_ | refine .ret ?_ | refine .exit ?_ | refine cndT rfl ?_ | refine cndF rfl ?_ | refine c_dec rfl (fun hc => ?_) (fun hc => ?_) | refine c_ndec rfl (fun hc => ?_) (fun hc => ?_) | refine cnd rfl (fun hc => ?_) (fun hc => ?_) | refine gd rfl rfl rfl (fun hg => ?_) (fun hg => ?_) | refine gn rfl rfl rfl (fun hg => ?_) (fun hg => ?_) | refine dwr (by omega) ?_ | refine dwl ?_ | refine dws lay_ok rfl rfl rfl rfl rfl rfl rfl ?_ | refine dwu lay_ok rfl rfl rfl rfl rfl rfl rfl rfl rfl ?_ | refine dw_end ?_ | refine dw_skip rfl rfl rfl ?_ | refine dwn lay_ok rfl rfl rfl rfl rfl ?_ | refine dw_dec rfl rfl rfl (fun hg => ?_) (fun hg => ?_) | refine dw_ndec rfl rfl rfl (fun hg => ?_) (fun hg => ?_)
    refine dreg [(0, [], [20]), (1, [], [19]), (2, [0, 1], []), (3, [0, 1, 2], []), (4, [0, 1, 2, 3], [24, 25, 26, 27, 28, 29, 30, 31, 32]), (5, [0, 1, 2, 3], [23, 25, 28, 29, 30, 31, 32]), (6, [0, 1, 2, 3], [23, 24, 28, 29, 30, 31, 32]), (7, [0, 1, 2, 3, 5, 6], [23, 28, 29, 30, 31, 32]), (8, [0, 1, 2, 3, 5, 6, 7], [23, 28, 29, 30, 31, 32]), (9, [0, 1, 2, 3], [23, 24, 25, 26, 27, 29, 30]), (10, [0, 1, 2, 3], [23, 24, 25, 26, 27, 28]), (11, [0, 1, 2, 3, 10], [23, 24, 25, 26, 27, 28]), (12, [0, 1, 2, 3, 9, 10, 11], [23, 24, 25, 26, 27]), (13, [0, 1, 2, 3, 9, 10, 11, 12], [23, 24, 25, 26, 27]), (14, [0, 1, 2, 3, 4, 5, 6, 7, 8, 9, 10, 11, 12, 13], []), (15, [0, 1, 2, 3, 4, 5, 6, 7, 8, 9, 10, 11, 12, 13, 14], []), (16, [0, 1, 2, 3, 4, 5, 6, 7, 8, 9, 10, 11, 12, 13, 14, 15], []), (17, [0, 1, 2, 3, 4, 5, 6, 7, 8, 9, 10, 11, 12, 13, 14, 15, 16], [])] mixed (by kernel_rfl) ?_
    repeat' first | refine wr (by omega) ?_ | refine ln ?_ | refine stp lay_ok rfl ?_ | refine fin ?_ | refine n_thn ?_ | refine n_blk ?_ | refine e_thn ?_ | refine e_hit ?_ | refine e_miss rfl ?_ | refine r_thn ?_ | refine r_blk ?_ | refine e_rr ?_ | refine r_rr ?_ | refine e_cr ?_ | refine r_cr ?_ | refine .seq ?_ | refine reg ?_ | refine .block ?_ | refine .skip ?_ | refine .ret ?_ | refine .exit ?_ | refine cndT rfl ?_ | refine cndF rfl ?_ | refine c_dec rfl (fun hc => ?_) (fun hc => ?_) | refine c_ndec rfl (fun hc => ?_) (fun hc => ?_) | refine cnd rfl (fun hc => ?_) (fun hc => ?_) | ((first | refine o_none rfl ?_ | refine o_none_ ?_ | refine o_yes rfl rfl rfl ?_ | refine o_yes_ rfl rfl ?_); first | refine st_indexL lay_ok rfl rfl rfl rfl (by omega) (by omega) ?_ | refine st_loadE (rowE x0) lay_ok rfl rfl rfl hat0 rfl rfl rfl ?_ | refine st_loadE (rowE x1) lay_ok rfl rfl rfl hat1 rfl rfl rfl ?_ | refine st_pure (hcl) bg rfl rfl rfl rfl ?_) | refine gd rfl rfl rfl (fun hg => ?_) (fun hg => ?_) | refine gn rfl rfl rfl (fun hg => ?_) (fun hg => ?_) | refine dwr (by omega) ?_ | refine dwl ?_ | refine dws lay_ok rfl rfl rfl rfl rfl rfl rfl ?_ | refine dwu lay_ok rfl rfl rfl rfl rfl rfl rfl rfl rfl ?_ | refine dw_end ?_ | refine dw_skip rfl rfl rfl ?_ | refine dwn lay_ok rfl rfl rfl rfl rfl ?_ | refine dwb rfl rfl rfl rfl rfl (by (first | refine st_indexL lay_ok rfl rfl rfl rfl (by omega) (by omega) ?_ | refine st_loadE (rowE x0) lay_ok rfl rfl rfl hat0 rfl rfl rfl ?_ | refine st_loadE (rowE x1) lay_ok rfl rfl rfl hat1 rfl rfl rfl ?_ | refine st_pure (hcl) bg rfl rfl rfl rfl ?_); exact fin rfl) rfl rfl ?_ | refine dwg rfl rfl rfl rfl rfl (by (first | refine st_indexL lay_ok rfl rfl rfl rfl (by omega) (by omega) ?_ | refine st_loadE (rowE x0) lay_ok rfl rfl rfl hat0 rfl rfl rfl ?_ | refine st_loadE (rowE x1) lay_ok rfl rfl rfl hat1 rfl rfl rfl ?_ | refine st_pure (hcl) bg rfl rfl rfl rfl ?_); exact fin rfl) rfl rfl rfl rfl rfl ?_ | refine dw_dec rfl rfl rfl (fun hg => ?_) (fun hg => ?_) | refine dw_ndec rfl rfl rfl (fun hg => ?_) (fun hg => ?_)
    all_goals first
      | (exfalso; omega)
      | skip
    refine n_rr (i + 1) ?_ (.of [0] (by (repeat' first | exact trivial | refine And.intro ?_ ?_ | rfl); first | done | fail) (by (repeat' first | exact trivial | refine And.intro ?_ ?_ | rfl); first | done | fail) rfl) ?_
    · show b - (i + 1) < b - i; omega
    · exact ⟨by omega, hib, e3⟩
end Go.Proofs.YtmekcbbieacioaaDoorFn
namespace Go.Proofs.YtmekcbbieacioaaDoorFn
open Go.Proofs.YtmekcbbieacioaaDoorAl Go.Proofs.Tryd
attribute [local irreducible] IntKind.wrap CodeOk OpsL OpG ACalls thn inBlk rndR cutR WkR Wk fnR DW ExtOk partsOf
theorem b26 : HasBody prog 26 := ⟨f26, func26, Option.some_ne_none _, by decide⟩
theorem b49 : HasBody prog 49 := ⟨f49, func49, Option.some_ne_none _, by decide⟩
theorem b59 : HasBody prog 59 := ⟨f59, func59, Option.some_ne_none _, by decide⟩
theorem b60 : HasBody prog 60 := ⟨f60, func60, Option.some_ne_none _, by decide⟩
theorem b42 : HasBody prog 42 := ⟨f42, func42, Option.some_ne_none _, by decide⟩
abbrev UN (n : Nat) : AV := .st (.int .u64 (n : Int))
theorem uwrap (n : Nat) (h : n < 2 ^ 64) : IntKind.u64.wrap (n : Int) = n := by
  simp [IntKind.wrap, IntKind.signed, IntKind.bits]; omega
/-- The number of bits, of one byte. -/
def len8 : ByteArray := ByteArray.mk (List.toArray (List.append (List.append ([0, 1, 2, 2, 3, 3, 3, 3, 4, 4, 4, 4, 4, 4, 4, 4, 5, 5, 5, 5, 5, 5, 5, 5, 5, 5, 5, 5, 5, 5, 5, 5, 6, 6, 6, 6, 6, 6, 6, 6, 6, 6, 6, 6, 6, 6, 6, 6, 6, 6, 6, 6, 6, 6, 6, 6, 6, 6, 6, 6, 6, 6, 6, 6] : List UInt8) [7, 7, 7, 7, 7, 7, 7, 7, 7, 7, 7, 7, 7, 7, 7, 7, 7, 7, 7, 7, 7, 7, 7, 7, 7, 7, 7, 7, 7, 7, 7, 7, 7, 7, 7, 7, 7, 7, 7, 7, 7, 7, 7, 7, 7, 7, 7, 7, 7, 7, 7, 7, 7, 7, 7, 7, 7, 7, 7, 7, 7, 7, 7, 7]) (List.append [8, 8, 8, 8, 8, 8, 8, 8, 8, 8, 8, 8, 8, 8, 8, 8, 8, 8, 8, 8, 8, 8, 8, 8, 8, 8, 8, 8, 8, 8, 8, 8, 8, 8, 8, 8, 8, 8, 8, 8, 8, 8, 8, 8, 8, 8, 8, 8, 8, 8, 8, 8, 8, 8, 8, 8, 8, 8, 8, 8, 8, 8, 8, 8] [8, 8, 8, 8, 8, 8, 8, 8, 8, 8, 8, 8, 8, 8, 8, 8, 8, 8, 8, 8, 8, 8, 8, 8, 8, 8, 8, 8, 8, 8, 8, 8, 8, 8, 8, 8, 8, 8, 8, 8, 8, 8, 8, 8, 8, 8, 8, 8, 8, 8, 8, 8, 8, 8, 8, 8, 8, 8, 8, 8, 8, 8, 8, 8])))
theorem len8_at : ∀ x < 256, len8[x]? = some (UInt8.ofNat (Sort.bitsLen x)) := by decide +kernel
theorem bits_le : ∀ x < 256, Sort.bitsLen x ≤ 8 := by decide +kernel
set_option maxHeartbeats 4000000 in
set_option maxRecDepth 20000 in
theorem len64_ok (x : Nat) (hx : x < 256) : ACalls prog 49 0 [UN x] [] fun r h => r = I (Sort.bitsLen x) ∧ h = [] := by
  have ht := len8_at x hx
  have hl := bits_le x hx
  refine fnC lay_ok func49 rfl rfl rfl rfl rfl ?_
  repeat' first | refine wr (by omega) ?_ | refine ln ?_ | refine stp lay_ok rfl ?_ | refine fin ?_ | refine n_thn ?_ | refine n_blk ?_ | refine e_thn ?_ | refine e_hit ?_ | refine e_miss rfl ?_ | refine r_thn ?_ | refine r_blk ?_ | refine e_rr ?_ | refine r_rr ?_ | refine e_cr ?_ | refine r_cr ?_ | refine .seq ?_ | refine reg ?_ | refine .block ?_ | refine .skip ?_ | refine .ret ?_ | refine .exit ?_ | refine cndT rfl ?_ | refine cndF rfl ?_ | refine c_dec rfl (fun hc => ?_) (fun hc => ?_) | refine c_ndec rfl (fun hc => ?_) (fun hc => ?_) | refine cnd rfl (fun hc => ?_) (fun hc => ?_) | refine gd rfl rfl rfl (fun hg => ?_) (fun hg => ?_) | refine gn rfl rfl rfl (fun hg => ?_) (fun hg => ?_)
  all_goals first
    | (exfalso; omega)
    | skip
  rw [show IntKind.u8.wrap (x : Int) = (x : Int) from by simp [IntKind.wrap, IntKind.signed, IntKind.bits]; omega]
  have ht' : len8[((x : Int)).toNat]? = some (UInt8.ofNat (Sort.bitsLen x)) := by rw [Int.toNat_natCast]; exact ht
  have hu : (UInt8.ofNat (Sort.bitsLen x)).toNat = Sort.bitsLen x := by rw [UInt8.toNat_ofNat']; omega
  generalize UInt8.ofNat (Sort.bitsLen x) = u at *
  repeat' first | refine wr (by omega) ?_ | refine ln ?_ | refine stp lay_ok rfl ?_ | refine fin ?_ | refine n_thn ?_ | refine n_blk ?_ | refine e_thn ?_ | refine e_hit ?_ | refine e_miss rfl ?_ | refine r_thn ?_ | refine r_blk ?_ | refine e_rr ?_ | refine r_rr ?_ | refine e_cr ?_ | refine r_cr ?_ | refine .seq ?_ | refine reg ?_ | refine .block ?_ | refine .skip ?_ | refine .ret ?_ | refine .exit ?_ | refine cndT rfl ?_ | refine cndF rfl ?_ | refine c_dec rfl (fun hc => ?_) (fun hc => ?_) | refine c_ndec rfl (fun hc => ?_) (fun hc => ?_) | refine cnd rfl (fun hc => ?_) (fun hc => ?_) | ((first | refine o_none rfl ?_ | refine o_none_ ?_ | refine o_yes rfl rfl rfl ?_ | refine o_yes_ rfl rfl ?_); first | refine st_indexStr (s0 := len8) u lay_ok rfl rfl rfl rfl (by omega) ht' ?_) | refine gd rfl rfl rfl (fun hg => ?_) (fun hg => ?_) | refine gn rfl rfl rfl (fun hg => ?_) (fun hg => ?_)
  refine f_r [] rfl trivial rfl ⟨?_, rfl⟩
  rw [← hu]
  simp only [retOf, AV.st.injEq, SV.int.injEq, true_and]
  omega
end Go.Proofs.YtmekcbbieacioaaDoorFn
namespace Go.Proofs.YtmekcbbieacioaaDoorFn
open Go.Proofs.YtmekcbbieacioaaDoorAl Go.Proofs.Tryd
theorem shl1 : ∀ k : Nat, k ≤ 8 → shI .shl .u64 1 (k : Int) = some (.int .u64 ((1 <<< k : Nat) : Int)) := fun k hk => by
  have : k = 0 ∨ k = 1 ∨ k = 2 ∨ k = 3 ∨ k = 4 ∨ k = 5 ∨ k = 6 ∨ k = 7 ∨ k = 8 := by omega
  rcases this with rfl | rfl | rfl | rfl | rfl | rfl | rfl | rfl | rfl <;> rfl
attribute [local irreducible] IntKind.wrap CodeOk OpsL OpG ACalls thn inBlk rndR cutR WkR Wk fnR DW ExtOk partsOf
theorem blen_ok (x : Nat) (hx : x < 256) : ACalls prog 26 0 [UN x] [] fun r h => r = I (Sort.bitsLen x) ∧ h = [] := by
  have h1 := len64_ok x hx
  refine fnC lay_ok func26 rfl rfl rfl rfl rfl ?_
  repeat' first | refine wr (by omega) ?_ | refine ln ?_ | refine stp lay_ok rfl ?_ | refine fin ?_ | refine n_thn ?_ | refine n_blk ?_ | refine e_thn ?_ | refine e_hit ?_ | refine e_miss rfl ?_ | refine r_thn ?_ | refine r_blk ?_ | refine e_rr ?_ | refine r_rr ?_ | refine e_cr ?_ | refine r_cr ?_ | refine .seq ?_ | refine reg ?_ | refine .block ?_ | refine .skip ?_ | refine .ret ?_ | refine .exit ?_ | refine cndT rfl ?_ | refine cndF rfl ?_ | refine c_dec rfl (fun hc => ?_) (fun hc => ?_) | refine c_ndec rfl (fun hc => ?_) (fun hc => ?_) | refine cnd rfl (fun hc => ?_) (fun hc => ?_) | ((first | refine o_none rfl ?_ | refine o_none_ ?_ | refine o_yes rfl rfl rfl ?_ | refine o_yes_ rfl rfl ?_); first | refine st_pure (h1) b49 rfl rfl rfl rfl ?_) | refine gd rfl rfl rfl (fun hg => ?_) (fun hg => ?_) | refine gn rfl rfl rfl (fun hg => ?_) (fun hg => ?_) | refine dwr (by omega) ?_ | refine dwl ?_ | refine dws lay_ok rfl rfl rfl rfl rfl rfl rfl ?_ | refine dwu lay_ok rfl rfl rfl rfl rfl rfl rfl rfl rfl ?_ | refine dw_end ?_ | refine dw_skip rfl rfl rfl ?_ | refine dwn lay_ok rfl rfl rfl rfl rfl ?_ | refine dwb rfl rfl rfl rfl rfl (by (first | refine st_pure (h1) b49 rfl rfl rfl rfl ?_); exact fin rfl) rfl rfl ?_ | refine dwg rfl rfl rfl rfl rfl (by (first | refine st_pure (h1) b49 rfl rfl rfl rfl ?_); exact fin rfl) rfl rfl rfl rfl rfl ?_ | refine dw_dec rfl rfl rfl (fun hg => ?_) (fun hg => ?_) | refine dw_ndec rfl rfl rfl (fun hg => ?_) (fun hg => ?_)
  refine f_r [] rfl trivial rfl ⟨?_, rfl⟩; rfl
theorem pow2_ok (x : Nat) (hx : x < 256) : ACalls prog 59 0 [I x] [] fun r h => r = UN (1 <<< Sort.bitsLen x) ∧ h = [] := by
  have h1 := blen_ok x hx
  have hl := bits_le x hx
  have hsh := shl1 (Sort.bitsLen x) hl
  generalize Sort.bitsLen x = k at *
  generalize 1 <<< k = m at *
  refine fnC lay_ok func59 rfl rfl rfl rfl rfl ?_
  repeat' first | refine wr (by omega) ?_ | refine ln ?_ | refine stp lay_ok rfl ?_ | refine fin ?_ | refine n_thn ?_ | refine n_blk ?_ | refine e_thn ?_ | refine e_hit ?_ | refine e_miss rfl ?_ | refine r_thn ?_ | refine r_blk ?_ | refine e_rr ?_ | refine r_rr ?_ | refine e_cr ?_ | refine r_cr ?_ | refine .seq ?_ | refine reg ?_ | refine .block ?_ | refine .skip ?_ | refine .ret ?_ | refine .exit ?_ | refine cndT rfl ?_ | refine cndF rfl ?_ | refine c_dec rfl (fun hc => ?_) (fun hc => ?_) | refine c_ndec rfl (fun hc => ?_) (fun hc => ?_) | refine cnd rfl (fun hc => ?_) (fun hc => ?_) | refine gd rfl rfl rfl (fun hg => ?_) (fun hg => ?_) | refine gn rfl rfl rfl (fun hg => ?_) (fun hg => ?_) | refine dwr (by omega) ?_ | refine dwl ?_ | refine dws lay_ok rfl rfl rfl rfl rfl rfl rfl ?_ | refine dwu lay_ok rfl rfl rfl rfl rfl rfl rfl rfl rfl ?_ | refine dw_end ?_ | refine dw_skip rfl rfl rfl ?_ | refine dwn lay_ok rfl rfl rfl rfl rfl ?_ | refine dw_dec rfl rfl rfl (fun hg => ?_) (fun hg => ?_) | refine dw_ndec rfl rfl rfl (fun hg => ?_) (fun hg => ?_)
  rw [uwrap x (by omega)]
  repeat' first | refine wr (by omega) ?_ | refine ln ?_ | refine stp lay_ok rfl ?_ | refine fin ?_ | refine n_thn ?_ | refine n_blk ?_ | refine e_thn ?_ | refine e_hit ?_ | refine e_miss rfl ?_ | refine r_thn ?_ | refine r_blk ?_ | refine e_rr ?_ | refine r_rr ?_ | refine e_cr ?_ | refine r_cr ?_ | refine .seq ?_ | refine reg ?_ | refine .block ?_ | refine .skip ?_ | refine .ret ?_ | refine .exit ?_ | refine cndT rfl ?_ | refine cndF rfl ?_ | refine c_dec rfl (fun hc => ?_) (fun hc => ?_) | refine c_ndec rfl (fun hc => ?_) (fun hc => ?_) | refine cnd rfl (fun hc => ?_) (fun hc => ?_) | ((first | refine o_none rfl ?_ | refine o_none_ ?_ | refine o_yes rfl rfl rfl ?_ | refine o_yes_ rfl rfl ?_); first | refine st_pure (h1) b26 rfl rfl rfl rfl ?_ | refine st_shift rfl rfl (by omega) hsh ?_) | refine gd rfl rfl rfl (fun hg => ?_) (fun hg => ?_) | refine gn rfl rfl rfl (fun hg => ?_) (fun hg => ?_) | refine dwr (by omega) ?_ | refine dwl ?_ | refine dws lay_ok rfl rfl rfl rfl rfl rfl rfl ?_ | refine dwu lay_ok rfl rfl rfl rfl rfl rfl rfl rfl rfl ?_ | refine dw_end ?_ | refine dw_skip rfl rfl rfl ?_ | refine dwn lay_ok rfl rfl rfl rfl rfl ?_ | refine dwb rfl rfl rfl rfl rfl (by (first | refine st_pure (h1) b26 rfl rfl rfl rfl ?_ | refine st_shift rfl rfl (by omega) hsh ?_); exact fin rfl) rfl rfl ?_ | refine dwg rfl rfl rfl rfl rfl (by (first | refine st_pure (h1) b26 rfl rfl rfl rfl ?_ | refine st_shift rfl rfl (by omega) hsh ?_); exact fin rfl) rfl rfl rfl rfl rfl ?_ | refine dw_dec rfl rfl rfl (fun hg => ?_) (fun hg => ?_) | refine dw_ndec rfl rfl rfl (fun hg => ?_) (fun hg => ?_)
  refine f_r [] rfl trivial rfl ⟨?_, rfl⟩; rfl
abbrev U64 (r : UInt64) : AV := .st (.int .u64 (r.toNat : Int))
theorem shlU (r : UInt64) (k : Nat) (s : UInt64) (hk : k < 64) (hs : s.toNat = k) : shI .shl .u64 (r.toNat : Int) (k : Int) = some (.int .u64 ((r <<< s).toNat : Int)) := by
  simp only [shI, Int.toNat_natCast, IntKind.bits, Nat.min_eq_left (show k ≤ 64 by omega)]
  rw [UInt64.toNat_shiftLeft, hs, Nat.mod_eq_of_lt hk, Nat.shiftLeft_eq]
  simp only [IntKind.wrap, IntKind.signed, IntKind.bits]
  congr 2
theorem shrU (r : UInt64) (k : Nat) (s : UInt64) (hk : k < 64) (hs : s.toNat = k) : shI .shr .u64 (r.toNat : Int) (k : Int) = some (.int .u64 ((r >>> s).toNat : Int)) := by
  simp only [shI, Int.toNat_natCast, IntKind.bits, Nat.min_eq_left (show k ≤ 64 by omega)]
  rw [UInt64.toNat_shiftRight, hs, Nat.mod_eq_of_lt hk, Nat.shiftRight_eq_div_pow, Int.fdiv_eq_ediv_of_nonneg _ (Int.le_of_lt (Int.pow_pos (by decide)))]
  congr 2
theorem ofIntU (r : UInt64) : BitVec.ofInt 64 (r.toNat : Int) = r.toBitVec := by
  apply BitVec.eq_of_toNat_eq
  rw [BitVec.toNat_ofInt]
  have := r.toNat_lt
  show ((r.toNat : Int) % ((2 ^ 64 : Nat) : Int)).toNat = r.toNat
  omega
theorem xorU (a b : UInt64) : binJ .xor .u64 (a.toNat : Int) (b.toNat : Int) = some (.int .u64 ((a ^^^ b).toNat : Int)) := by
  simp only [binJ]
  rw [show IntKind.u64.bits = 64 from rfl, ofIntU, ofIntU]
  have e : (a.toBitVec ^^^ b.toBitVec).toNat = (a ^^^ b).toNat := rfl
  have := (a ^^^ b).toNat_lt
  rw [e, uwrap _ (by omega)]
theorem andU (a : UInt64) (m : Nat) (hm : m < 2 ^ 64) : binJ .and .u64 (a.toNat : Int) (m : Int) = some (.int .u64 ((a.toNat &&& m : Nat) : Int)) := by
  simp only [binJ]
  rw [show IntKind.u64.bits = 64 from rfl, ofIntU]
  have e : (a.toBitVec &&& BitVec.ofInt 64 (m : Int)).toNat = a.toNat &&& m := by
    rw [BitVec.toNat_and, BitVec.toNat_ofInt]
    have : ((m : Int) % ((2 ^ 64 : Nat) : Int)).toNat = m := by omega
    rw [this]; rfl
  have := Nat.and_le_right (n := a.toNat) (m := m)
  rw [e, uwrap _ (by omega)]
set_option maxHeartbeats 4000000 in
set_option maxRecDepth 4000 in
theorem next_ok (r : UInt64) : ACalls prog 60 1 [.ptr 0 0] [(0, .cells [U64 r])] fun x h => x = U64 (Sort.xorNext r) ∧ h = [(0, .cells [U64 (Sort.xorNext r)])] := by
  have e1 := shlU r 13 13 (by decide) rfl
  have x1 := xorU r (r <<< 13)
  generalize hr1 : r ^^^ (r <<< 13) = r1 at *
  have e2 := shrU r1 7 7 (by decide) rfl
  have x2 := xorU r1 (r1 >>> 7)
  generalize hr2 : r1 ^^^ (r1 >>> 7) = r2 at *
  have e3 := shlU r2 17 17 (by decide) rfl
  have x3 := xorU r2 (r2 <<< 17)
  have hn : Sort.xorNext r = r2 ^^^ (r2 <<< 17) := by rw [Sort.xorNext, hr1, hr2]
  rw [← hn] at x3
  generalize Sort.xorNext r = r3 at *
  refine fnC lay_ok func60 rfl rfl rfl rfl rfl ?_
  repeat' first | refine wr (by omega) ?_ | refine ln ?_ | refine stp lay_ok rfl ?_ | refine fin ?_ | refine n_thn ?_ | refine n_blk ?_ | refine e_thn ?_ | refine e_hit ?_ | refine e_miss rfl ?_ | refine r_thn ?_ | refine r_blk ?_ | refine e_rr ?_ | refine r_rr ?_ | refine e_cr ?_ | refine r_cr ?_ | refine .seq ?_ | refine reg ?_ | refine .block ?_ | refine .skip ?_ | refine .ret ?_ | refine .exit ?_ | refine cndT rfl ?_ | refine cndF rfl ?_ | refine c_dec rfl (fun hc => ?_) (fun hc => ?_) | refine c_ndec rfl (fun hc => ?_) (fun hc => ?_) | refine cnd rfl (fun hc => ?_) (fun hc => ?_) | refine gd rfl rfl rfl (fun hg => ?_) (fun hg => ?_) | refine gn rfl rfl rfl (fun hg => ?_) (fun hg => ?_) | refine dwr (by omega) ?_ | refine dwl ?_ | refine dws lay_ok rfl rfl rfl rfl rfl rfl rfl ?_ | refine dwu lay_ok rfl rfl rfl rfl rfl rfl rfl rfl rfl ?_ | refine dw_end ?_ | refine dw_skip rfl rfl rfl ?_ | refine dwn lay_ok rfl rfl rfl rfl rfl ?_ | refine dw_dec rfl rfl rfl (fun hg => ?_) (fun hg => ?_) | refine dw_ndec rfl rfl rfl (fun hg => ?_) (fun hg => ?_)
  refine dreg [(0, [], [6, 7, 8, 9]), (1, [0], [6, 7, 8, 9]), (2, [0, 1], [6, 7, 8, 9]), (3, [], [3, 4, 5]), (4, [3], [3, 4, 5]), (5, [3, 4], [3, 4, 5]), (6, [3, 4, 5], [3, 4, 5]), (7, [0, 1, 2, 3, 4, 5, 6], []), (8, [0, 1, 2, 3, 4, 5, 6, 7], []), (9, [0, 1, 2, 3, 4, 5, 6, 7, 8], [])] mixed (by kernel_rfl) ?_
  repeat' first | refine wr (by omega) ?_ | refine ln ?_ | refine stp lay_ok rfl ?_ | refine fin ?_ | refine n_thn ?_ | refine n_blk ?_ | refine e_thn ?_ | refine e_hit ?_ | refine e_miss rfl ?_ | refine r_thn ?_ | refine r_blk ?_ | refine e_rr ?_ | refine r_rr ?_ | refine e_cr ?_ | refine r_cr ?_ | refine .seq ?_ | refine reg ?_ | refine .block ?_ | refine .skip ?_ | refine .ret ?_ | refine .exit ?_ | refine cndT rfl ?_ | refine cndF rfl ?_ | refine c_dec rfl (fun hc => ?_) (fun hc => ?_) | refine c_ndec rfl (fun hc => ?_) (fun hc => ?_) | refine cnd rfl (fun hc => ?_) (fun hc => ?_) | ((first | refine o_none rfl ?_ | refine o_none_ ?_ | refine o_yes rfl rfl rfl ?_ | refine o_yes_ rfl rfl ?_); first | refine st_shift rfl rfl (by decide) e1 ?_ | refine st_bits rfl rfl x1 ?_) | refine gd rfl rfl rfl (fun hg => ?_) (fun hg => ?_) | refine gn rfl rfl rfl (fun hg => ?_) (fun hg => ?_) | refine dwr (by omega) ?_ | refine dwl ?_ | refine dws lay_ok rfl rfl rfl rfl rfl rfl rfl ?_ | refine dwu lay_ok rfl rfl rfl rfl rfl rfl rfl rfl rfl ?_ | refine dw_end ?_ | refine dw_skip rfl rfl rfl ?_ | refine dwn lay_ok rfl rfl rfl rfl rfl ?_ | refine dwb rfl rfl rfl rfl rfl (by (first | refine st_shift rfl rfl (by decide) e1 ?_ | refine st_bits rfl rfl x1 ?_); exact fin rfl) rfl rfl ?_ | refine dwg rfl rfl rfl rfl rfl (by (first | refine st_shift rfl rfl (by decide) e1 ?_ | refine st_bits rfl rfl x1 ?_); exact fin rfl) rfl rfl rfl rfl rfl ?_ | refine dw_dec rfl rfl rfl (fun hg => ?_) (fun hg => ?_) | refine dw_ndec rfl rfl rfl (fun hg => ?_) (fun hg => ?_)
  refine dreg [(0, [], [15, 16, 17, 18]), (1, [0], [15, 16, 17, 18]), (2, [0, 1], [15, 16, 17, 18]), (3, [], [12, 13, 14]), (4, [3], [12, 13, 14]), (5, [3, 4], [12, 13, 14]), (6, [3, 4, 5], [12, 13, 14]), (7, [0, 1, 2, 3, 4, 5, 6], []), (8, [0, 1, 2, 3, 4, 5, 6, 7], []), (9, [0, 1, 2, 3, 4, 5, 6, 7, 8], [])] mixed (by kernel_rfl) ?_
  repeat' first | refine wr (by omega) ?_ | refine ln ?_ | refine stp lay_ok rfl ?_ | refine fin ?_ | refine n_thn ?_ | refine n_blk ?_ | refine e_thn ?_ | refine e_hit ?_ | refine e_miss rfl ?_ | refine r_thn ?_ | refine r_blk ?_ | refine e_rr ?_ | refine r_rr ?_ | refine e_cr ?_ | refine r_cr ?_ | refine .seq ?_ | refine reg ?_ | refine .block ?_ | refine .skip ?_ | refine .ret ?_ | refine .exit ?_ | refine cndT rfl ?_ | refine cndF rfl ?_ | refine c_dec rfl (fun hc => ?_) (fun hc => ?_) | refine c_ndec rfl (fun hc => ?_) (fun hc => ?_) | refine cnd rfl (fun hc => ?_) (fun hc => ?_) | ((first | refine o_none rfl ?_ | refine o_none_ ?_ | refine o_yes rfl rfl rfl ?_ | refine o_yes_ rfl rfl ?_); first | refine st_shift rfl rfl (by decide) e2 ?_ | refine st_bits rfl rfl x2 ?_) | refine gd rfl rfl rfl (fun hg => ?_) (fun hg => ?_) | refine gn rfl rfl rfl (fun hg => ?_) (fun hg => ?_) | refine dwr (by omega) ?_ | refine dwl ?_ | refine dws lay_ok rfl rfl rfl rfl rfl rfl rfl ?_ | refine dwu lay_ok rfl rfl rfl rfl rfl rfl rfl rfl rfl ?_ | refine dw_end ?_ | refine dw_skip rfl rfl rfl ?_ | refine dwn lay_ok rfl rfl rfl rfl rfl ?_ | refine dwb rfl rfl rfl rfl rfl (by (first | refine st_shift rfl rfl (by decide) e2 ?_ | refine st_bits rfl rfl x2 ?_); exact fin rfl) rfl rfl ?_ | refine dwg rfl rfl rfl rfl rfl (by (first | refine st_shift rfl rfl (by decide) e2 ?_ | refine st_bits rfl rfl x2 ?_); exact fin rfl) rfl rfl rfl rfl rfl ?_ | refine dw_dec rfl rfl rfl (fun hg => ?_) (fun hg => ?_) | refine dw_ndec rfl rfl rfl (fun hg => ?_) (fun hg => ?_)
  refine dreg [(0, [], [24, 25, 26, 27]), (1, [0], [24, 25, 26, 27]), (2, [0, 1], [24, 25, 26, 27]), (3, [], [21, 22, 23]), (4, [3], [21, 22, 23]), (5, [3, 4], [21, 22, 23]), (6, [3, 4, 5], [21, 22, 23]), (7, [0, 1, 2, 3, 4, 5, 6], []), (8, [0, 1, 2, 3, 4, 5, 6, 7], []), (9, [0, 1, 2, 3, 4, 5, 6, 7, 8], [])] mixed (by kernel_rfl) ?_
  repeat' first | refine wr (by omega) ?_ | refine ln ?_ | refine stp lay_ok rfl ?_ | refine fin ?_ | refine n_thn ?_ | refine n_blk ?_ | refine e_thn ?_ | refine e_hit ?_ | refine e_miss rfl ?_ | refine r_thn ?_ | refine r_blk ?_ | refine e_rr ?_ | refine r_rr ?_ | refine e_cr ?_ | refine r_cr ?_ | refine .seq ?_ | refine reg ?_ | refine .block ?_ | refine .skip ?_ | refine .ret ?_ | refine .exit ?_ | refine cndT rfl ?_ | refine cndF rfl ?_ | refine c_dec rfl (fun hc => ?_) (fun hc => ?_) | refine c_ndec rfl (fun hc => ?_) (fun hc => ?_) | refine cnd rfl (fun hc => ?_) (fun hc => ?_) | ((first | refine o_none rfl ?_ | refine o_none_ ?_ | refine o_yes rfl rfl rfl ?_ | refine o_yes_ rfl rfl ?_); first | refine st_shift rfl rfl (by decide) e3 ?_ | refine st_bits rfl rfl x3 ?_) | refine gd rfl rfl rfl (fun hg => ?_) (fun hg => ?_) | refine gn rfl rfl rfl (fun hg => ?_) (fun hg => ?_) | refine dwr (by omega) ?_ | refine dwl ?_ | refine dws lay_ok rfl rfl rfl rfl rfl rfl rfl ?_ | refine dwu lay_ok rfl rfl rfl rfl rfl rfl rfl rfl rfl ?_ | refine dw_end ?_ | refine dw_skip rfl rfl rfl ?_ | refine dwn lay_ok rfl rfl rfl rfl rfl ?_ | refine dwb rfl rfl rfl rfl rfl (by (first | refine st_shift rfl rfl (by decide) e3 ?_ | refine st_bits rfl rfl x3 ?_); exact fin rfl) rfl rfl ?_ | refine dwg rfl rfl rfl rfl rfl (by (first | refine st_shift rfl rfl (by decide) e3 ?_ | refine st_bits rfl rfl x3 ?_); exact fin rfl) rfl rfl rfl rfl rfl ?_ | refine dw_dec rfl rfl rfl (fun hg => ?_) (fun hg => ?_) | refine dw_ndec rfl rfl rfl (fun hg => ?_) (fun hg => ?_)
  refine f_r [(0, .cells [U64 r3])] rfl (by (repeat' first | exact trivial | refine And.intro ?_ ?_ | rfl); first | done | fail) rfl ⟨?_, rfl⟩
  rfl
end Go.Proofs.YtmekcbbieacioaaDoorFn
namespace Go.Proofs.YtmekcbbieacioaaDoorFn
open Go.Proofs.YtmekcbbieacioaaDoorAl Go.Proofs.Tryd
theorem u64sub (m : Nat) (h : 1 ≤ m) (h2 : m < 2 ^ 64) : IntKind.u64.wrap ((m : Int) - 1) = ((m - 1 : Nat) : Int) := by
  rw [show ((m : Int) - 1) = ((m - 1 : Nat) : Int) by omega]; exact uwrap _ (by omega)
theorem pow_le : ∀ x < 256, 1 ≤ x → 1 <<< Sort.bitsLen x ≤ 2 * x ∧ 1 ≤ 1 <<< Sort.bitsLen x := by decide +kernel
attribute [local irreducible] IntKind.wrap CodeOk OpsL OpG ACalls thn inBlk rndR cutR WkR Wk fnR DW ExtOk partsOf
def brkS (a len m : Nat) : Nat → Nat → UInt64 × Array EV → Array EV
  | 0, _, st => st.2
  | f + 1, idx, st => brkS a len m f (idx + 1) (Sort.breakStep a len m st idx)
theorem brk_eq (d : Array EV) (a b : Nat) (h : 8 ≤ b - a) : Sort.breakPatterns d a b = brkS a (b - a) (1 <<< Sort.bitsLen (b - a)) 3 (a + (b - a) / 4 * 2 - 1) (UInt64.ofNat (b - a), d) := by
  unfold Sort.breakPatterns
  simp only [if_pos (show b - a ≥ 8 from h)]
  rfl
set_option maxHeartbeats 8000000 in
set_option maxRecDepth 4000 in
theorem break_ok (g : Nat) (d0 : Array EV) (n a b : Nat) (hn0 : d0.size = n) (hab : a < b) (hb : b ≤ n) (hn : n ≤ 4000000000) (h50 : b - a < 50) (h12 : 12 < b - a) :
    ACalls prog 42 1 [.lsl 0 3 0 n, I a, I b, fnG g] [(0, .arr 3 (rA d0))] fun r h => r = .tuple [] ∧ h = [(0, .arr 3 (rA (Sort.breakPatterns d0 a b)))] := by
  rw [brk_eq d0 a b (by omega)]
  have hq := quoI (z := (b : Int) - (a : Int)) (m := b - a) (k := 4) (.inl (by omega)) (by decide) (by omega)
  have eba : ((b - a : Nat) : Int) = (b : Int) - (a : Int) := by omega
  have hp2 := pow2_ok (b - a) (by omega)
  rw [eba] at hp2
  have hpl := pow_le (b - a) (by omega) (by omega)
  have hw0 : IntKind.u64.wrap ((b : Int) - (a : Int)) = ((UInt64.ofNat (b - a)).toNat : Int) := by
    rw [← eba, uwrap _ (by omega), UInt64.toNat_ofNat']
    rw [Nat.mod_eq_of_lt (by omega)]
  generalize UInt64.ofNat (b - a) = r0 at *
  generalize hm : 1 <<< Sort.bitsLen (b - a) = m at *
  generalize hln : b - a = len at *
  have hq4 : len / 4 * 4 ≤ len ∧ 3 ≤ len / 4 := by omega
  generalize len / 4 = q at *
  generalize hK : brkS a len m 3 (a + q * 2 - 1) (r0, d0) = K
  have hms := u64sub m hpl.2 (by omega)
  refine fnC lay_ok func42 rfl rfl rfl rfl rfl ?_
  repeat' first | refine wr (by omega) ?_ | refine ln ?_ | refine stp lay_ok rfl ?_ | refine fin ?_ | refine n_thn ?_ | refine n_blk ?_ | refine e_thn ?_ | refine e_hit ?_ | refine e_miss rfl ?_ | refine r_thn ?_ | refine r_blk ?_ | refine e_rr ?_ | refine r_rr ?_ | refine e_cr ?_ | refine r_cr ?_ | refine .seq ?_ | refine reg ?_ | refine .block ?_ | refine .skip ?_ | refine .ret ?_ | refine .exit ?_ | refine cndT rfl ?_ | refine cndF rfl ?_ | refine c_dec rfl (fun hc => ?_) (fun hc => ?_) | refine c_ndec rfl (fun hc => ?_) (fun hc => ?_) | refine cnd rfl (fun hc => ?_) (fun hc => ?_) | ((first | refine o_none rfl ?_ | refine o_none_ ?_ | refine o_yes rfl rfl rfl ?_ | refine o_yes_ rfl rfl ?_); first | refine st_div rfl rfl hq (by decide) ?_ | refine st_pure (hp2) b59 rfl rfl rfl rfl ?_) | refine gd rfl rfl rfl (fun hg => ?_) (fun hg => ?_) | refine gn rfl rfl rfl (fun hg => ?_) (fun hg => ?_) | refine dwr (by omega) ?_ | refine dwl ?_ | refine dws lay_ok rfl rfl rfl rfl rfl rfl rfl ?_ | refine dwu lay_ok rfl rfl rfl rfl rfl rfl rfl rfl rfl ?_ | refine dw_end ?_ | refine dw_skip rfl rfl rfl ?_ | refine dwn lay_ok rfl rfl rfl rfl rfl ?_ | refine dwb rfl rfl rfl rfl rfl (by (first | refine st_div rfl rfl hq (by decide) ?_ | refine st_pure (hp2) b59 rfl rfl rfl rfl ?_); exact fin rfl) rfl rfl ?_ | refine dwg rfl rfl rfl rfl rfl (by (first | refine st_div rfl rfl hq (by decide) ?_ | refine st_pure (hp2) b59 rfl rfl rfl rfl ?_); exact fin rfl) rfl rfl rfl rfl rfl ?_ | refine dw_dec rfl rfl rfl (fun hg => ?_) (fun hg => ?_) | refine dw_ndec rfl rfl rfl (fun hg => ?_) (fun hg => ?_)
  all_goals first
    | (exfalso; omega)
    | skip
  refine lpR (fun (k, idx, z, r, d) => d.size = n ∧ z = ((idx : Nat) : Int) ∧ idx + k = a + q * 2 + 2 ∧ k ≤ 3 ∧ K = brkS a len m k idx (r, d)) (fun (k, idx, z, r, d) => k) (fun (k, idx, z, r, d) => [(11, .st (.int .i64 z))]) (fun (k, idx, z, r, d) => [(0, .arr 3 (rA d)), (1, .cells [U64 r])]) ((3, a + q * 2 - 1, (a : Int) + (q : Int) * 2 - 1, r0, d0)) [0, 1, 8, 9, 10] [0, 1] [] rfl rfl rfl (.of [] (by (repeat' first | exact trivial | refine And.intro ?_ ?_ | rfl | exact congrArg (fun z : Int => some (AO.cells [AV.st (.int .u64 z)])) hw0); first | done | fail) (by (repeat' first | exact trivial | refine And.intro ?_ ?_ | rfl | exact congrArg (fun z : Int => some (AO.cells [AV.st (.int .u64 z)])) hw0); first | done | fail) rfl) ?_ ?_
  · exact ⟨hn0, by omega, by omega, by omega, hK.symm⟩
  rintro ⟨k, idx, z, r, d⟩ ⟨g1, g2, g3, g4, g5⟩
  refine nrm rfl rfl ?_
  by_cases hk : k = 0
  · subst hk
    rw [brkS] at g5
    simp only at g5
    subst g5
    repeat' first | refine wr (by omega) ?_ | refine ln ?_ | refine stp lay_ok rfl ?_ | refine fin ?_ | refine n_thn ?_ | refine n_blk ?_ | refine e_thn ?_ | refine e_hit ?_ | refine e_miss rfl ?_ | refine r_thn ?_ | refine r_blk ?_ | refine e_rr ?_ | refine r_rr ?_ | refine e_cr ?_ | refine r_cr ?_ | refine .seq ?_ | refine reg ?_ | refine .block ?_ | refine .skip ?_ | refine .ret ?_ | refine .exit ?_ | refine cndT rfl ?_ | refine cndF rfl ?_ | refine c_dec rfl (fun hc => ?_) (fun hc => ?_) | refine c_ndec rfl (fun hc => ?_) (fun hc => ?_) | refine cnd rfl (fun hc => ?_) (fun hc => ?_) | ((first | refine o_none rfl ?_ | refine o_none_ ?_ | refine o_yes rfl rfl rfl ?_ | refine o_yes_ rfl rfl ?_); first | refine st_div rfl rfl hq (by decide) ?_) | refine gd rfl rfl rfl (fun hg => ?_) (fun hg => ?_) | refine gn rfl rfl rfl (fun hg => ?_) (fun hg => ?_) | refine dwr (by omega) ?_ | refine dwl ?_ | refine dws lay_ok rfl rfl rfl rfl rfl rfl rfl ?_ | refine dwu lay_ok rfl rfl rfl rfl rfl rfl rfl rfl rfl ?_ | refine dw_end ?_ | refine dw_skip rfl rfl rfl ?_ | refine dwn lay_ok rfl rfl rfl rfl rfl ?_ | refine dwb rfl rfl rfl rfl rfl (by (first | refine st_div rfl rfl hq (by decide) ?_); exact fin rfl) rfl rfl ?_ | refine dwg rfl rfl rfl rfl rfl (by (first | refine st_div rfl rfl hq (by decide) ?_); exact fin rfl) rfl rfl rfl rfl rfl ?_ | refine dw_dec rfl rfl rfl (fun hg => ?_) (fun hg => ?_) | refine dw_ndec rfl rfl rfl (fun hg => ?_) (fun hg => ?_)
    all_goals first
      | (exfalso; omega)
      | (refine f_rn [(0, .arr 3 (rA K))] rfl (by (repeat' first | exact trivial | refine And.intro ?_ ?_ | rfl); first | done | fail) rfl ⟨?_, rfl⟩; rfl)
  obtain ⟨k', rfl⟩ : ∃ k', k = k' + 1 := ⟨k - 1, by omega⟩
  have hbs : Sort.breakStep a len m (r, d) idx = (Sort.xorNext r, Sort.swp d idx (a + if (Sort.xorNext r).toNat &&& (m - 1) ≥ len then ((Sort.xorNext r).toNat &&& (m - 1)) - len else (Sort.xorNext r).toNat &&& (m - 1))) := rfl
  rw [brkS, hbs] at g5
  have hnx := next_ok r
  generalize Sort.xorNext r = r' at *
  have hand := andU r' (m - 1) (by omega)
  rw [← hms] at hand
  have hle := Nat.and_le_right (n := r'.toNat) (m := m - 1)
  generalize r'.toNat &&& (m - 1) = o at *
  have hat0 := rA_at (d := d) (i := z) (k := idx) (by omega) (by omega)
  by_cases hge : o ≥ len
  · rw [if_pos hge] at g5
    have hat1 := rA_at (d := d) (i := (a : Int) + ((o : Int) - ((b : Int) - (a : Int)))) (k := a + (o - len)) (by omega) (by omega)
    have hst2 := rA_st2 (d := d) (i := z) (j := (a : Int) + ((o : Int) - ((b : Int) - (a : Int)))) (p := idx) (q := a + (o - len)) (by omega) (by omega) (by omega)
    have hfin := rA_swp (d := d) (i := z) (j := (a : Int) + ((o : Int) - ((b : Int) - (a : Int)))) (p := idx) (q := a + (o - len)) (by omega) (by omega)
    have hss := swp_size d idx (a + (o - len))
    generalize d[idx]! = x0 at *
    generalize d[a + (o - len)]! = x1 at *
    repeat' first | refine wr (by omega) ?_ | refine ln ?_ | refine stp lay_ok rfl ?_ | refine fin ?_ | refine n_thn ?_ | refine n_blk ?_ | refine e_thn ?_ | refine e_hit ?_ | refine e_miss rfl ?_ | refine r_thn ?_ | refine r_blk ?_ | refine e_rr ?_ | refine r_rr ?_ | refine e_cr ?_ | refine r_cr ?_ | refine .seq ?_ | refine reg ?_ | refine .block ?_ | refine .skip ?_ | refine .ret ?_ | refine .exit ?_ | refine cndT rfl ?_ | refine cndF rfl ?_ | refine c_dec rfl (fun hc => ?_) (fun hc => ?_) | refine c_ndec rfl (fun hc => ?_) (fun hc => ?_) | refine cnd rfl (fun hc => ?_) (fun hc => ?_) | ((first | refine o_none rfl ?_ | refine o_none_ ?_ | refine o_yes rfl rfl rfl ?_ | refine o_yes_ rfl rfl ?_); first | refine st_div rfl rfl hq (by decide) ?_ | refine st_callF 0 (hnx) b60 rfl rfl rfl rfl rfl rfl (by (repeat' first | exact trivial | refine And.intro ?_ ?_ | rfl); first | done | fail) rfl ?_ | refine st_bits rfl rfl hand ?_) | refine gd rfl rfl rfl (fun hg => ?_) (fun hg => ?_) | refine gn rfl rfl rfl (fun hg => ?_) (fun hg => ?_) | refine dwr (by omega) ?_ | refine dwl ?_ | refine dws lay_ok rfl rfl rfl rfl rfl rfl rfl ?_ | refine dwu lay_ok rfl rfl rfl rfl rfl rfl rfl rfl rfl ?_ | refine dw_end ?_ | refine dw_skip rfl rfl rfl ?_ | refine dwn lay_ok rfl rfl rfl rfl rfl ?_ | refine dwb rfl rfl rfl rfl rfl (by (first | refine st_div rfl rfl hq (by decide) ?_ | refine st_callF 0 (hnx) b60 rfl rfl rfl rfl rfl rfl (by (repeat' first | exact trivial | refine And.intro ?_ ?_ | rfl); first | done | fail) rfl ?_ | refine st_bits rfl rfl hand ?_); exact fin rfl) rfl rfl ?_ | refine dwg rfl rfl rfl rfl rfl (by (first | refine st_div rfl rfl hq (by decide) ?_ | refine st_callF 0 (hnx) b60 rfl rfl rfl rfl rfl rfl (by (repeat' first | exact trivial | refine And.intro ?_ ?_ | rfl); first | done | fail) rfl ?_ | refine st_bits rfl rfl hand ?_); exact fin rfl) rfl rfl rfl rfl rfl ?_ | refine dw_dec rfl rfl rfl (fun hg => ?_) (fun hg => ?_) | refine dw_ndec rfl rfl rfl (fun hg => ?_) (fun hg => ?_)
    all_goals first
      | (exfalso; omega)
      | skip
    refine dreg [(0, [], [50, 51, 52, 53, 54, 55, 56, 57, 58, 59, 60, 61, 62, 63, 64]), (1, [], [49, 51, 52, 53, 54, 55, 56, 57, 58, 59, 60, 61, 62, 63, 64]), (2, [], [49, 50, 52, 53, 54, 55, 56, 57, 58, 59, 60, 61, 62, 63, 64, 65]), (3, [], [49, 50, 51, 53, 55, 56, 57, 58, 59, 60, 61, 62, 63, 64, 65]), (4, [], [49, 50, 51, 52, 55, 56, 57, 58, 59, 60, 61, 62, 63, 64, 65]), (5, [3, 4], [49, 50, 51, 55, 56, 57, 58, 59, 60, 61, 62, 63, 64, 65]), (6, [], [49, 50, 51, 52, 53, 54, 56, 57, 58, 61, 62, 63, 64]), (7, [], [49, 50, 51, 52, 53, 54, 55, 57, 61, 62, 63, 64]), (8, [], [49, 50, 51, 52, 53, 54, 55, 56, 61, 62, 63, 64]), (9, [7, 8], [49, 50, 51, 52, 53, 54, 55, 61, 62, 63, 64]), (10, [6, 7, 8, 9], [49, 50, 51, 52, 53, 54, 61, 62, 63, 64]), (11, [6, 7, 8, 9, 10], [49, 50, 51, 52, 53, 54, 61, 62, 63, 64]), (12, [], [49, 50, 51, 52, 53, 54, 55, 56, 57, 58, 59, 60, 62]), (13, [], [49, 50, 51, 52, 53, 54, 55, 56, 57, 58, 59, 60, 61]), (14, [12, 13], [49, 50, 51, 52, 53, 54, 55, 56, 57, 58, 59, 60]), (15, [12, 13, 14], [49, 50, 51, 52, 53, 54, 55, 56, 57, 58, 59, 60]), (16, [0, 1, 6, 7, 8, 9, 10, 11, 12, 13, 14, 15], [51, 52, 53, 54]), (17, [0, 1, 6, 7, 8, 9, 10, 11, 12, 13, 14, 15, 16], [51, 52, 53, 54]), (18, [0, 1, 2, 3, 4, 5, 6, 7, 8, 9, 10, 11, 12, 13, 14, 15, 16, 17], []), (19, [0, 1, 2, 3, 4, 5, 6, 7, 8, 9, 10, 11, 12, 13, 14, 15, 16, 17, 18], [])] mixed (by kernel_rfl) ?_
    repeat' first | refine wr (by omega) ?_ | refine ln ?_ | refine stp lay_ok rfl ?_ | refine fin ?_ | refine n_thn ?_ | refine n_blk ?_ | refine e_thn ?_ | refine e_hit ?_ | refine e_miss rfl ?_ | refine r_thn ?_ | refine r_blk ?_ | refine e_rr ?_ | refine r_rr ?_ | refine e_cr ?_ | refine r_cr ?_ | refine .seq ?_ | refine reg ?_ | refine .block ?_ | refine .skip ?_ | refine .ret ?_ | refine .exit ?_ | refine cndT rfl ?_ | refine cndF rfl ?_ | refine c_dec rfl (fun hc => ?_) (fun hc => ?_) | refine c_ndec rfl (fun hc => ?_) (fun hc => ?_) | refine cnd rfl (fun hc => ?_) (fun hc => ?_) | ((first | refine o_none rfl ?_ | refine o_none_ ?_ | refine o_yes rfl rfl rfl ?_ | refine o_yes_ rfl rfl ?_); first | refine st_indexL lay_ok rfl rfl rfl rfl (by omega) (by omega) ?_ | refine st_loadE (rowE x0) lay_ok rfl rfl rfl hat0 rfl rfl rfl ?_ | refine st_loadE (rowE x1) lay_ok rfl rfl rfl hat1 rfl rfl rfl ?_) | refine o_none_ (st_storeE lay_ok rfl rfl rfl hat0 rfl rfl rfl rfl ?_) | refine o_none_ (st_storeE lay_ok rfl rfl rfl hst2 rfl rfl rfl rfl ?_) | refine gd rfl rfl rfl (fun hg => ?_) (fun hg => ?_) | refine gn rfl rfl rfl (fun hg => ?_) (fun hg => ?_) | refine dwr (by omega) ?_ | refine dwl ?_ | refine dws lay_ok rfl rfl rfl rfl rfl rfl rfl ?_ | refine dwu lay_ok rfl rfl rfl rfl rfl rfl rfl rfl rfl ?_ | refine dw_end ?_ | refine dw_skip rfl rfl rfl ?_ | refine dwn lay_ok rfl rfl rfl rfl rfl ?_ | refine dwb rfl rfl rfl rfl rfl (by (first | refine st_indexL lay_ok rfl rfl rfl rfl (by omega) (by omega) ?_ | refine st_loadE (rowE x0) lay_ok rfl rfl rfl hat0 rfl rfl rfl ?_ | refine st_loadE (rowE x1) lay_ok rfl rfl rfl hat1 rfl rfl rfl ?_); exact fin rfl) rfl rfl ?_ | refine dwg rfl rfl rfl rfl rfl (by (first | refine st_indexL lay_ok rfl rfl rfl rfl (by omega) (by omega) ?_ | refine st_loadE (rowE x0) lay_ok rfl rfl rfl hat0 rfl rfl rfl ?_ | refine st_loadE (rowE x1) lay_ok rfl rfl rfl hat1 rfl rfl rfl ?_); exact fin rfl) rfl rfl rfl rfl rfl ?_ | refine dwv rfl rfl rfl rfl (by refine st_storeE lay_ok rfl rfl rfl hat0 rfl rfl rfl rfl ?_; exact fin rfl) rfl rfl rfl rfl ?_ | refine dwv rfl rfl rfl rfl (by refine st_storeE lay_ok rfl rfl rfl hst2 rfl rfl rfl rfl ?_; exact fin rfl) rfl rfl rfl rfl ?_ | refine dw_dec rfl rfl rfl (fun hg => ?_) (fun hg => ?_) | refine dw_ndec rfl rfl rfl (fun hg => ?_) (fun hg => ?_)
    refine n_rr ((k', idx + 1, z + 1, r', Sort.swp d idx (a + (o - len)))) ?_ (.of [0, 1] (by (repeat' first | exact trivial | refine And.intro ?_ ?_ | rfl | exact congrArg (fun r => some (AO.arr 3 r)) hfin); first | done | fail) (by (repeat' first | exact trivial | refine And.intro ?_ ?_ | rfl | exact congrArg (fun r => some (AO.arr 3 r)) hfin); first | done | fail) rfl) ?_
    · exact Nat.lt_succ_self _
    · exact ⟨hss.trans g1, by omega, by omega, by omega, g5⟩
  · rw [if_neg hge] at g5
    have hat1 := rA_at (d := d) (i := (a : Int) + ((o : Int))) (k := a + (o)) (by omega) (by omega)
    have hst2 := rA_st2 (d := d) (i := z) (j := (a : Int) + ((o : Int))) (p := idx) (q := a + (o)) (by omega) (by omega) (by omega)
    have hfin := rA_swp (d := d) (i := z) (j := (a : Int) + ((o : Int))) (p := idx) (q := a + (o)) (by omega) (by omega)
    have hss := swp_size d idx (a + (o))
    generalize d[idx]! = x0 at *
    generalize d[a + (o)]! = x1 at *
    repeat' first | refine wr (by omega) ?_ | refine ln ?_ | refine stp lay_ok rfl ?_ | refine fin ?_ | refine n_thn ?_ | refine n_blk ?_ | refine e_thn ?_ | refine e_hit ?_ | refine e_miss rfl ?_ | refine r_thn ?_ | refine r_blk ?_ | refine e_rr ?_ | refine r_rr ?_ | refine e_cr ?_ | refine r_cr ?_ | refine .seq ?_ | refine reg ?_ | refine .block ?_ | refine .skip ?_ | refine .ret ?_ | refine .exit ?_ | refine cndT rfl ?_ | refine cndF rfl ?_ | refine c_dec rfl (fun hc => ?_) (fun hc => ?_) | refine c_ndec rfl (fun hc => ?_) (fun hc => ?_) | refine cnd rfl (fun hc => ?_) (fun hc => ?_) | ((first | refine o_none rfl ?_ | refine o_none_ ?_ | refine o_yes rfl rfl rfl ?_ | refine o_yes_ rfl rfl ?_); first | refine st_div rfl rfl hq (by decide) ?_ | refine st_callF 0 (hnx) b60 rfl rfl rfl rfl rfl rfl (by (repeat' first | exact trivial | refine And.intro ?_ ?_ | rfl); first | done | fail) rfl ?_ | refine st_bits rfl rfl hand ?_) | refine gd rfl rfl rfl (fun hg => ?_) (fun hg => ?_) | refine gn rfl rfl rfl (fun hg => ?_) (fun hg => ?_) | refine dwr (by omega) ?_ | refine dwl ?_ | refine dws lay_ok rfl rfl rfl rfl rfl rfl rfl ?_ | refine dwu lay_ok rfl rfl rfl rfl rfl rfl rfl rfl rfl ?_ | refine dw_end ?_ | refine dw_skip rfl rfl rfl ?_ | refine dwn lay_ok rfl rfl rfl rfl rfl ?_ | refine dwb rfl rfl rfl rfl rfl (by (first | refine st_div rfl rfl hq (by decide) ?_ | refine st_callF 0 (hnx) b60 rfl rfl rfl rfl rfl rfl (by (repeat' first | exact trivial | refine And.intro ?_ ?_ | rfl); first | done | fail) rfl ?_ | refine st_bits rfl rfl hand ?_); exact fin rfl) rfl rfl ?_ | refine dwg rfl rfl rfl rfl rfl (by (first | refine st_div rfl rfl hq (by decide) ?_ | refine st_callF 0 (hnx) b60 rfl rfl rfl rfl rfl rfl (by (repeat' first | exact trivial | refine And.intro ?_ ?_ | rfl); first | done | fail) rfl ?_ | refine st_bits rfl rfl hand ?_); exact fin rfl) rfl rfl rfl rfl rfl ?_ | refine dw_dec rfl rfl rfl (fun hg => ?_) (fun hg => ?_) | refine dw_ndec rfl rfl rfl (fun hg => ?_) (fun hg => ?_)
    all_goals first
      | (exfalso; omega)
      | skip
    refine dreg [(0, [], [50, 51, 52, 53, 54, 55, 56, 57, 58, 59, 60, 61, 62, 63, 64]), (1, [], [49, 51, 52, 53, 54, 55, 56, 57, 58, 59, 60, 61, 62, 63, 64]), (2, [], [49, 50, 52, 53, 54, 55, 56, 57, 58, 59, 60, 61, 62, 63, 64, 65]), (3, [], [49, 50, 51, 53, 55, 56, 57, 58, 59, 60, 61, 62, 63, 64, 65]), (4, [], [49, 50, 51, 52, 55, 56, 57, 58, 59, 60, 61, 62, 63, 64, 65]), (5, [3, 4], [49, 50, 51, 55, 56, 57, 58, 59, 60, 61, 62, 63, 64, 65]), (6, [], [49, 50, 51, 52, 53, 54, 56, 57, 58, 61, 62, 63, 64]), (7, [], [49, 50, 51, 52, 53, 54, 55, 57, 61, 62, 63, 64]), (8, [], [49, 50, 51, 52, 53, 54, 55, 56, 61, 62, 63, 64]), (9, [7, 8], [49, 50, 51, 52, 53, 54, 55, 61, 62, 63, 64]), (10, [6, 7, 8, 9], [49, 50, 51, 52, 53, 54, 61, 62, 63, 64]), (11, [6, 7, 8, 9, 10], [49, 50, 51, 52, 53, 54, 61, 62, 63, 64]), (12, [], [49, 50, 51, 52, 53, 54, 55, 56, 57, 58, 59, 60, 62]), (13, [], [49, 50, 51, 52, 53, 54, 55, 56, 57, 58, 59, 60, 61]), (14, [12, 13], [49, 50, 51, 52, 53, 54, 55, 56, 57, 58, 59, 60]), (15, [12, 13, 14], [49, 50, 51, 52, 53, 54, 55, 56, 57, 58, 59, 60]), (16, [0, 1, 6, 7, 8, 9, 10, 11, 12, 13, 14, 15], [51, 52, 53, 54]), (17, [0, 1, 6, 7, 8, 9, 10, 11, 12, 13, 14, 15, 16], [51, 52, 53, 54]), (18, [0, 1, 2, 3, 4, 5, 6, 7, 8, 9, 10, 11, 12, 13, 14, 15, 16, 17], []), (19, [0, 1, 2, 3, 4, 5, 6, 7, 8, 9, 10, 11, 12, 13, 14, 15, 16, 17, 18], [])] mixed (by kernel_rfl) ?_
    repeat' first | refine wr (by omega) ?_ | refine ln ?_ | refine stp lay_ok rfl ?_ | refine fin ?_ | refine n_thn ?_ | refine n_blk ?_ | refine e_thn ?_ | refine e_hit ?_ | refine e_miss rfl ?_ | refine r_thn ?_ | refine r_blk ?_ | refine e_rr ?_ | refine r_rr ?_ | refine e_cr ?_ | refine r_cr ?_ | refine .seq ?_ | refine reg ?_ | refine .block ?_ | refine .skip ?_ | refine .ret ?_ | refine .exit ?_ | refine cndT rfl ?_ | refine cndF rfl ?_ | refine c_dec rfl (fun hc => ?_) (fun hc => ?_) | refine c_ndec rfl (fun hc => ?_) (fun hc => ?_) | refine cnd rfl (fun hc => ?_) (fun hc => ?_) | ((first | refine o_none rfl ?_ | refine o_none_ ?_ | refine o_yes rfl rfl rfl ?_ | refine o_yes_ rfl rfl ?_); first | refine st_indexL lay_ok rfl rfl rfl rfl (by omega) (by omega) ?_ | refine st_loadE (rowE x0) lay_ok rfl rfl rfl hat0 rfl rfl rfl ?_ | refine st_loadE (rowE x1) lay_ok rfl rfl rfl hat1 rfl rfl rfl ?_) | refine o_none_ (st_storeE lay_ok rfl rfl rfl hat0 rfl rfl rfl rfl ?_) | refine o_none_ (st_storeE lay_ok rfl rfl rfl hst2 rfl rfl rfl rfl ?_) | refine gd rfl rfl rfl (fun hg => ?_) (fun hg => ?_) | refine gn rfl rfl rfl (fun hg => ?_) (fun hg => ?_) | refine dwr (by omega) ?_ | refine dwl ?_ | refine dws lay_ok rfl rfl rfl rfl rfl rfl rfl ?_ | refine dwu lay_ok rfl rfl rfl rfl rfl rfl rfl rfl rfl ?_ | refine dw_end ?_ | refine dw_skip rfl rfl rfl ?_ | refine dwn lay_ok rfl rfl rfl rfl rfl ?_ | refine dwb rfl rfl rfl rfl rfl (by (first | refine st_indexL lay_ok rfl rfl rfl rfl (by omega) (by omega) ?_ | refine st_loadE (rowE x0) lay_ok rfl rfl rfl hat0 rfl rfl rfl ?_ | refine st_loadE (rowE x1) lay_ok rfl rfl rfl hat1 rfl rfl rfl ?_); exact fin rfl) rfl rfl ?_ | refine dwg rfl rfl rfl rfl rfl (by (first | refine st_indexL lay_ok rfl rfl rfl rfl (by omega) (by omega) ?_ | refine st_loadE (rowE x0) lay_ok rfl rfl rfl hat0 rfl rfl rfl ?_ | refine st_loadE (rowE x1) lay_ok rfl rfl rfl hat1 rfl rfl rfl ?_); exact fin rfl) rfl rfl rfl rfl rfl ?_ | refine dwv rfl rfl rfl rfl (by refine st_storeE lay_ok rfl rfl rfl hat0 rfl rfl rfl rfl ?_; exact fin rfl) rfl rfl rfl rfl ?_ | refine dwv rfl rfl rfl rfl (by refine st_storeE lay_ok rfl rfl rfl hst2 rfl rfl rfl rfl ?_; exact fin rfl) rfl rfl rfl rfl ?_ | refine dw_dec rfl rfl rfl (fun hg => ?_) (fun hg => ?_) | refine dw_ndec rfl rfl rfl (fun hg => ?_) (fun hg => ?_)
    refine n_rr ((k', idx + 1, z + 1, r', Sort.swp d idx (a + (o)))) ?_ (.of [0, 1] (by (repeat' first | exact trivial | refine And.intro ?_ ?_ | rfl | exact congrArg (fun r => some (AO.arr 3 r)) hfin); first | done | fail) (by (repeat' first | exact trivial | refine And.intro ?_ ?_ | rfl | exact congrArg (fun r => some (AO.arr 3 r)) hfin); first | done | fail) rfl) ?_
    · exact Nat.lt_succ_self _
    · exact ⟨hss.trans g1, by omega, by omega, by omega, g5⟩
end Go.Proofs.YtmekcbbieacioaaDoorFn
namespace Go.Proofs.YtmekcbbieacioaaDoorFn
open Go.Proofs.YtmekcbbieacioaaDoorAl Go.Proofs.Tryd
/-! ### the sort's recursion on short ranges, step by step -/
def pdqU (lt : EV → EV → Bool) (d : Array EV) (a b lim : Nat) (wb wp : Bool) (pv : Nat) : Array EV :=
  if (decide (a > 0) && !lt d[a - 1]! d[pv]!) = true then Sort.pdq lt (Sort.partitionEqual lt d a b pv).2 (Sort.partitionEqual lt d a b pv).1 b lim wb wp
  else if (Sort.partition lt d a b pv).1 - a < b - (Sort.partition lt d a b pv).1 then
    Sort.pdq lt (Sort.pdq lt (Sort.partition lt d a b pv).2.2 a (Sort.partition lt d a b pv).1 lim true true) ((Sort.partition lt d a b pv).1 + 1) b lim (decide ((Sort.partition lt d a b pv).1 - a ≥ (b - a) / 8)) (Sort.partition lt d a b pv).2.1
  else Sort.pdq lt (Sort.pdq lt (Sort.partition lt d a b pv).2.2 ((Sort.partition lt d a b pv).1 + 1) b lim true true) a (Sort.partition lt d a b pv).1 lim (decide (b - (Sort.partition lt d a b pv).1 ≥ (b - a) / 8)) (Sort.partition lt d a b pv).2.1
def pdqT (lt : EV → EV → Bool) (d : Array EV) (a b lim : Nat) (wb wp : Bool) (pv : Nat) (hint : Sort.Hint) : Array EV :=
  if (wb && wp && decide (hint = .increasing)) = true ∧ Sort.scanSorted lt d b (a + 1) = b then d else pdqU lt d a b lim wb wp pv
def pdqS (lt : EV → EV → Bool) (d : Array EV) (a b lim : Nat) (wb wp : Bool) : Array EV :=
  if (Sort.choosePivot lt d a b).2 = .decreasing then pdqT lt (Sort.reverseRange d a b) a b lim wb wp (b - 1 - ((Sort.choosePivot lt d a b).1 - a)) .increasing
  else pdqT lt d a b lim wb wp (Sort.choosePivot lt d a b).1 (Sort.choosePivot lt d a b).2
theorem partn_facts (lt : EV → EV → Bool) (d : Array EV) (a b pv : Nat) (h1 : a ≤ pv) (h2 : pv < b) (hb : b ≤ d.size) : a ≤ (Sort.partition lt d a b pv).1 ∧ (Sort.partition lt d a b pv).1 < b ∧ (Sort.partition lt d a b pv).2.2.size = d.size := by
  rw [Sort.partition_fst, Sort.partition_arr]
  have h := Sort.partLoop_spec (lt := lt) a b _ (a + 1) (b - 1) (Sort.swp d a pv) (Nat.le_refl _) (by omega) (by omega) (by omega) (by rw [swp_size]; exact hb) (fun t h1 h2 => by omega) (fun t h1 h2 => by omega)
  refine ⟨h.1, h.2.1, ?_⟩
  rw [swp_size, h.2.2.1.1, swp_size]
theorem parteq_facts (lt : EV → EV → Bool) (d : Array EV) (a b pv : Nat) (h1 : a ≤ pv) (h2 : pv < b) (hb : b ≤ d.size) : a < (Sort.partitionEqual lt d a b pv).1 ∧ (Sort.partitionEqual lt d a b pv).1 ≤ b ∧ (Sort.partitionEqual lt d a b pv).2.size = d.size := by
  have h := Sort.partEqLoop_spec (lt := lt) a b _ (a + 1) (b - 1) (Sort.swp d a pv) (Nat.le_refl _) (by omega) (by omega) (by omega) (by rw [swp_size]; exact hb) (fun t h1 h2 => by omega) (fun t h1 h2 => by omega)
  unfold Sort.partitionEqual
  refine ⟨h.1, h.2.1, ?_⟩
  rw [h.2.2.1.1, swp_size]
theorem brk_size (d : Array EV) (a b : Nat) (hab : a ≤ b) (hb : b ≤ d.size) : (Sort.breakPatterns d a b).size = d.size := (Sort.breakPatterns_holds d a b hab hb).1
theorem rev_size (d : Array EV) (a b : Nat) (hab : a ≤ b) (hb : b ≤ d.size) : (Sort.reverseRange d a b).size = d.size := (Sort.reverseRange_holds d a b hab hb).1
theorem pdqU_eq (lt : EV → EV → Bool) (d : Array EV) (a b lim : Nat) (wb wp : Bool) (pv : Nat) (h1 : a ≤ pv) (h2 : pv < b) (hb : b ≤ d.size) :
    (if (decide (a > 0) && !lt d[a - 1]! d[pv]!) = true then
      match Sort.partitionEqual lt d a b pv with
      | (mid, d4) => if _h : a < mid ∧ mid ≤ b then Sort.pdq lt d4 mid b lim wb wp else d4
    else
      match Sort.partition lt d a b pv with
      | (mid, alreadyPartitioned, d4) =>
        if _h : a ≤ mid ∧ mid < b then
          if mid - a < b - mid then Sort.pdq lt (Sort.pdq lt d4 a mid lim true true) (mid + 1) b lim (decide (mid - a ≥ (b - a) / 8)) alreadyPartitioned
          else Sort.pdq lt (Sort.pdq lt d4 (mid + 1) b lim true true) a mid lim (decide (b - mid ≥ (b - a) / 8)) alreadyPartitioned
        else d4) = pdqU lt d a b lim wb wp pv := by
  have p1 := partn_facts lt d a b pv h1 h2 hb
  have p2 := parteq_facts lt d a b pv h1 h2 hb
  unfold pdqU
  split
  · generalize Sort.partitionEqual lt d a b pv = E at *
    obtain ⟨m, d4⟩ := E
    simp only at p2 ⊢
    rw [dif_pos ⟨p2.1, p2.2.1⟩]
  · generalize Sort.partition lt d a b pv = E at *
    obtain ⟨m, ap, d4⟩ := E
    simp only at p1 ⊢
    rw [dif_pos ⟨p1.1, p1.2.1⟩]
theorem pdq_eq (lt : EV → EV → Bool) (d : Array EV) (a b lim : Nat) (wb wp : Bool) (hab : a ≤ b) (hb : b ≤ d.size) (h50 : b - a < 50) : Sort.pdq lt d a b lim wb wp =
    if b - a ≤ 12 then Sort.insertionSort lt d a b else if lim = 0 then Sort.heapSort lt d a b
    else pdqS lt (if wb = true then d else Sort.breakPatterns d a b) a b (if wb = true then lim else lim - 1) wb wp := by
  rw [Sort.pdq]
  split
  · rfl
  split
  · rfl
  have e1 : (if (!wb) = true then Sort.breakPatterns d a b else d) = if wb = true then d else Sort.breakPatterns d a b := by cases wb <;> rfl
  have e2 : (if (!wb) = true then lim - 1 else lim) = if wb = true then lim else lim - 1 := by cases wb <;> rfl
  simp only [e1, e2]
  have hs : (if wb = true then d else Sort.breakPatterns d a b).size = d.size := by
    split
    · rfl
    · exact brk_size d a b hab hb
  generalize (if wb = true then d else Sort.breakPatterns d a b) = d1 at *
  generalize (if wb = true then lim else lim - 1) = l1 at *
  have hpv := pivot_lt lt d1 a b (by omega)
  unfold pdqS pdqT
  generalize Sort.choosePivot lt d1 a b = C at *
  obtain ⟨c, hint⟩ := C
  simp only at *
  by_cases hd : hint = .decreasing
  · subst hd
    simp only [if_true]
    have hr := rev_size d1 a b hab (by omega)
    generalize Sort.reverseRange d1 a b = d2 at *
    rw [partial_eq lt d2 a b h50]
    have hU := pdqU_eq lt d2 a b l1 wb wp (b - 1 - (c - a)) (by omega) (by omega) (by omega)
    rw [← hU]
    by_cases hsc : Sort.scanSorted lt d2 b (a + 1) = b
    · cases wb <;> cases wp <;> simp [hsc]
    · cases wb <;> cases wp <;> simp [hsc]
  · simp only [if_neg hd]
    rw [partial_eq lt d1 a b h50]
    have hU := pdqU_eq lt d1 a b l1 wb wp c hpv.1 hpv.2 (by omega)
    rw [← hU]
    by_cases hsc : Sort.scanSorted lt d1 b (a + 1) = b
    · cases wb <;> cases wp <;> cases hint <;> simp [hsc]
    · cases wb <;> cases wp <;> cases hint <;> simp [hsc]
end Go.Proofs.YtmekcbbieacioaaDoorFn
namespace Go.Proofs.YtmekcbbieacioaaDoorFn
open Go.Proofs.YtmekcbbieacioaaDoorAl Go.Proofs.Tryd
attribute [local irreducible] IntKind.wrap CodeOk OpsL OpG ACalls thn inBlk rndR cutR WkR Wk fnR DW ExtOk partsOf
theorem b25 : HasBody prog 25 := ⟨f25, func25, Option.some_ne_none _, by decide⟩
theorem pdq_size (lt : EV → EV → Bool) (hs : Sort.SWO lt) : ∀ (m : Nat) (d : Array EV) (a b lim : Nat) (wb wp : Bool), b - a ≤ m → a ≤ b → b ≤ d.size → b - a < 50 → (Sort.pdq lt d a b lim wb wp).size = d.size := by
  intro m
  induction m with
  | zero =>
    intro d a b lim wb wp h1 h2 h3 h4
    rw [pdq_eq lt d a b lim wb wp h2 h3 h4, if_pos (by omega)]
    exact (Sort.insertionSort_holds hs d a b h2 h3).1.1
  | succ m ih =>
    intro d a b lim wb wp h1 h2 h3 h4
    rw [pdq_eq lt d a b lim wb wp h2 h3 h4]
    split
    · exact (Sort.insertionSort_holds hs d a b h2 h3).1.1
    split
    · exact (Sort.heapSort_holds hs d a b h2 h3).1.1
    have hz : (if wb = true then d else Sort.breakPatterns d a b).size = d.size := by
      split
      · rfl
      · exact brk_size d a b h2 h3
    generalize (if wb = true then d else Sort.breakPatterns d a b) = d1 at *
    generalize (if wb = true then lim else lim - 1) = l1 at *
    have hU : ∀ (d2 : Array EV) (pv : Nat), d2.size = d.size → a ≤ pv → pv < b → (pdqU lt d2 a b l1 wb wp pv).size = d.size := by
      intro d2 pv z2 q1 q2
      have p1 := partn_facts lt d2 a b pv q1 q2 (by omega)
      have p2 := parteq_facts lt d2 a b pv q1 q2 (by omega)
      unfold pdqU
      generalize Sort.partition lt d2 a b pv = P1 at *
      generalize Sort.partitionEqual lt d2 a b pv = P2 at *
      obtain ⟨m1, ap, d4⟩ := P1
      obtain ⟨m2, d5⟩ := P2
      simp only at p1 p2 ⊢
      split
      · rw [ih _ _ _ _ _ _ (by omega) (by omega) (by omega) (by omega)]; omega
      split
      · have e := ih d4 a m1 l1 true true (by omega) (by omega) (by omega) (by omega)
        rw [ih _ _ _ _ _ _ (by omega) (by omega) (by omega) (by omega), e]; omega
      · have e := ih d4 (m1 + 1) b l1 true true (by omega) (by omega) (by omega) (by omega)
        rw [ih _ _ _ _ _ _ (by omega) (by omega) (by omega) (by omega), e]; omega
    have hT : ∀ (d2 : Array EV) (pv : Nat) (hint : Sort.Hint), d2.size = d.size → a ≤ pv → pv < b → (pdqT lt d2 a b l1 wb wp pv hint).size = d.size := by
      intro d2 pv hint z2 q1 q2
      unfold pdqT
      split
      · exact z2
      · exact hU d2 pv z2 q1 q2
    have hpv := pivot_lt lt d1 a b (by omega)
    unfold pdqS
    split
    · exact hT _ _ _ ((rev_size d1 a b h2 (by omega)).trans hz) (by omega) (by omega)
    · exact hT _ _ _ hz hpv.1 hpv.2
end Go.Proofs.YtmekcbbieacioaaDoorFn
namespace Go.Proofs.YtmekcbbieacioaaDoorFn
open Go.Proofs.YtmekcbbieacioaaDoorAl Go.Proofs.Tryd
structure Hid (p : Prop) : Prop where
  out : p
attribute [local irreducible] IntKind.wrap CodeOk OpsL OpG ACalls thn inBlk rndR cutR WkR Wk fnR DW ExtOk partsOf
set_option maxHeartbeats 8000000 in
set_option maxRecDepth 4000 in
theorem pdqsort_ok (g : Nat) (bg : HasBody prog g) (cm : EV → EV → Int) (hcm : cmpH g cm) (hs : Sort.SWO (ltC cm)) (n : Nat) (hn : n ≤ 4000000000) : ∀ (m : Nat) (d0 : Array EV) (a0 b0 l0 : Nat), b0 - a0 < m → d0.size = n → a0 ≤ b0 → b0 ≤ n → b0 - a0 < 50 → l0 ≤ 64 →
    ACalls prog 25 1 [.lsl 0 3 0 n, I a0, I b0, I l0, fnG g] [(0, .arr 3 (rA d0))] fun r h => r = .tuple [] ∧ h = [(0, .arr 3 (rA (Sort.pdq (ltC cm) d0 a0 b0 l0 true true)))] := by
  intro m
  induction m with
  | zero => intro _ _ _ _ h; omega
  | succ m ih =>
  intro d0 a0 b0 l0 hm hn0 hab hb h50 hl0
  generalize hK : Sort.pdq (ltC cm) d0 a0 b0 l0 true true = K
  refine fnC lay_ok func25 rfl rfl rfl rfl rfl ?_
  repeat' first | refine wr (by omega) ?_ | refine ln ?_ | refine stp lay_ok rfl ?_ | refine fin ?_ | refine n_thn ?_ | refine n_blk ?_ | refine e_thn ?_ | refine e_hit ?_ | refine e_miss rfl ?_ | refine r_thn ?_ | refine r_blk ?_ | refine e_rr ?_ | refine r_rr ?_ | refine e_cr ?_ | refine r_cr ?_ | refine .seq ?_ | refine reg ?_ | refine .block ?_ | refine .skip ?_ | refine .ret ?_ | refine .exit ?_ | refine cndT rfl ?_ | refine cndF rfl ?_ | refine c_dec rfl (fun hc => ?_) (fun hc => ?_) | refine c_ndec rfl (fun hc => ?_) (fun hc => ?_) | refine cnd rfl (fun hc => ?_) (fun hc => ?_) | refine gd rfl rfl rfl (fun hg => ?_) (fun hg => ?_) | refine gn rfl rfl rfl (fun hg => ?_) (fun hg => ?_) | refine dwr (by omega) ?_ | refine dwl ?_ | refine dws lay_ok rfl rfl rfl rfl rfl rfl rfl ?_ | refine dwu lay_ok rfl rfl rfl rfl rfl rfl rfl rfl rfl ?_ | refine dw_end ?_ | refine dw_skip rfl rfl rfl ?_ | refine dwn lay_ok rfl rfl rfl rfl rfl ?_ | refine dw_dec rfl rfl rfl (fun hg => ?_) (fun hg => ?_) | refine dw_ndec rfl rfl rfl (fun hg => ?_) (fun hg => ?_)
  refine lpR (fun (a, b, lim, wb, wp, d, za, zb, zl) => d.size = n ∧ a ≤ b ∧ b ≤ n ∧ b - a ≤ b0 - a0 ∧ lim ≤ 64 ∧ K = Sort.pdq (ltC cm) d a b lim wb wp ∧ za = (a : Int) ∧ zb = (b : Int) ∧ zl = (lim : Int)) (fun (a, b, lim, wb, wp, d, za, zb, zl) => b - a) (fun (a, b, lim, wb, wp, d, za, zb, zl) => [(1, I za), (2, I zb), (3, I zl), (10, B wb), (11, B wp)]) (fun (a, b, lim, wb, wp, d, za, zb, zl) => [(0, .arr 3 (rA d))]) ((a0, b0, l0, true, true, d0, (a0 : Int), (b0 : Int), (l0 : Int))) [0, 4] [0] [] rfl rfl rfl (.of [] (by (repeat' first | exact trivial | refine And.intro ?_ ?_ | rfl); first | done | fail) (by (repeat' first | exact trivial | refine And.intro ?_ ?_ | rfl); first | done | fail) rfl) ?_ ?_
  · exact ⟨hn0, hab, hb, Nat.le_refl _, hl0, hK.symm, rfl, rfl, rfl⟩
  rintro ⟨a, b, lim, wb, wp, d, za, zb, zl⟩ ⟨g1, g2, g3, g4, g5, g6, rfl, rfl, rfl⟩
  refine nrm rfl rfl ?_
  clear hK
  have hqI := quoI (z := (b : Int) - (a : Int)) (m := b - a) (k := 8) (.inl (by omega)) (by decide) (by omega)
  rw [pdq_eq (ltC cm) d a b lim wb wp g2 (by omega) (by omega)] at g6
  by_cases hle : b - a ≤ 12
  · rw [if_pos hle] at g6
    subst g6
    have hi := insSort_ok g bg cm hcm d a b (by omega) g2 (by omega)
    rw [g1] at hi
    repeat' first | refine wr (by omega) ?_ | refine ln ?_ | refine stp lay_ok rfl ?_ | refine fin ?_ | refine n_thn ?_ | refine n_blk ?_ | refine e_thn ?_ | refine e_hit ?_ | refine e_miss rfl ?_ | refine r_thn ?_ | refine r_blk ?_ | refine e_rr ?_ | refine r_rr ?_ | refine e_cr ?_ | refine r_cr ?_ | refine .seq ?_ | refine reg ?_ | refine .block ?_ | refine .skip ?_ | refine .ret ?_ | refine .exit ?_ | refine cndT rfl ?_ | refine cndF rfl ?_ | refine c_dec rfl (fun hc => ?_) (fun hc => ?_) | refine c_ndec rfl (fun hc => ?_) (fun hc => ?_) | refine cnd rfl (fun hc => ?_) (fun hc => ?_) | ((first | refine o_none rfl ?_ | refine o_none_ ?_ | refine o_yes rfl rfl rfl ?_ | refine o_yes_ rfl rfl ?_); first | refine st_callF 0 (hi) b40 rfl rfl rfl rfl rfl rfl (by (repeat' first | exact trivial | refine And.intro ?_ ?_ | rfl); first | done | fail) rfl ?_) | refine gd rfl rfl rfl (fun hg => ?_) (fun hg => ?_) | refine gn rfl rfl rfl (fun hg => ?_) (fun hg => ?_) | refine dwr (by omega) ?_ | refine dwl ?_ | refine dws lay_ok rfl rfl rfl rfl rfl rfl rfl ?_ | refine dwu lay_ok rfl rfl rfl rfl rfl rfl rfl rfl rfl ?_ | refine dw_end ?_ | refine dw_skip rfl rfl rfl ?_ | refine dwn lay_ok rfl rfl rfl rfl rfl ?_ | refine dwb rfl rfl rfl rfl rfl (by (first | refine st_callF 0 (hi) b40 rfl rfl rfl rfl rfl rfl (by (repeat' first | exact trivial | refine And.intro ?_ ?_ | rfl); first | done | fail) rfl ?_); exact fin rfl) rfl rfl ?_ | refine dwg rfl rfl rfl rfl rfl (by (first | refine st_callF 0 (hi) b40 rfl rfl rfl rfl rfl rfl (by (repeat' first | exact trivial | refine And.intro ?_ ?_ | rfl); first | done | fail) rfl ?_); exact fin rfl) rfl rfl rfl rfl rfl ?_ | refine dw_dec rfl rfl rfl (fun hg => ?_) (fun hg => ?_) | refine dw_ndec rfl rfl rfl (fun hg => ?_) (fun hg => ?_)
    all_goals first
      | (exfalso; omega)
      | skip
    refine f_r [(0, .arr 3 (rA (Sort.insertionSort (ltC cm) d a b)))] rfl (by (repeat' first | exact trivial | refine And.intro ?_ ?_ | rfl); first | done | fail) rfl ⟨?_, rfl⟩
    rfl
  rw [if_neg hle] at g6
  by_cases hl : lim = 0
  · rw [if_pos hl] at g6
    subst g6
    have hi := heap_ok g bg cm hcm d a b g2 (by omega) (by omega)
    rw [g1] at hi
    repeat' first | refine wr (by omega) ?_ | refine ln ?_ | refine stp lay_ok rfl ?_ | refine fin ?_ | refine n_thn ?_ | refine n_blk ?_ | refine e_thn ?_ | refine e_hit ?_ | refine e_miss rfl ?_ | refine r_thn ?_ | refine r_blk ?_ | refine e_rr ?_ | refine r_rr ?_ | refine e_cr ?_ | refine r_cr ?_ | refine .seq ?_ | refine reg ?_ | refine .block ?_ | refine .skip ?_ | refine .ret ?_ | refine .exit ?_ | refine cndT rfl ?_ | refine cndF rfl ?_ | refine c_dec rfl (fun hc => ?_) (fun hc => ?_) | refine c_ndec rfl (fun hc => ?_) (fun hc => ?_) | refine cnd rfl (fun hc => ?_) (fun hc => ?_) | ((first | refine o_none rfl ?_ | refine o_none_ ?_ | refine o_yes rfl rfl rfl ?_ | refine o_yes_ rfl rfl ?_); first | refine st_callF 0 (hi) b41 rfl rfl rfl rfl rfl rfl (by (repeat' first | exact trivial | refine And.intro ?_ ?_ | rfl); first | done | fail) rfl ?_) | refine gd rfl rfl rfl (fun hg => ?_) (fun hg => ?_) | refine gn rfl rfl rfl (fun hg => ?_) (fun hg => ?_) | refine dwr (by omega) ?_ | refine dwl ?_ | refine dws lay_ok rfl rfl rfl rfl rfl rfl rfl ?_ | refine dwu lay_ok rfl rfl rfl rfl rfl rfl rfl rfl rfl ?_ | refine dw_end ?_ | refine dw_skip rfl rfl rfl ?_ | refine dwn lay_ok rfl rfl rfl rfl rfl ?_ | refine dwb rfl rfl rfl rfl rfl (by (first | refine st_callF 0 (hi) b41 rfl rfl rfl rfl rfl rfl (by (repeat' first | exact trivial | refine And.intro ?_ ?_ | rfl); first | done | fail) rfl ?_); exact fin rfl) rfl rfl ?_ | refine dwg rfl rfl rfl rfl rfl (by (first | refine st_callF 0 (hi) b41 rfl rfl rfl rfl rfl rfl (by (repeat' first | exact trivial | refine And.intro ?_ ?_ | rfl); first | done | fail) rfl ?_); exact fin rfl) rfl rfl rfl rfl rfl ?_ | refine dw_dec rfl rfl rfl (fun hg => ?_) (fun hg => ?_) | refine dw_ndec rfl rfl rfl (fun hg => ?_) (fun hg => ?_)
    all_goals first
      | (exfalso; omega)
      | skip
    refine f_r [(0, .arr 3 (rA (Sort.heapSort (ltC cm) d a b)))] rfl (by (repeat' first | exact trivial | refine And.intro ?_ ?_ | rfl); first | done | fail) rfl ⟨?_, rfl⟩
    rfl
  rw [if_neg hl] at g6
  have hbr := break_ok g d n a b g1 (by omega) g3 hn (by omega) (by omega)
  have hbz := brk_size d a b g2 (by omega)
  obtain ⟨l1, hl1, zl⟩ : ∃ l1, l1 = (if wb = true then lim else lim - 1) ∧ l1 ≤ 64 := ⟨_, rfl, by split <;> omega⟩
  obtain ⟨d1, hd1, z1⟩ : ∃ d1, d1 = (if wb = true then d else Sort.breakPatterns d a b) ∧ d1.size = n := ⟨_, rfl, by split <;> omega⟩
  rw [← hd1, ← hl1] at g6
  repeat' first | refine cutr (x := .seq (.region 7 _ _) _) (fun s' => s' = ⟨f25.ntmps, 1, [(0, .lsl 0 3 0 n), (1, I a), (2, I b), (3, I l1), (4, fnG g), (10, B wb), (11, B wp), (12, .st (.int .i64 ((b : Int) - (a : Int))))], [(0, .arr 3 (rA d1))]⟩) ?_ ?_ | refine wr (by omega) ?_ | refine ln ?_ | refine stp lay_ok rfl ?_ | refine fin ?_ | refine n_thn ?_ | refine n_blk ?_ | refine e_thn ?_ | refine e_hit ?_ | refine e_miss rfl ?_ | refine r_thn ?_ | refine r_blk ?_ | refine e_rr ?_ | refine r_rr ?_ | refine e_cr ?_ | refine r_cr ?_ | refine .seq ?_ | refine reg ?_ | refine .block ?_ | refine .skip ?_ | refine .ret ?_ | refine .exit ?_ | refine cndT rfl ?_ | refine cndF rfl ?_ | refine c_dec rfl (fun hc => ?_) (fun hc => ?_) | refine c_ndec rfl (fun hc => ?_) (fun hc => ?_) | refine cnd rfl (fun hc => ?_) (fun hc => ?_) | refine gd rfl rfl rfl (fun hg => ?_) (fun hg => ?_) | refine gn rfl rfl rfl (fun hg => ?_) (fun hg => ?_) | refine dwr (by omega) ?_ | refine dwl ?_ | refine dws lay_ok rfl rfl rfl rfl rfl rfl rfl ?_ | refine dwu lay_ok rfl rfl rfl rfl rfl rfl rfl rfl rfl ?_ | refine dw_end ?_ | refine dw_skip rfl rfl rfl ?_ | refine dwn lay_ok rfl rfl rfl rfl rfl ?_ | refine dw_dec rfl rfl rfl (fun hg => ?_) (fun hg => ?_) | refine dw_ndec rfl rfl rfl (fun hg => ?_) (fun hg => ?_)
  all_goals first
    | (exfalso; omega)
    | skip
  · repeat' first | refine wr (by omega) ?_ | refine ln ?_ | refine stp lay_ok rfl ?_ | refine fin ?_ | refine n_thn ?_ | refine n_blk ?_ | refine e_thn ?_ | refine e_hit ?_ | refine e_miss rfl ?_ | refine r_thn ?_ | refine r_blk ?_ | refine e_rr ?_ | refine r_rr ?_ | refine e_cr ?_ | refine r_cr ?_ | refine .seq ?_ | refine reg ?_ | refine .block ?_ | refine .skip ?_ | refine .ret ?_ | refine .exit ?_ | refine cndT rfl ?_ | refine cndF rfl ?_ | refine c_dec rfl (fun hc => ?_) (fun hc => ?_) | refine c_ndec rfl (fun hc => ?_) (fun hc => ?_) | refine cnd rfl (fun hc => ?_) (fun hc => ?_) | ((first | refine o_none rfl ?_ | refine o_none_ ?_ | refine o_yes rfl rfl rfl ?_ | refine o_yes_ rfl rfl ?_); first | refine st_callF 0 (hbr) b42 rfl rfl rfl rfl rfl rfl (by (repeat' first | exact trivial | refine And.intro ?_ ?_ | rfl); first | done | fail) rfl ?_) | refine gd rfl rfl rfl (fun hg => ?_) (fun hg => ?_) | refine gn rfl rfl rfl (fun hg => ?_) (fun hg => ?_) | refine dwr (by omega) ?_ | refine dwl ?_ | refine dws lay_ok rfl rfl rfl rfl rfl rfl rfl ?_ | refine dwu lay_ok rfl rfl rfl rfl rfl rfl rfl rfl rfl ?_ | refine dw_end ?_ | refine dw_skip rfl rfl rfl ?_ | refine dwn lay_ok rfl rfl rfl rfl rfl ?_ | refine dwb rfl rfl rfl rfl rfl (by (first | refine st_callF 0 (hbr) b42 rfl rfl rfl rfl rfl rfl (by (repeat' first | exact trivial | refine And.intro ?_ ?_ | rfl); first | done | fail) rfl ?_); exact fin rfl) rfl rfl ?_ | refine dwg rfl rfl rfl rfl rfl (by (first | refine st_callF 0 (hbr) b42 rfl rfl rfl rfl rfl rfl (by (repeat' first | exact trivial | refine And.intro ?_ ?_ | rfl); first | done | fail) rfl ?_); exact fin rfl) rfl rfl rfl rfl rfl ?_ | refine dw_dec rfl rfl rfl (fun hg => ?_) (fun hg => ?_) | refine dw_ndec rfl rfl rfl (fun hg => ?_) (fun hg => ?_)
    cases wb with
    | true => exact absurd hc (by decide)
    | false =>
      simp only [Bool.false_eq_true, if_false] at hd1 hl1
      subst hd1
      have hl1' : (lim : Int) - 1 = (l1 : Int) := by omega
      refine n_cr _ (.of [0] (by (repeat' first | exact trivial | refine And.intro ?_ ?_ | rfl | exact congrArg (fun z : Int => some (AV.st (.int .i64 z))) hl1'); first | done | fail) (by (repeat' first | exact trivial | refine And.intro ?_ ?_ | rfl | exact congrArg (fun z : Int => some (AV.st (.int .i64 z))) hl1'); first | done | fail) rfl) (Nat.le_refl _) rfl
  · cases wb with
    | false => exact absurd hc (by decide)
    | true =>
      simp only [if_true] at hd1 hl1
      subst hd1 hl1
      refine n_cr _ (.of [0] (by (repeat' first | exact trivial | refine And.intro ?_ ?_ | rfl); first | done | fail) (by (repeat' first | exact trivial | refine And.intro ?_ ?_ | rfl); first | done | fail) rfl) (Nat.le_refl _) rfl
  rintro _ rfl
  refine nrm rfl rfl ?_
  have hpo := pivot_ok g bg cm hcm d1 n a b z1 (by omega) g3 hn (by omega) (by omega)
  have hpl := pivot_lt (ltC cm) d1 a b (by omega)
  have hrv := rev_ok g d1 a b (by omega) (by omega) (by omega)
  rw [z1] at hrv
  have hrz := rev_size d1 a b g2 (by omega)
  unfold pdqS at g6
  generalize Sort.reverseRange d1 a b = dr at *
  generalize Sort.choosePivot (ltC cm) d1 a b = C at *
  obtain ⟨c, hint⟩ := C
  simp only at hpo hpl g6
  have hz2 : hint = .decreasing ↔ hintI hint = 2 := by cases hint <;> decide
  obtain ⟨d2, c2, hint2, hE, z2, q1, q2, hK⟩ : ∃ d2 c2 hint2, ((hint = .decreasing ∧ d2 = dr ∧ c2 = b - 1 - (c - a) ∧ hint2 = .increasing) ∨ (¬ hint = .decreasing ∧ d2 = d1 ∧ c2 = c ∧ hint2 = hint)) ∧ d2.size = n ∧ a ≤ c2 ∧ c2 < b ∧ K = pdqT (ltC cm) d2 a b l1 wb wp c2 hint2 := by
    by_cases hd : hint = .decreasing
    · rw [if_pos hd] at g6
      exact ⟨_, _, _, .inl ⟨hd, rfl, rfl, rfl⟩, by omega, by omega, by omega, g6⟩
    · rw [if_neg hd] at g6
      exact ⟨_, _, _, .inr ⟨hd, rfl, rfl, rfl⟩, by omega, by omega, by omega, g6⟩
  repeat' first | refine cutr (x := .seq (.region 11 _ _) _) (fun s' => s' = ⟨f25.ntmps, 1, [(0, .lsl 0 3 0 n), (1, I a), (2, I b), (3, I l1), (4, fnG g), (10, B wb), (11, B wp), (12, .st (.int .i64 ((b : Int) - (a : Int)))), (13, I c2), (14, I (hintI hint2))], [(0, .arr 3 (rA d2))]⟩) ?_ ?_ | refine wr (by omega) ?_ | refine ln ?_ | refine stp lay_ok rfl ?_ | refine fin ?_ | refine n_thn ?_ | refine n_blk ?_ | refine e_thn ?_ | refine e_hit ?_ | refine e_miss rfl ?_ | refine r_thn ?_ | refine r_blk ?_ | refine e_rr ?_ | refine r_rr ?_ | refine e_cr ?_ | refine r_cr ?_ | refine .seq ?_ | refine reg ?_ | refine .block ?_ | refine .skip ?_ | refine .ret ?_ | refine .exit ?_ | refine cndT rfl ?_ | refine cndF rfl ?_ | refine c_dec rfl (fun hc => ?_) (fun hc => ?_) | refine c_ndec rfl (fun hc => ?_) (fun hc => ?_) | refine cnd rfl (fun hc => ?_) (fun hc => ?_) | ((first | refine o_none rfl ?_ | refine o_none_ ?_ | refine o_yes rfl rfl rfl ?_ | refine o_yes_ rfl rfl ?_); first | refine st_callF 0 (hpo) b43 rfl rfl rfl rfl rfl rfl (by (repeat' first | exact trivial | refine And.intro ?_ ?_ | rfl); first | done | fail) rfl ?_) | refine gd rfl rfl rfl (fun hg => ?_) (fun hg => ?_) | refine gn rfl rfl rfl (fun hg => ?_) (fun hg => ?_) | refine dwr (by omega) ?_ | refine dwl ?_ | refine dws lay_ok rfl rfl rfl rfl rfl rfl rfl ?_ | refine dwu lay_ok rfl rfl rfl rfl rfl rfl rfl rfl rfl ?_ | refine dw_end ?_ | refine dw_skip rfl rfl rfl ?_ | refine dwn lay_ok rfl rfl rfl rfl rfl ?_ | refine dwb rfl rfl rfl rfl rfl (by (first | refine st_callF 0 (hpo) b43 rfl rfl rfl rfl rfl rfl (by (repeat' first | exact trivial | refine And.intro ?_ ?_ | rfl); first | done | fail) rfl ?_); exact fin rfl) rfl rfl ?_ | refine dwg rfl rfl rfl rfl rfl (by (first | refine st_callF 0 (hpo) b43 rfl rfl rfl rfl rfl rfl (by (repeat' first | exact trivial | refine And.intro ?_ ?_ | rfl); first | done | fail) rfl ?_); exact fin rfl) rfl rfl rfl rfl rfl ?_ | refine dw_dec rfl rfl rfl (fun hg => ?_) (fun hg => ?_) | refine dw_ndec rfl rfl rfl (fun hg => ?_) (fun hg => ?_)
  · repeat' first | refine wr (by omega) ?_ | refine ln ?_ | refine stp lay_ok rfl ?_ | refine fin ?_ | refine n_thn ?_ | refine n_blk ?_ | refine e_thn ?_ | refine e_hit ?_ | refine e_miss rfl ?_ | refine r_thn ?_ | refine r_blk ?_ | refine e_rr ?_ | refine r_rr ?_ | refine e_cr ?_ | refine r_cr ?_ | refine .seq ?_ | refine reg ?_ | refine .block ?_ | refine .skip ?_ | refine .ret ?_ | refine .exit ?_ | refine cndT rfl ?_ | refine cndF rfl ?_ | refine c_dec rfl (fun hc => ?_) (fun hc => ?_) | refine c_ndec rfl (fun hc => ?_) (fun hc => ?_) | refine cnd rfl (fun hc => ?_) (fun hc => ?_) | ((first | refine o_none rfl ?_ | refine o_none_ ?_ | refine o_yes rfl rfl rfl ?_ | refine o_yes_ rfl rfl ?_); first | refine st_callF 0 (hrv) b44 rfl rfl rfl rfl rfl rfl (by (repeat' first | exact trivial | refine And.intro ?_ ?_ | rfl); first | done | fail) rfl ?_) | refine gd rfl rfl rfl (fun hg => ?_) (fun hg => ?_) | refine gn rfl rfl rfl (fun hg => ?_) (fun hg => ?_) | refine dwr (by omega) ?_ | refine dwl ?_ | refine dws lay_ok rfl rfl rfl rfl rfl rfl rfl ?_ | refine dwu lay_ok rfl rfl rfl rfl rfl rfl rfl rfl rfl ?_ | refine dw_end ?_ | refine dw_skip rfl rfl rfl ?_ | refine dwn lay_ok rfl rfl rfl rfl rfl ?_ | refine dwb rfl rfl rfl rfl rfl (by (first | refine st_callF 0 (hrv) b44 rfl rfl rfl rfl rfl rfl (by (repeat' first | exact trivial | refine And.intro ?_ ?_ | rfl); first | done | fail) rfl ?_); exact fin rfl) rfl rfl ?_ | refine dwg rfl rfl rfl rfl rfl (by (first | refine st_callF 0 (hrv) b44 rfl rfl rfl rfl rfl rfl (by (repeat' first | exact trivial | refine And.intro ?_ ?_ | rfl); first | done | fail) rfl ?_); exact fin rfl) rfl rfl rfl rfl rfl ?_ | refine dw_dec rfl rfl rfl (fun hg => ?_) (fun hg => ?_) | refine dw_ndec rfl rfl rfl (fun hg => ?_) (fun hg => ?_)
    obtain ⟨h1, rfl, h3, rfl⟩ | ⟨h1, _⟩ := hE
    · have h3' : (b : Int) - 1 - ((c : Int) - (a : Int)) = (c2 : Int) := by omega
      refine n_cr _ (.of [0] (by (repeat' first | exact trivial | refine And.intro ?_ ?_ | rfl | exact congrArg (fun z : Int => some (AV.st (.int .i64 z))) h3'); first | done | fail) (by (repeat' first | exact trivial | refine And.intro ?_ ?_ | rfl | exact congrArg (fun z : Int => some (AV.st (.int .i64 z))) h3'); first | done | fail) rfl) (Nat.le_refl _) rfl
    · exact absurd (hz2.mpr hc) h1
  · obtain ⟨h1, _⟩ | ⟨h1, rfl, rfl, rfl⟩ := hE
    · exact absurd (hz2.mp h1) hc
    · refine n_cr _ (.of [0] (by (repeat' first | exact trivial | refine And.intro ?_ ?_ | rfl); first | done | fail) (by (repeat' first | exact trivial | refine And.intro ?_ ?_ | rfl); first | done | fail) rfl) (Nat.le_refl _) rfl
  rintro _ rfl
  refine nrm rfl rfl ?_
  have hpt := partial_ok g bg cm hcm d2 n a b z2 (by omega) g3 hn (by omega)
  rw [partial_eq _ _ _ _ (by omega)] at hpt
  simp only at hpt
  unfold pdqT at hK
  have hz1 : hint2 = .increasing ↔ hintI hint2 = 1 := by cases hint2 <;> decide
  refine cutr (x := .seq (.region 15 _ _) _) (fun s' => s' = ⟨f25.ntmps, 1, [(0, .lsl 0 3 0 n), (1, I a), (2, I b), (3, I l1), (4, fnG g), (10, B wb), (11, B wp), (12, .st (.int .i64 ((b : Int) - (a : Int)))), (13, I c2)], [(0, .arr 3 (rA d2))]⟩ ∧ K = pdqU (ltC cm) d2 a b l1 wb wp c2) ?_ ?_
  · cases wb
    · simp only [Bool.false_and, Bool.false_eq_true, false_and, if_false] at hK
      repeat' first | refine wr (by omega) ?_ | refine ln ?_ | refine stp lay_ok rfl ?_ | refine fin ?_ | refine n_thn ?_ | refine n_blk ?_ | refine e_thn ?_ | refine e_hit ?_ | refine e_miss rfl ?_ | refine r_thn ?_ | refine r_blk ?_ | refine e_rr ?_ | refine r_rr ?_ | refine e_cr ?_ | refine r_cr ?_ | refine .seq ?_ | refine reg ?_ | refine .block ?_ | refine .skip ?_ | refine .ret ?_ | refine .exit ?_ | refine cndT rfl ?_ | refine cndF rfl ?_ | refine c_dec rfl (fun hc => ?_) (fun hc => ?_) | refine c_ndec rfl (fun hc => ?_) (fun hc => ?_) | refine cnd rfl (fun hc => ?_) (fun hc => ?_) | refine gd rfl rfl rfl (fun hg => ?_) (fun hg => ?_) | refine gn rfl rfl rfl (fun hg => ?_) (fun hg => ?_) | refine dwr (by omega) ?_ | refine dwl ?_ | refine dws lay_ok rfl rfl rfl rfl rfl rfl rfl ?_ | refine dwu lay_ok rfl rfl rfl rfl rfl rfl rfl rfl rfl ?_ | refine dw_end ?_ | refine dw_skip rfl rfl rfl ?_ | refine dwn lay_ok rfl rfl rfl rfl rfl ?_ | refine dw_dec rfl rfl rfl (fun hg => ?_) (fun hg => ?_) | refine dw_ndec rfl rfl rfl (fun hg => ?_) (fun hg => ?_)
      refine n_cr _ (.of [0] (by (repeat' first | exact trivial | refine And.intro ?_ ?_ | rfl); first | done | fail) (by (repeat' first | exact trivial | refine And.intro ?_ ?_ | rfl); first | done | fail) rfl) (Nat.le_refl _) ⟨rfl, ?_⟩
      exact hK
    cases wp
    · simp only [Bool.and_false, Bool.false_and, Bool.false_eq_true, false_and, if_false] at hK
      repeat' first | refine wr (by omega) ?_ | refine ln ?_ | refine stp lay_ok rfl ?_ | refine fin ?_ | refine n_thn ?_ | refine n_blk ?_ | refine e_thn ?_ | refine e_hit ?_ | refine e_miss rfl ?_ | refine r_thn ?_ | refine r_blk ?_ | refine e_rr ?_ | refine r_rr ?_ | refine e_cr ?_ | refine r_cr ?_ | refine .seq ?_ | refine reg ?_ | refine .block ?_ | refine .skip ?_ | refine .ret ?_ | refine .exit ?_ | refine cndT rfl ?_ | refine cndF rfl ?_ | refine c_dec rfl (fun hc => ?_) (fun hc => ?_) | refine c_ndec rfl (fun hc => ?_) (fun hc => ?_) | refine cnd rfl (fun hc => ?_) (fun hc => ?_) | refine gd rfl rfl rfl (fun hg => ?_) (fun hg => ?_) | refine gn rfl rfl rfl (fun hg => ?_) (fun hg => ?_) | refine dwr (by omega) ?_ | refine dwl ?_ | refine dws lay_ok rfl rfl rfl rfl rfl rfl rfl ?_ | refine dwu lay_ok rfl rfl rfl rfl rfl rfl rfl rfl rfl ?_ | refine dw_end ?_ | refine dw_skip rfl rfl rfl ?_ | refine dwn lay_ok rfl rfl rfl rfl rfl ?_ | refine dw_dec rfl rfl rfl (fun hg => ?_) (fun hg => ?_) | refine dw_ndec rfl rfl rfl (fun hg => ?_) (fun hg => ?_)
      refine n_cr _ (.of [0] (by (repeat' first | exact trivial | refine And.intro ?_ ?_ | rfl); first | done | fail) (by (repeat' first | exact trivial | refine And.intro ?_ ?_ | rfl); first | done | fail) rfl) (Nat.le_refl _) ⟨rfl, ?_⟩
      exact hK
    by_cases hh : hintI hint2 = 1
    · rw [hz1.mpr hh] at hK
      by_cases hsc : Sort.scanSorted (ltC cm) d2 b (a + 1) = b
      · rw [if_pos ⟨rfl, hsc⟩] at hK
        subst hK
        repeat' first | refine wr (by omega) ?_ | refine ln ?_ | refine stp lay_ok rfl ?_ | refine fin ?_ | refine n_thn ?_ | refine n_blk ?_ | refine e_thn ?_ | refine e_hit ?_ | refine e_miss rfl ?_ | refine r_thn ?_ | refine r_blk ?_ | refine e_rr ?_ | refine r_rr ?_ | refine e_cr ?_ | refine r_cr ?_ | refine .seq ?_ | refine reg ?_ | refine .block ?_ | refine .skip ?_ | refine .ret ?_ | refine .exit ?_ | refine cndT rfl ?_ | refine cndF rfl ?_ | refine c_dec rfl (fun hc => ?_) (fun hc => ?_) | refine c_ndec rfl (fun hc => ?_) (fun hc => ?_) | refine cnd rfl (fun hc => ?_) (fun hc => ?_) | ((first | refine o_none rfl ?_ | refine o_none_ ?_ | refine o_yes rfl rfl rfl ?_ | refine o_yes_ rfl rfl ?_); first | refine st_callF 0 (hpt) b45 rfl rfl rfl rfl rfl rfl (by (repeat' first | exact trivial | refine And.intro ?_ ?_ | rfl); first | done | fail) rfl ?_) | refine gd rfl rfl rfl (fun hg => ?_) (fun hg => ?_) | refine gn rfl rfl rfl (fun hg => ?_) (fun hg => ?_) | refine dwr (by omega) ?_ | refine dwl ?_ | refine dws lay_ok rfl rfl rfl rfl rfl rfl rfl ?_ | refine dwu lay_ok rfl rfl rfl rfl rfl rfl rfl rfl rfl ?_ | refine dw_end ?_ | refine dw_skip rfl rfl rfl ?_ | refine dwn lay_ok rfl rfl rfl rfl rfl ?_ | refine dwb rfl rfl rfl rfl rfl (by (first | refine st_callF 0 (hpt) b45 rfl rfl rfl rfl rfl rfl (by (repeat' first | exact trivial | refine And.intro ?_ ?_ | rfl); first | done | fail) rfl ?_); exact fin rfl) rfl rfl ?_ | refine dwg rfl rfl rfl rfl rfl (by (first | refine st_callF 0 (hpt) b45 rfl rfl rfl rfl rfl rfl (by (repeat' first | exact trivial | refine And.intro ?_ ?_ | rfl); first | done | fail) rfl ?_); exact fin rfl) rfl rfl rfl rfl rfl ?_ | refine dw_dec rfl rfl rfl (fun hg => ?_) (fun hg => ?_) | refine dw_ndec rfl rfl rfl (fun hg => ?_) (fun hg => ?_)
        all_goals first
          | contradiction
          | skip
        refine f_r [(0, .arr 3 (rA K))] rfl (by (repeat' first | exact trivial | refine And.intro ?_ ?_ | rfl); first | done | fail) rfl ⟨?_, rfl⟩
        rfl
      · rw [if_neg (fun h => hsc h.2)] at hK
        repeat' first | refine wr (by omega) ?_ | refine ln ?_ | refine stp lay_ok rfl ?_ | refine fin ?_ | refine n_thn ?_ | refine n_blk ?_ | refine e_thn ?_ | refine e_hit ?_ | refine e_miss rfl ?_ | refine r_thn ?_ | refine r_blk ?_ | refine e_rr ?_ | refine r_rr ?_ | refine e_cr ?_ | refine r_cr ?_ | refine .seq ?_ | refine reg ?_ | refine .block ?_ | refine .skip ?_ | refine .ret ?_ | refine .exit ?_ | refine cndT rfl ?_ | refine cndF rfl ?_ | refine c_dec rfl (fun hc => ?_) (fun hc => ?_) | refine c_ndec rfl (fun hc => ?_) (fun hc => ?_) | refine cnd rfl (fun hc => ?_) (fun hc => ?_) | ((first | refine o_none rfl ?_ | refine o_none_ ?_ | refine o_yes rfl rfl rfl ?_ | refine o_yes_ rfl rfl ?_); first | refine st_callF 0 (hpt) b45 rfl rfl rfl rfl rfl rfl (by (repeat' first | exact trivial | refine And.intro ?_ ?_ | rfl); first | done | fail) rfl ?_) | refine gd rfl rfl rfl (fun hg => ?_) (fun hg => ?_) | refine gn rfl rfl rfl (fun hg => ?_) (fun hg => ?_) | refine dwr (by omega) ?_ | refine dwl ?_ | refine dws lay_ok rfl rfl rfl rfl rfl rfl rfl ?_ | refine dwu lay_ok rfl rfl rfl rfl rfl rfl rfl rfl rfl ?_ | refine dw_end ?_ | refine dw_skip rfl rfl rfl ?_ | refine dwn lay_ok rfl rfl rfl rfl rfl ?_ | refine dwb rfl rfl rfl rfl rfl (by (first | refine st_callF 0 (hpt) b45 rfl rfl rfl rfl rfl rfl (by (repeat' first | exact trivial | refine And.intro ?_ ?_ | rfl); first | done | fail) rfl ?_); exact fin rfl) rfl rfl ?_ | refine dwg rfl rfl rfl rfl rfl (by (first | refine st_callF 0 (hpt) b45 rfl rfl rfl rfl rfl rfl (by (repeat' first | exact trivial | refine And.intro ?_ ?_ | rfl); first | done | fail) rfl ?_); exact fin rfl) rfl rfl rfl rfl rfl ?_ | refine dw_dec rfl rfl rfl (fun hg => ?_) (fun hg => ?_) | refine dw_ndec rfl rfl rfl (fun hg => ?_) (fun hg => ?_)
        all_goals first
          | contradiction
          | skip
        refine n_cr _ (.of [0] (by (repeat' first | exact trivial | refine And.intro ?_ ?_ | rfl); first | done | fail) (by (repeat' first | exact trivial | refine And.intro ?_ ?_ | rfl); first | done | fail) rfl) (Nat.le_refl _) ⟨rfl, ?_⟩
        exact hK
    · rw [if_neg (fun h => hh (hz1.mp (by simpa using h.1)))] at hK
      repeat' first | refine wr (by omega) ?_ | refine ln ?_ | refine stp lay_ok rfl ?_ | refine fin ?_ | refine n_thn ?_ | refine n_blk ?_ | refine e_thn ?_ | refine e_hit ?_ | refine e_miss rfl ?_ | refine r_thn ?_ | refine r_blk ?_ | refine e_rr ?_ | refine r_rr ?_ | refine e_cr ?_ | refine r_cr ?_ | refine .seq ?_ | refine reg ?_ | refine .block ?_ | refine .skip ?_ | refine .ret ?_ | refine .exit ?_ | refine cndT rfl ?_ | refine cndF rfl ?_ | refine c_dec rfl (fun hc => ?_) (fun hc => ?_) | refine c_ndec rfl (fun hc => ?_) (fun hc => ?_) | refine cnd rfl (fun hc => ?_) (fun hc => ?_) | ((first | refine o_none rfl ?_ | refine o_none_ ?_ | refine o_yes rfl rfl rfl ?_ | refine o_yes_ rfl rfl ?_); first | refine st_callF 0 (hpt) b45 rfl rfl rfl rfl rfl rfl (by (repeat' first | exact trivial | refine And.intro ?_ ?_ | rfl); first | done | fail) rfl ?_) | refine gd rfl rfl rfl (fun hg => ?_) (fun hg => ?_) | refine gn rfl rfl rfl (fun hg => ?_) (fun hg => ?_) | refine dwr (by omega) ?_ | refine dwl ?_ | refine dws lay_ok rfl rfl rfl rfl rfl rfl rfl ?_ | refine dwu lay_ok rfl rfl rfl rfl rfl rfl rfl rfl rfl ?_ | refine dw_end ?_ | refine dw_skip rfl rfl rfl ?_ | refine dwn lay_ok rfl rfl rfl rfl rfl ?_ | refine dwb rfl rfl rfl rfl rfl (by (first | refine st_callF 0 (hpt) b45 rfl rfl rfl rfl rfl rfl (by (repeat' first | exact trivial | refine And.intro ?_ ?_ | rfl); first | done | fail) rfl ?_); exact fin rfl) rfl rfl ?_ | refine dwg rfl rfl rfl rfl rfl (by (first | refine st_callF 0 (hpt) b45 rfl rfl rfl rfl rfl rfl (by (repeat' first | exact trivial | refine And.intro ?_ ?_ | rfl); first | done | fail) rfl ?_); exact fin rfl) rfl rfl rfl rfl rfl ?_ | refine dw_dec rfl rfl rfl (fun hg => ?_) (fun hg => ?_) | refine dw_ndec rfl rfl rfl (fun hg => ?_) (fun hg => ?_)
      all_goals first
        | contradiction
        | skip
      refine n_cr _ (.of [0] (by (repeat' first | exact trivial | refine And.intro ?_ ?_ | rfl); first | done | fail) (by (repeat' first | exact trivial | refine And.intro ?_ ?_ | rfl); first | done | fail) rfl) (Nat.le_refl _) ⟨rfl, ?_⟩
      exact hK
  rintro _ ⟨rfl, hK2⟩
  refine nrm rfl rfl ?_
  clear hK hpt hpo hrv hbr hE
  have p1 := partn_facts (ltC cm) d2 a b c2 q1 q2 (by omega)
  have p2 := parteq_facts (ltC cm) d2 a b c2 q1 q2 (by omega)
  have hp1 := partn_ok g bg cm hcm d2 a b c2 q1 q2 (by omega) (by omega)
  have hp2 := parteq_ok g bg cm hcm d2 a b c2 q1 q2 (by omega) (by omega)
  rw [z2] at hp1 hp2
  unfold pdqU at hK2
  generalize Sort.partition (ltC cm) d2 a b c2 = P1 at *
  generalize Sort.partitionEqual (ltC cm) d2 a b c2 = P2 at *
  obtain ⟨m1, ap, d4⟩ := P1
  obtain ⟨m2, d5⟩ := P2
  simp only at p1 p2 hp1 hp2 hK2
  have hqI2 : (b - a) / 8 ≤ 6 := by omega
  generalize hq : (b - a) / 8 = q at *
  refine cutr (x := .seq (.region 17 _ _) _) (fun s' => s' = ⟨f25.ntmps, 1, [(0, .lsl 0 3 0 n), (1, I a), (2, I b), (3, I l1), (4, fnG g), (11, B wp), (12, .st (.int .i64 ((b : Int) - (a : Int)))), (13, I c2)], [(0, .arr 3 (rA d2))]⟩ ∧
    K = if m1 - a < b - m1 then Sort.pdq (ltC cm) (Sort.pdq (ltC cm) d4 a m1 l1 true true) (m1 + 1) b l1 (decide (m1 - a ≥ q)) ap else Sort.pdq (ltC cm) (Sort.pdq (ltC cm) d4 (m1 + 1) b l1 true true) a m1 l1 (decide (b - m1 ≥ q)) ap) ?_ ?_
  · have hid : Hid (a < m2 ∧ m2 ≤ b ∧ d5.size = d2.size ∧ b - a ≤ b0 - a0 ∧ l1 ≤ 64 ∧ d2.size = n ∧ b ≤ n) := ⟨⟨p2.1, p2.2.1, p2.2.2, g4, zl, z2, g3⟩⟩
    have hidK := Hid.mk hK2
    by_cases ha : 0 < a
    · have hat1 := rA_at (d := d2) (i := (a : Int) - 1) (k := a - 1) (by omega) (by omega)
      have hat2 := rA_at (d := d2) (i := (c2 : Int)) (k := c2) (by omega) (by omega)
      have hcl := hcm d2[a - 1]! d2[c2]!
      have hle1 : a ≤ n ∧ c2 < n := by omega
      clear hK2 p2 p1 hp1 hqI hqI2 hq hz1 hz2 hpl hrz z1 hs ih g1 g2 g3 g4 g5 hle hl hbz zl hm hn0 hab hb h50 hl0 q1 q2 z2
      generalize d2[a - 1]! = x at *
      generalize d2[c2]! = y at *
      repeat' first | refine wr (by omega) ?_ | refine ln ?_ | refine stp lay_ok rfl ?_ | refine fin ?_ | refine n_thn ?_ | refine n_blk ?_ | refine e_thn ?_ | refine e_hit ?_ | refine e_miss rfl ?_ | refine r_thn ?_ | refine r_blk ?_ | refine e_rr ?_ | refine r_rr ?_ | refine e_cr ?_ | refine r_cr ?_ | refine .seq ?_ | refine reg ?_ | refine .block ?_ | refine .skip ?_ | refine .ret ?_ | refine .exit ?_ | refine cndT rfl ?_ | refine cndF rfl ?_ | refine c_dec rfl (fun hc => ?_) (fun hc => ?_) | refine c_ndec rfl (fun hc => ?_) (fun hc => ?_) | refine cnd rfl (fun hc => ?_) (fun hc => ?_) | refine gd rfl rfl rfl (fun hg => ?_) (fun hg => ?_) | refine gn rfl rfl rfl (fun hg => ?_) (fun hg => ?_) | refine dwr (by omega) ?_ | refine dwl ?_ | refine dws lay_ok rfl rfl rfl rfl rfl rfl rfl ?_ | refine dwu lay_ok rfl rfl rfl rfl rfl rfl rfl rfl rfl ?_ | refine dw_end ?_ | refine dw_skip rfl rfl rfl ?_ | refine dwn lay_ok rfl rfl rfl rfl rfl ?_ | refine dw_dec rfl rfl rfl (fun hg => ?_) (fun hg => ?_) | refine dw_ndec rfl rfl rfl (fun hg => ?_) (fun hg => ?_)
      refine dreg [(0, [], []), (1, [0], []), (2, [0, 1], []), (3, [0, 1, 2], [85, 86, 87, 88, 89, 90, 91, 92, 93]), (4, [0, 1, 2], [84, 86, 87, 90, 91, 92, 93]), (5, [0, 1, 2], [84, 85, 90, 91, 92, 93]), (6, [0, 1, 2, 5], [84, 85, 90, 91, 92, 93]), (7, [0, 1, 2, 4, 5, 6], [84, 90, 91, 92, 93]), (8, [0, 1, 2, 4, 5, 6, 7], [84, 90, 91, 92, 93]), (9, [0, 1, 2], [84, 85, 86, 87, 88, 89, 91]), (10, [0, 1, 2], [84, 85, 86, 87, 88, 89, 90]), (11, [0, 1, 2, 9, 10], [84, 85, 86, 87, 88, 89]), (12, [0, 1, 2, 9, 10, 11], [84, 85, 86, 87, 88, 89]), (13, [0, 1, 2, 3, 4, 5, 6, 7, 8, 9, 10, 11, 12], []), (14, [0, 1, 2, 3, 4, 5, 6, 7, 8, 9, 10, 11, 12, 13], []), (15, [0, 1, 2, 3, 4, 5, 6, 7, 8, 9, 10, 11, 12, 13, 14], []), (16, [0, 1, 2, 3, 4, 5, 6, 7, 8, 9, 10, 11, 12, 13, 14, 15], [])] mixed (by kernel_rfl) ?_
      repeat' first | refine wr (by omega) ?_ | refine ln ?_ | refine stp lay_ok rfl ?_ | refine fin ?_ | refine n_thn ?_ | refine n_blk ?_ | refine e_thn ?_ | refine e_hit ?_ | refine e_miss rfl ?_ | refine r_thn ?_ | refine r_blk ?_ | refine e_rr ?_ | refine r_rr ?_ | refine e_cr ?_ | refine r_cr ?_ | refine .seq ?_ | refine reg ?_ | refine .block ?_ | refine .skip ?_ | refine .ret ?_ | refine .exit ?_ | refine cndT rfl ?_ | refine cndF rfl ?_ | refine c_dec rfl (fun hc => ?_) (fun hc => ?_) | refine c_ndec rfl (fun hc => ?_) (fun hc => ?_) | refine cnd rfl (fun hc => ?_) (fun hc => ?_) | ((first | refine o_none rfl ?_ | refine o_none_ ?_ | refine o_yes rfl rfl rfl ?_ | refine o_yes_ rfl rfl ?_); first | refine st_indexL lay_ok rfl rfl rfl rfl (by omega) (by omega) ?_ | refine st_loadE (rowE x) lay_ok rfl rfl rfl hat1 rfl rfl rfl ?_ | refine st_loadE (rowE y) lay_ok rfl rfl rfl hat2 rfl rfl rfl ?_ | refine st_pure (hcl) bg rfl rfl rfl rfl ?_ | refine st_callF 0 (hp2) b46 rfl rfl rfl rfl rfl rfl (by (repeat' first | exact trivial | refine And.intro ?_ ?_ | rfl); first | done | fail) rfl ?_) | refine gd rfl rfl rfl (fun hg => ?_) (fun hg => ?_) | refine gn rfl rfl rfl (fun hg => ?_) (fun hg => ?_) | refine dwr (by omega) ?_ | refine dwl ?_ | refine dws lay_ok rfl rfl rfl rfl rfl rfl rfl ?_ | refine dwu lay_ok rfl rfl rfl rfl rfl rfl rfl rfl rfl ?_ | refine dw_end ?_ | refine dw_skip rfl rfl rfl ?_ | refine dwn lay_ok rfl rfl rfl rfl rfl ?_ | refine dwb rfl rfl rfl rfl rfl (by (first | refine st_indexL lay_ok rfl rfl rfl rfl (by omega) (by omega) ?_ | refine st_loadE (rowE x) lay_ok rfl rfl rfl hat1 rfl rfl rfl ?_ | refine st_loadE (rowE y) lay_ok rfl rfl rfl hat2 rfl rfl rfl ?_ | refine st_pure (hcl) bg rfl rfl rfl rfl ?_ | refine st_callF 0 (hp2) b46 rfl rfl rfl rfl rfl rfl (by (repeat' first | exact trivial | refine And.intro ?_ ?_ | rfl); first | done | fail) rfl ?_); exact fin rfl) rfl rfl ?_ | refine dwg rfl rfl rfl rfl rfl (by (first | refine st_indexL lay_ok rfl rfl rfl rfl (by omega) (by omega) ?_ | refine st_loadE (rowE x) lay_ok rfl rfl rfl hat1 rfl rfl rfl ?_ | refine st_loadE (rowE y) lay_ok rfl rfl rfl hat2 rfl rfl rfl ?_ | refine st_pure (hcl) bg rfl rfl rfl rfl ?_ | refine st_callF 0 (hp2) b46 rfl rfl rfl rfl rfl rfl (by (repeat' first | exact trivial | refine And.intro ?_ ?_ | rfl); first | done | fail) rfl ?_); exact fin rfl) rfl rfl rfl rfl rfl ?_ | refine dw_dec rfl rfl rfl (fun hg => ?_) (fun hg => ?_) | refine dw_ndec rfl rfl rfl (fun hg => ?_) (fun hg => ?_)
      all_goals first
        | (exfalso; omega)
        | skip
      · have hK2 := hidK.out
        have ⟨k1, k2, k3, k4, k5, k6, k7⟩ := hid.out
        rw [if_pos (by simp [ha, hc])] at hK2
        refine n_rr ((m2, b, l1, wb, wp, d5, (m2 : Int), (b : Int), (l1 : Int))) ?_ (.of [0] (by (repeat' first | exact trivial | refine And.intro ?_ ?_ | rfl); first | done | fail) (by (repeat' first | exact trivial | refine And.intro ?_ ?_ | rfl); first | done | fail) rfl) ?_
        · show b - m2 < b - a; omega
        · exact ⟨k3.trans k6, k2, k7, by omega, k5, hK2, rfl, rfl, rfl⟩
      · refine n_cr _ (.of [0] (by (repeat' first | exact trivial | refine And.intro ?_ ?_ | rfl); first | done | fail) (by (repeat' first | exact trivial | refine And.intro ?_ ?_ | rfl); first | done | fail) rfl) (Nat.le_refl _) ⟨rfl, ?_⟩
        have hK2 := hidK.out
        rw [if_neg (by simp [hc])] at hK2
        exact hK2
    · have h0' : ¬ ((a : Int) > 0) := by omega
      clear hK2 p2 p1 hp1 hqI hqI2 hq hz1 hz2 hpl hrz z1 hs ih g1 g2 g3 g4 g5 hle hl hbz zl hm hn0 hab hb h50 hl0 q1 q2 z2
      repeat' first | refine wr (by omega) ?_ | refine ln ?_ | refine stp lay_ok rfl ?_ | refine fin ?_ | refine n_thn ?_ | refine n_blk ?_ | refine e_thn ?_ | refine e_hit ?_ | refine e_miss rfl ?_ | refine r_thn ?_ | refine r_blk ?_ | refine e_rr ?_ | refine r_rr ?_ | refine e_cr ?_ | refine r_cr ?_ | refine .seq ?_ | refine reg ?_ | refine .block ?_ | refine .skip ?_ | refine .ret ?_ | refine .exit ?_ | refine cndT rfl ?_ | refine cndF rfl ?_ | refine c_dec rfl (fun hc => ?_) (fun hc => ?_) | refine c_ndec rfl (fun hc => ?_) (fun hc => ?_) | refine cnd rfl (fun hc => ?_) (fun hc => ?_) | refine gd rfl rfl rfl (fun hg => ?_) (fun hg => ?_) | refine gn rfl rfl rfl (fun hg => ?_) (fun hg => ?_) | refine dwr (by omega) ?_ | refine dwl ?_ | refine dws lay_ok rfl rfl rfl rfl rfl rfl rfl ?_ | refine dwu lay_ok rfl rfl rfl rfl rfl rfl rfl rfl rfl ?_ | refine dw_end ?_ | refine dw_skip rfl rfl rfl ?_ | refine dwn lay_ok rfl rfl rfl rfl rfl ?_ | refine dw_dec rfl rfl rfl (fun hg => ?_) (fun hg => ?_) | refine dw_ndec rfl rfl rfl (fun hg => ?_) (fun hg => ?_)
      refine dreg [(0, [], []), (1, [0], []), (2, [0, 1], []), (3, [0, 1, 2], [85, 86, 87, 88, 89, 90, 91, 92, 93]), (4, [0, 1, 2], [84, 86, 87, 90, 91, 92, 93]), (5, [0, 1, 2], [84, 85, 90, 91, 92, 93]), (6, [0, 1, 2, 5], [84, 85, 90, 91, 92, 93]), (7, [0, 1, 2, 4, 5, 6], [84, 90, 91, 92, 93]), (8, [0, 1, 2, 4, 5, 6, 7], [84, 90, 91, 92, 93]), (9, [0, 1, 2], [84, 85, 86, 87, 88, 89, 91]), (10, [0, 1, 2], [84, 85, 86, 87, 88, 89, 90]), (11, [0, 1, 2, 9, 10], [84, 85, 86, 87, 88, 89]), (12, [0, 1, 2, 9, 10, 11], [84, 85, 86, 87, 88, 89]), (13, [0, 1, 2, 3, 4, 5, 6, 7, 8, 9, 10, 11, 12], []), (14, [0, 1, 2, 3, 4, 5, 6, 7, 8, 9, 10, 11, 12, 13], []), (15, [0, 1, 2, 3, 4, 5, 6, 7, 8, 9, 10, 11, 12, 13, 14], []), (16, [0, 1, 2, 3, 4, 5, 6, 7, 8, 9, 10, 11, 12, 13, 14, 15], [])] mixed (by kernel_rfl) ?_
      repeat' first | refine wr (by omega) ?_ | refine ln ?_ | refine stp lay_ok rfl ?_ | refine fin ?_ | refine n_thn ?_ | refine n_blk ?_ | refine e_thn ?_ | refine e_hit ?_ | refine e_miss rfl ?_ | refine r_thn ?_ | refine r_blk ?_ | refine e_rr ?_ | refine r_rr ?_ | refine e_cr ?_ | refine r_cr ?_ | refine .seq ?_ | refine reg ?_ | refine .block ?_ | refine .skip ?_ | refine .ret ?_ | refine .exit ?_ | refine cndT rfl ?_ | refine cndF rfl ?_ | refine c_dec rfl (fun hc => ?_) (fun hc => ?_) | refine c_ndec rfl (fun hc => ?_) (fun hc => ?_) | refine cnd rfl (fun hc => ?_) (fun hc => ?_) | refine gd rfl rfl rfl (fun hg => ?_) (fun hg => ?_) | refine gn rfl rfl rfl (fun hg => ?_) (fun hg => ?_) | refine dwr (by omega) ?_ | refine dwl ?_ | refine dws lay_ok rfl rfl rfl rfl rfl rfl rfl ?_ | refine dwu lay_ok rfl rfl rfl rfl rfl rfl rfl rfl rfl ?_ | refine dw_end ?_ | refine dw_skip rfl rfl rfl ?_ | refine dwn lay_ok rfl rfl rfl rfl rfl ?_ | refine dw_dec rfl rfl rfl (fun hg => ?_) (fun hg => ?_) | refine dw_ndec rfl rfl rfl (fun hg => ?_) (fun hg => ?_)
      all_goals first
        | (exfalso; omega)
        | skip
      refine n_cr _ (.of [0] (by (repeat' first | exact trivial | refine And.intro ?_ ?_ | rfl); first | done | fail) (by (repeat' first | exact trivial | refine And.intro ?_ ?_ | rfl); first | done | fail) rfl) (Nat.le_refl _) ⟨rfl, ?_⟩
      have hK2 := hidK.out
      rw [if_neg (by simp [ha])] at hK2
      exact hK2
  rintro _ ⟨rfl, hK3⟩
  refine nrm rfl rfl ?_
  have zd4 : d4.size = n := p1.2.2.trans z2
  by_cases hsm : m1 - a < b - m1
  · have hrc := ih d4 a m1 l1 (by omega) zd4 p1.1 (by omega) (by omega) zl
    have hrz := pdq_size (ltC cm) hs _ d4 a m1 l1 true true (Nat.le_refl _) p1.1 (by omega) (by omega)
    rw [if_pos hsm] at hK3
    have hdec : decide (m1 - a ≥ q) = decide ((m1 : Int) - (a : Int) ≥ (q : Int)) := by rw [decide_eq_decide]; omega
    rw [hdec] at hK3
    have hid : Hid (a < b ∧ b - a ≤ b0 - a0 ∧ l1 ≤ 64 ∧ d4.size = n ∧ b ≤ n ∧ a ≤ m1 ∧ m1 < b) := ⟨⟨by omega, g4, zl, zd4, g3, p1.1, p1.2.1⟩⟩
    have hidK := Hid.mk hK3
    have hcm1 : (m1 : Int) - (a : Int) < (b : Int) - (m1 : Int) := by omega
    have hr1 : a ≤ m1 ∧ m1 < b ∧ b ≤ 4000000000 := by omega
    clear hK2 p2 hp2 hqI2 hz1 hz2 hpl z1 hs ih g1 g2 g3 g4 g5 hle hl hbz zl hm hn0 hab hb h50 hl0 q1 q2 z2 hK3 hsm
    generalize Sort.pdq (ltC cm) d4 a m1 l1 true true = dd at *
    repeat' first | refine wr (by omega) ?_ | refine ln ?_ | refine stp lay_ok rfl ?_ | refine fin ?_ | refine n_thn ?_ | refine n_blk ?_ | refine e_thn ?_ | refine e_hit ?_ | refine e_miss rfl ?_ | refine r_thn ?_ | refine r_blk ?_ | refine e_rr ?_ | refine r_rr ?_ | refine e_cr ?_ | refine r_cr ?_ | refine .seq ?_ | refine reg ?_ | refine .block ?_ | refine .skip ?_ | refine .ret ?_ | refine .exit ?_ | refine cndT rfl ?_ | refine cndF rfl ?_ | refine c_dec rfl (fun hc => ?_) (fun hc => ?_) | refine c_ndec rfl (fun hc => ?_) (fun hc => ?_) | refine cnd rfl (fun hc => ?_) (fun hc => ?_) | ((first | refine o_none rfl ?_ | refine o_none_ ?_ | refine o_yes rfl rfl rfl ?_ | refine o_yes_ rfl rfl ?_); first | refine st_callF 0 (hp1) b47 rfl rfl rfl rfl rfl rfl (by (repeat' first | exact trivial | refine And.intro ?_ ?_ | rfl); first | done | fail) rfl ?_ | refine st_div rfl rfl hqI (by decide) ?_ | refine st_callF 0 (hrc) b25 rfl rfl rfl rfl rfl rfl (by (repeat' first | exact trivial | refine And.intro ?_ ?_ | rfl); first | done | fail) rfl ?_) | refine gd rfl rfl rfl (fun hg => ?_) (fun hg => ?_) | refine gn rfl rfl rfl (fun hg => ?_) (fun hg => ?_) | refine dwr (by omega) ?_ | refine dwl ?_ | refine dws lay_ok rfl rfl rfl rfl rfl rfl rfl ?_ | refine dwu lay_ok rfl rfl rfl rfl rfl rfl rfl rfl rfl ?_ | refine dw_end ?_ | refine dw_skip rfl rfl rfl ?_ | refine dwn lay_ok rfl rfl rfl rfl rfl ?_ | refine dwb rfl rfl rfl rfl rfl (by (first | refine st_callF 0 (hp1) b47 rfl rfl rfl rfl rfl rfl (by (repeat' first | exact trivial | refine And.intro ?_ ?_ | rfl); first | done | fail) rfl ?_ | refine st_div rfl rfl hqI (by decide) ?_ | refine st_callF 0 (hrc) b25 rfl rfl rfl rfl rfl rfl (by (repeat' first | exact trivial | refine And.intro ?_ ?_ | rfl); first | done | fail) rfl ?_); exact fin rfl) rfl rfl ?_ | refine dwg rfl rfl rfl rfl rfl (by (first | refine st_callF 0 (hp1) b47 rfl rfl rfl rfl rfl rfl (by (repeat' first | exact trivial | refine And.intro ?_ ?_ | rfl); first | done | fail) rfl ?_ | refine st_div rfl rfl hqI (by decide) ?_ | refine st_callF 0 (hrc) b25 rfl rfl rfl rfl rfl rfl (by (repeat' first | exact trivial | refine And.intro ?_ ?_ | rfl); first | done | fail) rfl ?_); exact fin rfl) rfl rfl rfl rfl rfl ?_ | refine dw_dec rfl rfl rfl (fun hg => ?_) (fun hg => ?_) | refine dw_ndec rfl rfl rfl (fun hg => ?_) (fun hg => ?_)
    all_goals first
      | (exfalso; omega)
      | skip
    refine n_rr ((m1 + 1, b, l1, decide ((m1 : Int) - (a : Int) ≥ (q : Int)), ap, dd, (m1 : Int) + 1, (b : Int), (l1 : Int))) ?_ (.of [0] (by (repeat' first | exact trivial | refine And.intro ?_ ?_ | rfl); first | done | fail) (by (repeat' first | exact trivial | refine And.intro ?_ ?_ | rfl); first | done | fail) rfl) ?_
    · have ⟨k1, k2, k3, k4, k5, k6, k7⟩ := hid.out
      show b - (m1 + 1) < b - a
      omega
    · have ⟨k1, k2, k3, k4, k5, k6, k7⟩ := hid.out
      exact ⟨hrz.trans k4, by omega, k5, by omega, k3, hidK.out, rfl, rfl, rfl⟩
  · have hrc := ih d4 (m1 + 1) b l1 (by omega) zd4 (by omega) g3 (by omega) zl
    rw [show ((m1 + 1 : Nat) : Int) = (m1 : Int) + 1 by omega] at hrc
    have hrz := pdq_size (ltC cm) hs _ d4 (m1 + 1) b l1 true true (Nat.le_refl _) (by omega) (by omega) (by omega)
    rw [if_neg hsm] at hK3
    have hdec : decide (b - m1 ≥ q) = decide ((b : Int) - (m1 : Int) ≥ (q : Int)) := by rw [decide_eq_decide]; omega
    rw [hdec] at hK3
    have hid : Hid (a < b ∧ b - a ≤ b0 - a0 ∧ l1 ≤ 64 ∧ d4.size = n ∧ b ≤ n ∧ a ≤ m1 ∧ m1 < b) := ⟨⟨by omega, g4, zl, zd4, g3, p1.1, p1.2.1⟩⟩
    have hidK := Hid.mk hK3
    have hcm1 : ¬ (m1 : Int) - (a : Int) < (b : Int) - (m1 : Int) := by omega
    have hr1 : a ≤ m1 ∧ m1 < b ∧ b ≤ 4000000000 := by omega
    clear hK2 p2 hp2 hqI2 hz1 hz2 hpl z1 hs ih g1 g2 g3 g4 g5 hle hl hbz zl hm hn0 hab hb h50 hl0 q1 q2 z2 hK3 hsm
    generalize Sort.pdq (ltC cm) d4 (m1 + 1) b l1 true true = dd at *
    repeat' first | refine wr (by omega) ?_ | refine ln ?_ | refine stp lay_ok rfl ?_ | refine fin ?_ | refine n_thn ?_ | refine n_blk ?_ | refine e_thn ?_ | refine e_hit ?_ | refine e_miss rfl ?_ | refine r_thn ?_ | refine r_blk ?_ | refine e_rr ?_ | refine r_rr ?_ | refine e_cr ?_ | refine r_cr ?_ | refine .seq ?_ | refine reg ?_ | refine .block ?_ | refine .skip ?_ | refine .ret ?_ | refine .exit ?_ | refine cndT rfl ?_ | refine cndF rfl ?_ | refine c_dec rfl (fun hc => ?_) (fun hc => ?_) | refine c_ndec rfl (fun hc => ?_) (fun hc => ?_) | refine cnd rfl (fun hc => ?_) (fun hc => ?_) | ((first | refine o_none rfl ?_ | refine o_none_ ?_ | refine o_yes rfl rfl rfl ?_ | refine o_yes_ rfl rfl ?_); first | refine st_callF 0 (hp1) b47 rfl rfl rfl rfl rfl rfl (by (repeat' first | exact trivial | refine And.intro ?_ ?_ | rfl); first | done | fail) rfl ?_ | refine st_div rfl rfl hqI (by decide) ?_ | refine st_callF 0 (hrc) b25 rfl rfl rfl rfl rfl rfl (by (repeat' first | exact trivial | refine And.intro ?_ ?_ | rfl); first | done | fail) rfl ?_) | refine gd rfl rfl rfl (fun hg => ?_) (fun hg => ?_) | refine gn rfl rfl rfl (fun hg => ?_) (fun hg => ?_) | refine dwr (by omega) ?_ | refine dwl ?_ | refine dws lay_ok rfl rfl rfl rfl rfl rfl rfl ?_ | refine dwu lay_ok rfl rfl rfl rfl rfl rfl rfl rfl rfl ?_ | refine dw_end ?_ | refine dw_skip rfl rfl rfl ?_ | refine dwn lay_ok rfl rfl rfl rfl rfl ?_ | refine dwb rfl rfl rfl rfl rfl (by (first | refine st_callF 0 (hp1) b47 rfl rfl rfl rfl rfl rfl (by (repeat' first | exact trivial | refine And.intro ?_ ?_ | rfl); first | done | fail) rfl ?_ | refine st_div rfl rfl hqI (by decide) ?_ | refine st_callF 0 (hrc) b25 rfl rfl rfl rfl rfl rfl (by (repeat' first | exact trivial | refine And.intro ?_ ?_ | rfl); first | done | fail) rfl ?_); exact fin rfl) rfl rfl ?_ | refine dwg rfl rfl rfl rfl rfl (by (first | refine st_callF 0 (hp1) b47 rfl rfl rfl rfl rfl rfl (by (repeat' first | exact trivial | refine And.intro ?_ ?_ | rfl); first | done | fail) rfl ?_ | refine st_div rfl rfl hqI (by decide) ?_ | refine st_callF 0 (hrc) b25 rfl rfl rfl rfl rfl rfl (by (repeat' first | exact trivial | refine And.intro ?_ ?_ | rfl); first | done | fail) rfl ?_); exact fin rfl) rfl rfl rfl rfl rfl ?_ | refine dw_dec rfl rfl rfl (fun hg => ?_) (fun hg => ?_) | refine dw_ndec rfl rfl rfl (fun hg => ?_) (fun hg => ?_)
    all_goals first
      | (exfalso; omega)
      | skip
    refine n_rr ((a, m1, l1, decide ((b : Int) - (m1 : Int) ≥ (q : Int)), ap, dd, (a : Int), (m1 : Int), (l1 : Int))) ?_ (.of [0] (by (repeat' first | exact trivial | refine And.intro ?_ ?_ | rfl); first | done | fail) (by (repeat' first | exact trivial | refine And.intro ?_ ?_ | rfl); first | done | fail) rfl) ?_
    · have ⟨k1, k2, k3, k4, k5, k6, k7⟩ := hid.out
      show m1 - a < b - a
      omega
    · have ⟨k1, k2, k3, k4, k5, k6, k7⟩ := hid.out
      exact ⟨hrz.trans k4, k6, by omega, by omega, k3, hidK.out, rfl, rfl, rfl⟩
end Go.Proofs.YtmekcbbieacioaaDoorFn
namespace Go.Proofs.YtmekcbbieacioaaDoorFn
open Go.Proofs.YtmekcbbieacioaaDoorAl Go.Proofs.Tryd
attribute [local irreducible] IntKind.wrap CodeOk OpsL OpG ACalls thn inBlk rndR cutR WkR Wk fnR DW ExtOk partsOf
theorem b27 : HasBody prog 27 := ⟨f27, func27, Option.some_ne_none _, by decide⟩
theorem b15 : HasBody prog 15 := ⟨f15, func15, Option.some_ne_none _, by decide⟩
theorem b14 : HasBody prog 14 := ⟨f14, func14, Option.some_ne_none _, by decide⟩
theorem b13 : HasBody prog 13 := ⟨f13, func13, Option.some_ne_none _, by decide⟩
/-! ### entries sorted by path -/
def cmS (a b : ByteArray) : Int := if strLt a b = true then -1 else if (!(strLt a b || decide (a = b))) = true then 1 else 0
def cmE (x y : EV) : Int := cmS x.path y.path
theorem nan_ok (a : ByteArray) : ACalls prog 27 0 [.st (.str a)] [] fun r h => r = B false ∧ h = [] := by
  refine fnC lay_ok func27 rfl rfl rfl rfl rfl ?_
  repeat' first | refine wr (by omega) ?_ | refine ln ?_ | refine stp lay_ok rfl ?_ | refine fin ?_ | refine n_thn ?_ | refine n_blk ?_ | refine e_thn ?_ | refine e_hit ?_ | refine e_miss rfl ?_ | refine r_thn ?_ | refine r_blk ?_ | refine e_rr ?_ | refine r_rr ?_ | refine e_cr ?_ | refine r_cr ?_ | refine .seq ?_ | refine reg ?_ | refine .block ?_ | refine .skip ?_ | refine .ret ?_ | refine .exit ?_ | refine cndT rfl ?_ | refine cndF rfl ?_ | refine c_dec rfl (fun hc => ?_) (fun hc => ?_) | refine c_ndec rfl (fun hc => ?_) (fun hc => ?_) | refine cnd rfl (fun hc => ?_) (fun hc => ?_) | refine gd rfl rfl rfl (fun hg => ?_) (fun hg => ?_) | refine gn rfl rfl rfl (fun hg => ?_) (fun hg => ?_)
  refine f_r [] rfl trivial rfl ⟨?_, rfl⟩
  simp only [ne_eq, not_true_eq_false, decide_false]
  rfl
theorem compare_ok (a b : ByteArray) : ACalls prog 15 0 [.st (.str a), .st (.str b)] [] fun r h => r = I (cmS a b) ∧ h = [] := by
  have h1 := nan_ok a
  have h2 := nan_ok b
  refine fnC lay_ok func15 rfl rfl rfl rfl rfl ?_
  repeat' first | refine wr (by omega) ?_ | refine ln ?_ | refine stp lay_ok rfl ?_ | refine fin ?_ | refine n_thn ?_ | refine n_blk ?_ | refine e_thn ?_ | refine e_hit ?_ | refine e_miss rfl ?_ | refine r_thn ?_ | refine r_blk ?_ | refine e_rr ?_ | refine r_rr ?_ | refine e_cr ?_ | refine r_cr ?_ | refine .seq ?_ | refine reg ?_ | refine .block ?_ | refine .skip ?_ | refine .ret ?_ | refine .exit ?_ | refine cndT rfl ?_ | refine cndF rfl ?_ | refine c_dec rfl (fun hc => ?_) (fun hc => ?_) | refine c_ndec rfl (fun hc => ?_) (fun hc => ?_) | refine cnd rfl (fun hc => ?_) (fun hc => ?_) | ((first | refine o_none rfl ?_ | refine o_none_ ?_ | refine o_yes rfl rfl rfl ?_ | refine o_yes_ rfl rfl ?_); first | refine st_pure (h1) b27 rfl rfl rfl rfl ?_ | refine st_pure (h2) b27 rfl rfl rfl rfl ?_) | refine gd rfl rfl rfl (fun hg => ?_) (fun hg => ?_) | refine gn rfl rfl rfl (fun hg => ?_) (fun hg => ?_)
  · refine f_r [] rfl trivial rfl ⟨?_, rfl⟩
    rw [cmS, if_pos hc]; rfl
  · refine f_r [] rfl trivial rfl ⟨?_, rfl⟩
    rename_i hc1
    rw [cmS, hc1, if_neg (by simp)]
    rw [hc1] at hc
    rw [if_pos hc]; rfl
  · refine f_r [] rfl trivial rfl ⟨?_, rfl⟩
    rename_i hc1
    rw [cmS, hc1, if_neg (by simp)]
    rw [hc1] at hc
    rw [if_neg (by rw [hc]; simp)]; rfl
theorem cmE_ok (x y : EV) : ACalls prog 14 0 [.st (.agg (rowE x)), .st (.agg (rowE y))] [] fun r h => r = I (cmE x y) ∧ h = [] := by
  have h1 := compare_ok x.path y.path
  refine fnC lay_ok func14 rfl rfl rfl rfl rfl ?_
  repeat' first | refine wr (by omega) ?_ | refine ln ?_ | refine stp lay_ok rfl ?_ | refine fin ?_ | refine n_thn ?_ | refine n_blk ?_ | refine e_thn ?_ | refine e_hit ?_ | refine e_miss rfl ?_ | refine r_thn ?_ | refine r_blk ?_ | refine e_rr ?_ | refine r_rr ?_ | refine e_cr ?_ | refine r_cr ?_ | refine .seq ?_ | refine reg ?_ | refine .block ?_ | refine .skip ?_ | refine .ret ?_ | refine .exit ?_ | refine cndT rfl ?_ | refine cndF rfl ?_ | refine c_dec rfl (fun hc => ?_) (fun hc => ?_) | refine c_ndec rfl (fun hc => ?_) (fun hc => ?_) | refine cnd rfl (fun hc => ?_) (fun hc => ?_) | ((first | refine o_none rfl ?_ | refine o_none_ ?_ | refine o_yes rfl rfl rfl ?_ | refine o_yes_ rfl rfl ?_); first | refine st_pure (h1) b15 rfl rfl rfl rfl ?_) | refine gd rfl rfl rfl (fun hg => ?_) (fun hg => ?_) | refine gn rfl rfl rfl (fun hg => ?_) (fun hg => ?_)
  refine f_r [] rfl trivial rfl ⟨?_, rfl⟩
  rfl
theorem cmE_lt (x y : EV) : ltC cmE x y = Sort.ltStr x.path.data.toList y.path.data.toList := by
  show decide (cmS x.path y.path < 0) = decide (x.path.data.toList < y.path.data.toList)
  rw [← Go.Proofs.bytesLess_eq]
  show _ = strLt x.path y.path
  unfold cmS
  cases h : strLt x.path y.path with
  | true => simp
  | false =>
    simp only [Bool.false_eq_true, if_false]
    split <;> simp
theorem cmE_swo : Sort.SWO (ltC cmE) where
  irrefl x := by rw [cmE_lt]; exact Sort.swo_ltStr.irrefl _
  trans x y z := by rw [cmE_lt, cmE_lt, cmE_lt]; exact Sort.swo_ltStr.trans _ _ _
  ntrans x y z := by rw [cmE_lt, cmE_lt, cmE_lt]; exact Sort.swo_ltStr.ntrans _ _ _
def srtE (l : List EV) : List EV := (Sort.pdq (ltC cmE) l.toArray 0 l.length (Sort.bitsLen l.length) true true).toList
theorem srtE_facts (l : List EV) : (srtE l).Perm l ∧ (srtE l).Pairwise fun x y => ltC cmE y x = false := by
  have h := Sort.pdq_sorts (ltC cmE) cmE_swo l.toArray 0 l.length (Sort.bitsLen l.length) true true (Nat.zero_le _) (by simp) (.inl rfl)
  unfold srtE
  generalize Sort.pdq (ltC cmE) l.toArray 0 l.length (Sort.bitsLen l.length) true true = d at *
  obtain ⟨⟨h1, _, h2⟩, h3⟩ := h
  have hs : d.size = l.length := by simpa using h1
  have ht : d.toList.take l.length = d.toList := List.take_of_length_le (by simp [hs])
  refine ⟨by have := h2; rw [hs.symm] at this; simpa [hs, ht] using this, ?_⟩
  rw [List.pairwise_iff_getElem]
  intro i j hi hj hij
  have := h3 i j (Nat.zero_le _) hij (by rw [← hs]; simpa using hj)
  rw [getElem!_pos d i (by simpa using hi), getElem!_pos d j (by simpa using hj)] at this
  simpa using this
set_option maxHeartbeats 4000000 in
theorem sort_ok (l : List EV) (hn : l.length < 50) :
    ACalls prog 13 1 [.lsl 0 3 0 l.length, fnG 14] [(0, .arr 3 (l.map rowE))] fun r h => r = .tuple [] ∧ h = [(0, .arr 3 ((srtE l).map rowE))] := by
  have hl := bits_le l.length (by omega)
  have h1 := pdqsort_ok 14 b14 cmE cmE_ok cmE_swo l.length (by omega) (l.length + 1) l.toArray 0 l.length (Sort.bitsLen l.length) (by omega) (by simp) (by omega) (Nat.le_refl _) (by omega) (by omega)
  have hb := blen_ok l.length (by omega)
  have e1 : rA l.toArray = l.map rowE := by simp
  rw [e1] at h1
  rw [show UN l.length = .st (.int .u64 (IntKind.u64.wrap (l.length : Int))) from congrArg (fun z : Int => AV.st (.int .u64 z)) (uwrap l.length (by omega)).symm] at hb
  refine fnC lay_ok func13 rfl rfl rfl rfl rfl ?_
  repeat' first | refine wr (by omega) ?_ | refine ln ?_ | refine stp lay_ok rfl ?_ | refine fin ?_ | refine n_thn ?_ | refine n_blk ?_ | refine e_thn ?_ | refine e_hit ?_ | refine e_miss rfl ?_ | refine r_thn ?_ | refine r_blk ?_ | refine e_rr ?_ | refine r_rr ?_ | refine e_cr ?_ | refine r_cr ?_ | refine .seq ?_ | refine reg ?_ | refine .block ?_ | refine .skip ?_ | refine .ret ?_ | refine .exit ?_ | refine cndT rfl ?_ | refine cndF rfl ?_ | refine c_dec rfl (fun hc => ?_) (fun hc => ?_) | refine c_ndec rfl (fun hc => ?_) (fun hc => ?_) | refine cnd rfl (fun hc => ?_) (fun hc => ?_) | ((first | refine o_none rfl ?_ | refine o_none_ ?_ | refine o_yes rfl rfl rfl ?_ | refine o_yes_ rfl rfl ?_); first | refine st_pure (hb) b26 rfl rfl rfl rfl ?_ | refine st_callF 0 (h1) b25 rfl rfl rfl rfl rfl rfl (by (repeat' first | exact trivial | refine And.intro ?_ ?_ | rfl); first | done | fail) rfl ?_) | refine gd rfl rfl rfl (fun hg => ?_) (fun hg => ?_) | refine gn rfl rfl rfl (fun hg => ?_) (fun hg => ?_)
  refine f_rn [(0, .arr 3 ((srtE l).map rowE))] rfl (by (repeat' first | exact trivial | refine And.intro ?_ ?_ | rfl); first | done | fail) rfl ⟨?_, rfl⟩
  rfl
end Go.Proofs.YtmekcbbieacioaaDoorFn
namespace Go.Proofs.YtmekcbbieacioaaDoorFn
open Go.Proofs.YtmekcbbieacioaaDoorAl Go.Proofs.Tryd
open Go.RowKit Go.Extern.Stop Go.Stop Go.Extern
/-! ### errors.As at a concrete target, below the A-logic (after the kit's worked example of it) -/
theorem rl_valueOfP (t : Addr) (w : World) : (ReflectliteValue.unpack (.iface 55 (.pointer (some t)))).run prog w
    = .ok (.agg #[.pointer (some ⟨4, 55, none⟩), .pointer (some ⟨w.heap.size, 0, none⟩), .int .u64 150]) (w.alloc (.cells #[.pointer (some t)] 55)) := by kernel_rfl
theorem rl_typeP (a : Addr) (w : World) : (ReflectliteValue.methodAny (ReflectliteValue.valueError "reflectlite.Value.Type" 0) (fun t _ _ _ => ReflectliteType.toType t) #[.agg #[.pointer (some ⟨4, 55, none⟩), .pointer (some a), .int .u64 150]]).run prog w
    = .ok (.iface 98 (.agg #[.pointer (some ⟨4, 55, none⟩)])) w := by kernel_rfl
theorem rl_methodKind (h : Value) (w : World) : (Go.method (prog.types.size + Made.depth) 98 (.agg #[h]) "Kind").run prog w = .ok (96, h) w := by kernel_rfl
theorem rl_kindP (w : World) : ((ReflectliteType.abiMethod fun t => (fun a : Nat => Value.int IntKind.u8 (a : Int)) <$> Rtype.kind t) #[.pointer (some ⟨4, 55, none⟩)]).run prog w = .ok (.int .u8 22) w := by kernel_rfl
theorem rl_kindS (w : World) : ((ReflectliteType.abiMethod fun t => (fun a : Nat => Value.int IntKind.u8 (a : Int)) <$> Rtype.kind t) #[.pointer (some ⟨4, 44, none⟩)]).run prog w = .ok (.int .u8 22) w := by kernel_rfl
theorem rl_m (z : Sem Value) (f : TypeId → Addr → Nat → Nat → Sem Value) (v : Value) :
    ReflectliteValue.method z f #[v] = (do match ← ReflectliteValue.parts v with | none => z | some (t, a, fl) => f t a fl (fl % 32)) := rfl
theorem rl_partsP (a : Addr) (w : World) : (ReflectliteValue.parts (.agg #[.pointer (some ⟨4, 55, none⟩), .pointer (some a), .int .u64 150])).run prog w = .ok (some (55, a, 150)) w := by kernel_rfl
theorem rl_undP : prog.underlying 55 = some (.pointer 44) := by kernel_rfl
theorem rl_undS : prog.underlying 44 = some (.pointer 46) := by kernel_rfl
theorem rl_isNil (a p : Addr) (W : World) (ha : W.cell? a = some (.pointer (some p))) :
    (ReflectliteValue.method (ReflectliteValue.valueError "reflectlite.Value.IsNil" 0) ReflectliteValue.isNil #[.agg #[.pointer (some ⟨4, 55, none⟩), .pointer (some a), .int .u64 150]]).run prog W = .ok (.bool false) W := by
  rw [rl_m]
  simp only [Sem.run_bind, rl_partsP, Result.andThen]
  simp [ReflectliteValue.isNil, loadVar, isAgg, underlying, rl_undP, ha, Result.andThen]
theorem rl_methodElem (h : Value) (w : World) : (Go.method (prog.types.size + Made.depth) 98 (.agg #[h]) "Elem").run prog w = .ok (108, .agg #[h]) w := by kernel_rfl
theorem rl_methodImplements (h : Value) (w : World) : (Go.method (prog.types.size + Made.depth) 98 (.agg #[h]) "Implements").run prog w = .ok (109, .agg #[h]) w := by kernel_rfl
theorem rl_methodAssignableTo (h : Value) (w : World) : (Go.method (prog.types.size + Made.depth) 98 (.agg #[h]) "AssignableTo").run prog w = .ok (106, .agg #[h]) w := by kernel_rfl
theorem rl_elemP (w : World) : (ReflectliteType.method ReflectliteType.elem #[.agg #[.pointer (some ⟨4, 55, none⟩)]]).run prog w = .ok (.iface 98 (.agg #[.pointer (some ⟨4, 44, none⟩)])) w := by kernel_rfl
theorem rl_implementsS (w : World) : (ReflectliteType.relation "Implements" ReflectliteType.implements_ #[.agg #[.pointer (some ⟨4, 44, none⟩)], .iface 98 (.agg #[.pointer (some ⟨4, 31, none⟩)])]).run prog w = .ok (.bool true) w := by kernel_rfl
theorem rl_typeOfS (v : Value) (w : World) : (ReflectliteType.typeOf #[.iface 44 v]).run prog w = .ok (.iface 98 (.agg #[.pointer (some ⟨4, 44, none⟩)])) w := by kernel_rfl
theorem rl_assignableS (w : World) : (ReflectliteType.relation "AssignableTo" ReflectliteType.assignableTo #[.agg #[.pointer (some ⟨4, 44, none⟩)], .iface 98 (.agg #[.pointer (some ⟨4, 44, none⟩)])]).run prog w = .ok (.bool true) w := by kernel_rfl
theorem rl_valueOfS (e : Addr) (w : World) : (ReflectliteValue.unpack (.iface 44 (.pointer (some e)))).run prog w
    = .ok (.agg #[.pointer (some ⟨4, 44, none⟩), .pointer (some ⟨w.heap.size, 0, none⟩), .int .u64 150]) (w.alloc (.cells #[.pointer (some e)] 44)) := by kernel_rfl
theorem rl_elemOfP (w : World) : (Rtype.elem? 55).run prog w = .ok (some 44) w := by kernel_rfl
theorem rl_mkS (p : Addr) (w : World) : (ReflectliteValue.mk 44 p ReflectliteValue.flagAddr).run prog w = .ok (.agg #[.pointer (some ⟨4, 44, none⟩), .pointer (some p), .int .u64 406]) w := by kernel_rfl
theorem rl_elemV (a p : Addr) (W : World) (ha : W.cell? a = some (.pointer (some p))) :
    (ReflectliteValue.method (ReflectliteValue.valueError "reflectlite.Value.Elem" 0) ReflectliteValue.elem #[.agg #[.pointer (some ⟨4, 55, none⟩), .pointer (some a), .int .u64 150]]).run prog W
      = .ok (.agg #[.pointer (some ⟨4, 44, none⟩), .pointer (some p), .int .u64 406]) W := by
  rw [rl_m]
  simp only [Sem.run_bind, rl_partsP, Result.andThen]
  simp [ReflectliteValue.elem, loadVar, isAgg, underlying, rl_undP, ha, Result.andThen, rl_elemOfP, rl_mkS]
theorem rl_s (v x : Value) : ReflectliteValue.set #[v, x] = (do
    let (some (dst, a, fl), some (src, b, _)) := (← ReflectliteValue.parts v, ← ReflectliteValue.parts x)
      | unsupported (.noEntry "extern/(internal/reflectlite.Value).Set.zeroValue")
    if fl / ReflectliteValue.flagAddr % 2 == 0 then unsupported (.noEntry "extern/(internal/reflectlite.Value).Set.unaddressable")
    let val ← loadVar src b
    if ← Rtype.directlyAssignable dst src then storeVar dst a val
    else if ← Rtype.implements dst src then
      if (← Rtype.kind src) == 20 then
        match val with
        | .nilIface => unsupported (.noEntry "extern/reflectlite: a nil value of one interface type handed on as a value of another")
        | _ => storeVar dst a val
      else storeVar dst a (.iface src val)
    else panicString ("reflectlite.Set: value of type " ++ (← Rtype.spelt src) ++ " is not assignable to type " ++ (← Rtype.spelt dst))
    pure (.tuple #[])) := rfl
theorem rl_partsA (a : Addr) (w : World) : (ReflectliteValue.parts (.agg #[.pointer (some ⟨4, 44, none⟩), .pointer (some a), .int .u64 406])).run prog w = .ok (some (44, a, 406)) w := by kernel_rfl
theorem rl_partsS (a : Addr) (w : World) : (ReflectliteValue.parts (.agg #[.pointer (some ⟨4, 44, none⟩), .pointer (some a), .int .u64 150])).run prog w = .ok (some (44, a, 150)) w := by kernel_rfl
theorem rl_directS (w : World) : (Rtype.directlyAssignable 44 44).run prog w = .ok true w := by kernel_rfl
theorem rl_sizeS (w : World) : (sizeOf 44).run prog w = .ok 1 w := by kernel_rfl
theorem rl_set (ta b e : Addr) (old : Value) (W : World) (hb : W.cell? b = some (.pointer (some e))) (ht : W.cell? ta = some old) (hf : W.frozen? ta = false) :
    (ReflectliteValue.set #[.agg #[.pointer (some ⟨4, 44, none⟩), .pointer (some ta), .int .u64 406], .agg #[.pointer (some ⟨4, 44, none⟩), .pointer (some b), .int .u64 150]]).run prog W
      = .ok (.tuple #[]) (W.setCell ta (.pointer (some e))) := by
  rw [rl_s]
  simp only [Sem.run_bind, rl_partsA, rl_partsS, Result.andThen]
  simp [ReflectliteValue.flagAddr, loadVar, isAgg, underlying, rl_undS, hb, Result.andThen, rl_directS, storeVar, Value.cells, storeCells, Addr.add]
  rw [run_store prog W ta _ _ (by rfl)]
  simp [ht, hf]
end Go.Proofs.YtmekcbbieacioaaDoorFn
namespace Go.Proofs.YtmekcbbieacioaaDoorFn
open Go.Proofs.YtmekcbbieacioaaDoorAl Go.Proofs.Tryd
open Go.RowKit Go.Extern.Stop Go.Stop Go.Extern
abbrev asW (e t : Addr) (w : World) : World := ((((w.alloc (.cells #[.pointer (some t)] 55)).alloc (.cells #[.pointer (some ⟨4, 55, none⟩), .pointer (some ⟨w.heap.size, 0, none⟩), .int .u64 150] 71)).alloc (.cells #[.pointer (some ⟨4, 55, none⟩), .pointer (some ⟨w.heap.size, 0, none⟩), .int .u64 150] 71)).alloc (.cells #[.pointer (some e)] 44)).setCell t (.pointer (some e))
set_option maxHeartbeats 8000000 in
theorem as_hit (e t : Addr) (old : Value) (w : World) (hg : w.cell? ⟨0, 0, none⟩ = some (.iface 98 (.agg #[.pointer (some ⟨4, 31, none⟩)]))) (ht0 : w.cell? t = some old) (hf0 : w.frozen? t = false) :
    Calls prog 18 #[.iface 44 (.pointer (some e)), .iface 55 (.pointer (some t))] w fun ev w' => ev = .returned (.bool true) ∧ w' = asW e t w := by
  have h6 := @run_callFunc_extern prog 32 _ (fun args => ReflectliteValue.unpack (args.getD 0 (.tuple #[]))) func32 (by kernel_rfl) (by kernel_rfl) (by kernel_rfl) (by kernel_rfl)
  have h7 := @run_callFunc_extern prog 33 _ (ReflectliteValue.methodAny (ReflectliteValue.valueError "reflectlite.Value.Type" 0) (fun t _ _ _ => ReflectliteType.toType t)) func33 (by kernel_rfl) (by kernel_rfl) (by kernel_rfl) (by kernel_rfl)
  have h8 := @run_callFunc_extern prog 34 _ (ReflectliteValue.method (ReflectliteValue.valueError "reflectlite.Value.IsNil" 0) ReflectliteValue.isNil) func34 (by kernel_rfl) (by kernel_rfl) (by kernel_rfl) (by kernel_rfl)
  have h27 := @run_callFunc_extern prog 96 _ (ReflectliteType.abiMethod fun t => do pure (.int .u8 (← Rtype.kind t))) func96 (by kernel_rfl) (by kernel_rfl) (by kernel_rfl) (by kernel_rfl)
  have h37 := @run_callFunc_extern prog 108 _ (ReflectliteType.method ReflectliteType.elem) func108 (by kernel_rfl) (by kernel_rfl) (by kernel_rfl) (by kernel_rfl)
  have h38 := @run_callFunc_extern prog 109 _ (ReflectliteType.relation "Implements" ReflectliteType.implements_) func109 (by kernel_rfl) (by kernel_rfl) (by kernel_rfl) (by kernel_rfl)
  have h10 := @run_callFunc_extern prog 36 _ ReflectliteType.typeOf func36 (by kernel_rfl) (by kernel_rfl) (by kernel_rfl) (by kernel_rfl)
  have h35 := @run_callFunc_extern prog 106 _ (ReflectliteType.relation "AssignableTo" ReflectliteType.assignableTo) func106 (by kernel_rfl) (by kernel_rfl) (by kernel_rfl) (by kernel_rfl)
  have h11 := @run_callFunc_extern prog 52 _ (ReflectliteValue.method (ReflectliteValue.valueError "reflectlite.Value.Elem" 0) ReflectliteValue.elem) func52 (by kernel_rfl) (by kernel_rfl) (by kernel_rfl) (by kernel_rfl)
  have h12 := @run_callFunc_extern prog 53 _ ReflectliteValue.set func53 (by kernel_rfl) (by kernel_rfl) (by kernel_rfl) (by kernel_rfl)
  have sz : prog.types.size + Made.depth = 268 := by kernel_rfl
  have tO := rl_typeOfS
  have mA := rl_methodAssignableTo
  have a25 := rl_assignableS
  have v25 := rl_valueOfS
  have f6 := rl_valueOfP
  have f7 := rl_typeP
  have mK := rl_methodKind
  have mE := rl_methodElem
  have mI := rl_methodImplements
  rw [sz] at *
  have k27 := rl_kindP
  have k25 := rl_kindS
  have e27 := rl_elemP
  have i25 := rl_implementsS
  have n8 := rl_isNil ⟨w.heap.size, 0, none⟩ t ((w.alloc (.cells #[.pointer (some t)] 55)).alloc (.cells #[.pointer (some ⟨4, 55, none⟩), .pointer (some ⟨w.heap.size, 0, none⟩), .int .u64 150] 71)) (by simp)
  have hlt : 0 < w.heap.size := by
    rcases Nat.eq_zero_or_pos w.heap.size with h0 | h
    · simp [World.cell?, h0] at hg
    · exact h
  have hg2 : ((w.alloc (.cells #[.pointer (some t)] 55)).alloc (.cells #[.pointer (some ⟨4, 55, none⟩), .pointer (some ⟨w.heap.size, 0, none⟩), .int .u64 150] 71)).cell? ⟨0, 0, none⟩ = some (.iface 98 (.agg #[.pointer (some ⟨4, 31, none⟩)])) := by
    rw [World.cell?_alloc_lt _ _ ⟨0, 0, none⟩ (by simp), World.cell?_alloc_lt _ _ ⟨0, 0, none⟩ hlt]; exact hg
  have htl : t.block < w.heap.size := by
    rcases Nat.lt_or_ge t.block w.heap.size with h | h
    · exact h
    · simp [World.cell?, Array.getElem?_eq_none h] at ht0
  have el := rl_elemV ⟨w.heap.size, 0, none⟩ t (((w.alloc (.cells #[.pointer (some t)] 55)).alloc (.cells #[.pointer (some ⟨4, 55, none⟩), .pointer (some ⟨w.heap.size, 0, none⟩), .int .u64 150] 71)).alloc (.cells #[.pointer (some ⟨4, 55, none⟩), .pointer (some ⟨w.heap.size, 0, none⟩), .int .u64 150] 71)) (by rw [World.cell?_alloc_lt _ _ ⟨w.heap.size, 0, none⟩ (by simp; omega)]; simp)
  have st := rl_set t ⟨w.heap.size + 1 + 1 + 1, 0, none⟩ e old ((((w.alloc (.cells #[.pointer (some t)] 55)).alloc (.cells #[.pointer (some ⟨4, 55, none⟩), .pointer (some ⟨w.heap.size, 0, none⟩), .int .u64 150] 71)).alloc (.cells #[.pointer (some ⟨4, 55, none⟩), .pointer (some ⟨w.heap.size, 0, none⟩), .int .u64 150] 71)).alloc (.cells #[.pointer (some e)] 44))
    (by rw [World.cell?_alloc_at _ _ _ _ (by simp)]; rfl)
    (by rw [World.cell?_alloc_lt _ _ t (by simp; omega), World.cell?_alloc_lt _ _ t (by simp; omega), World.cell?_alloc_lt _ _ t (by simp; omega), World.cell?_alloc_lt _ _ t htl]; exact ht0)
    (by rw [World.frozen?_alloc_old _ _ t (by simp; omega), World.frozen?_alloc_old _ _ t (by simp; omega), World.frozen?_alloc_old _ _ t (by simp; omega), World.frozen?_alloc_old _ _ t (Nat.ne_of_lt htl)]; exact hf0)
  go_enter func18, ntmps18
  go_wp2
  refine wp_loop_rounds 1 ?_
  rw [rounds_succ]
  go_wp2
  go_ret
  exact ⟨rfl, rfl⟩
end Go.Proofs.YtmekcbbieacioaaDoorFn
namespace Go.Proofs.YtmekcbbieacioaaDoorFn
open Go.Proofs.YtmekcbbieacioaaDoorAl Go.Proofs.Tryd
open Go.RowKit Go.Extern.Stop Go.Stop Go.Extern
theorem rl_typeOfC (v : Value) (w : World) : (ReflectliteType.typeOf #[.iface 41 v]).run prog w = .ok (.iface 98 (.agg #[.pointer (some ⟨4, 41, none⟩)])) w := by kernel_rfl
theorem rl_methodComparable (h : Value) (w : World) : (Go.method (prog.types.size + Made.depth) 98 (.agg #[h]) "Comparable").run prog w = .ok (107, .agg #[h]) w := by kernel_rfl
theorem rl_comparableC (w : World) : (ReflectliteType.method (fun t => do Rtype.noPackHeld "Comparable" t; pure (.bool (← typeInfo t).comparable)) #[.agg #[.pointer (some ⟨4, 41, none⟩)]]).run prog w = .ok (.bool true) w := by kernel_rfl
noncomputable def msOf (t : TypeId) : Array (String × TypeId) := match prog.underlying t with | some (.interface ms) => ms | _ => #[]
theorem rl_undE : prog.underlying 31 = some (.interface (msOf 31)) := by kernel_rfl
theorem rl_noIs (v : Value) (xT : TypeId) (w : World) : (Instr.typeAssert (.iface 44 v) xT 110 true).run prog w = .ok (.tuple #[.nilIface, .bool false]) w := by
  have h1 : prog.underlying 110 = some (.interface (msOf 110)) := by kernel_rfl
  have h2 : (prog.info? 44).map (fun i => (lacking (msOf 110) i.methods).isEmpty) = some false := by kernel_rfl
  exact run_typeAssert_lacksB h1 h2 (by kernel_rfl) v xT w
theorem rl_unw (v : Value) (xT : TypeId) (w : World) : (Instr.typeAssert (.iface 44 v) xT 105 true).run prog w = .ok (.tuple #[.iface 44 v, .bool true]) w := by
  have h1 : prog.underlying 105 = some (.interface (msOf 105)) := by kernel_rfl
  have h2 : (prog.info? 44).map (fun i => (lacking (msOf 105) i.methods).isEmpty) = some true := by kernel_rfl
  exact run_typeAssert_hasB h1 h2 v xT w
theorem rl_methodUnwrap (v : Value) (w : World) : (Go.method (prog.types.size + Made.depth) 44 v "Unwrap").run prog w = .ok (101, v) w := by kernel_rfl
theorem rl_neSC (v x : Value) (w : World) : (binOp .eql 31 (.iface 44 v) (.iface 41 x)).run prog w = .ok (.bool false) w := by
  exact run_eql_iface_types _ _ v x rl_undE (by decide) w
theorem rl_eqCC (z : Int) (w : World) : (binOp .eql 31 (.iface 41 (.int .i64 z)) (.iface 41 (.int .i64 z))).run prog w = .ok (.bool true) w := by
  have h : (binOp .eql 31 (.iface 41 (.int .i64 z)) (.iface 41 (.int .i64 z))).run prog w = .ok (.bool (z == z)) w := by kernel_rfl
  rw [h]; simp
theorem rl_nilE (u : TypeId) (x : Value) (w : World) : (binOp .eql 31 (.iface u x) .nilIface).run prog w = .ok (.bool false) w := run_eql_iface_nil w _ (by kernel_rfl) u x
end Go.Proofs.YtmekcbbieacioaaDoorFn
namespace Go.Proofs.YtmekcbbieacioaaDoorFn
open Go.Proofs.YtmekcbbieacioaaDoorAl Go.Proofs.Tryd
open Go.RowKit Go.Extern.Stop Go.Stop Go.Extern
theorem unwrap_raw (b o : Nat) (v at0 : Value) (w : World) (h0 : w.cell? ⟨b, o, none⟩ = some at0) (h1 : w.cell? ⟨b, o + 1, none⟩ = some v) : Calls prog 101 #[.pointer (some ⟨b, o, none⟩)] w fun ev w' => ev = .returned v ∧ w' = w := by
  have hf := func101
  go_enter hf, ntmps101
  go_wp2
  go_ret
  exact ⟨rfl, rfl⟩
set_option maxHeartbeats 8000000 in
theorem is_hit (b o : Nat) (z : Int) (at0 : Value) (w : World) (h0 : w.cell? ⟨b, o, none⟩ = some at0) (h1 : w.cell? ⟨b, o + 1, none⟩ = some (.iface 41 (.int .i64 z))) :
    Calls prog 37 #[.iface 44 (.pointer (some ⟨b, o, none⟩)), .iface 41 (.int .i64 z), .bool true] w fun ev w' => ev = .returned (.bool true) ∧ w' = w := by
  have sz : prog.types.size + Made.depth = 268 := by kernel_rfl
  have mU := rl_methodUnwrap
  rw [sz] at mU
  have e1 := rl_neSC
  have e2 := rl_eqCC
  have n1 := rl_nilE
  have a1 := rl_noIs
  have a2 := rl_unw
  go_enter func37, ntmps37
  go_wp2
  refine wp_loop_rounds 2 ?_
  rw [rounds_succ]
  go_wp2_with (go_at_call 101; refine (unwrap_raw b o _ at0 _ h0 h1).mono ?_; rintro e w' ⟨rfl, rfl⟩)
  rw [rounds_succ]
  go_wp2
  go_ret
  exact ⟨rfl, rfl⟩
end Go.Proofs.YtmekcbbieacioaaDoorFn
namespace Go.Proofs.YtmekcbbieacioaaDoorFn
open Go.Proofs.YtmekcbbieacioaaDoorAl Go.Proofs.Tryd
open Go.RowKit Go.Extern.Stop Go.Stop Go.Extern
set_option maxHeartbeats 8000000 in
set_option maxRecDepth 20000 in
theorem errIs_hit (b o : Nat) (z : Int) (at0 : Value) (w : World) (h0 : w.cell? ⟨b, o, none⟩ = some at0) (h1 : w.cell? ⟨b, o + 1, none⟩ = some (.iface 41 (.int .i64 z))) :
    Calls prog 19 #[.iface 44 (.pointer (some ⟨b, o, none⟩)), .iface 41 (.int .i64 z)] w fun ev w' => ev = .returned (.bool true) ∧ w' = w := by
  have h10 := @run_callFunc_extern prog 36 _ ReflectliteType.typeOf func36 (by kernel_rfl) (by kernel_rfl) (by kernel_rfl) (by kernel_rfl)
  have h11 := @run_callFunc_extern prog 107 _ (ReflectliteType.method (fun t => do Rtype.noPackHeld "Comparable" t; pure (.bool (← typeInfo t).comparable))) func107 (by kernel_rfl) (by kernel_rfl) (by kernel_rfl) (by kernel_rfl)
  have sz : prog.types.size + Made.depth = 268 := by kernel_rfl
  have mC := rl_methodComparable
  rw [sz] at mC
  have tO := rl_typeOfC
  have cC : ∀ w : World, (ReflectliteType.method (fun t => do
      Rtype.noPackHeld "Comparable" t
      (fun a : TypeInfo => Value.bool a.comparable) <$> typeInfo t) #[.agg #[.pointer (some ⟨4, 41, none⟩)]]).run prog w = .ok (.bool true) w := by
    intro w
    kernel_rfl
  have n1 := rl_nilE
  go_enter func19, ntmps19
  go_wp2_with (go_at_call 37; refine (is_hit b o z at0 _ h0 h1).mono ?_; rintro e w' ⟨rfl, rfl⟩)
  go_ret
  exact ⟨rfl, rfl⟩
set_option maxHeartbeats 8000000 in
set_option maxRecDepth 20000 in
theorem isLaw_raw (b o : Nat) (at0 z : Int) (w : World) (hg : w.cell? ⟨0, 0, none⟩ = some (.iface 98 (.agg #[.pointer (some ⟨4, 31, none⟩)])))
    (h0 : w.cell? ⟨b, o, none⟩ = some (.int .i64 at0)) (h1 : w.cell? ⟨b, o + 1, none⟩ = some (.iface 41 (.int .i64 z))) :
    Calls prog 9 #[.iface 44 (.pointer (some ⟨b, o, none⟩)), .int .i64 at0, .int .i64 z] w fun ev w' => ev = .returned (.bool true) ∧ w' = asW ⟨b, o, none⟩ ⟨w.heap.size, 0, none⟩ (w.alloc (.cells #[.pointer none] 44)) := by
  have lt : ∀ b off v, w.cell? ⟨b, off, none⟩ = some v → b < w.heap.size := fun b off v h => by
    rcases Nat.lt_or_ge b w.heap.size with h' | h'
    · exact h'
    · simp [World.cell?, Array.getElem?_eq_none h'] at h
  have hlt0 := lt 0 0 _ hg
  have hltb := lt b o _ h0
  have hgA : (w.alloc (.cells #[.pointer none] 44)).cell? ⟨0, 0, none⟩ = some (.iface 98 (.agg #[.pointer (some ⟨4, 31, none⟩)])) := by
    rw [World.cell?_alloc_lt _ _ ⟨0, 0, none⟩ hlt0]; exact hg
  have htA : (w.alloc (.cells #[.pointer none] 44)).cell? ⟨w.heap.size, 0, none⟩ = some (.pointer none) := by simp
  have hfA : (w.alloc (.cells #[.pointer none] 44)).frozen? ⟨w.heap.size, 0, none⟩ = false := by simp
  have old : ∀ off v, w.cell? ⟨b, off, none⟩ = some v → (asW ⟨b, o, none⟩ ⟨w.heap.size, 0, none⟩ (w.alloc (.cells #[.pointer none] 44))).cell? ⟨b, off, none⟩ = some v := fun off v h => by
    unfold asW
    rw [World.cell?_setCell_other _ _ _ _ (by intro h; have := congrArg Addr.block h; simp at this; omega)]
    rw [World.cell?_alloc_lt _ _ ⟨b, off, none⟩ (by simp; omega), World.cell?_alloc_lt _ _ ⟨b, off, none⟩ (by simp; omega), World.cell?_alloc_lt _ _ ⟨b, off, none⟩ (by simp; omega), World.cell?_alloc_lt _ _ ⟨b, off, none⟩ (by simp; omega), World.cell?_alloc_lt _ _ ⟨b, off, none⟩ hltb]; exact h
  have hs : (asW ⟨b, o, none⟩ ⟨w.heap.size, 0, none⟩ (w.alloc (.cells #[.pointer none] 44))).cell? ⟨w.heap.size, 0, none⟩ = some (.pointer (some ⟨b, o, none⟩)) := by
    refine World.cell?_setCell_same _ _ _ (u := .pointer none) ?_
    rw [World.cell?_alloc_lt _ _ ⟨w.heap.size, 0, none⟩ (by simp; omega), World.cell?_alloc_lt _ _ ⟨w.heap.size, 0, none⟩ (by simp; omega), World.cell?_alloc_lt _ _ ⟨w.heap.size, 0, none⟩ (by simp; omega), World.cell?_alloc_lt _ _ ⟨w.heap.size, 0, none⟩ (by simp)]; exact htA
  have o0 := old o _ h0
  have o1 := old (o + 1) _ h1
  have hA := as_hit ⟨b, o, none⟩ ⟨w.heap.size, 0, none⟩ (.pointer none) _ hgA htA hfA
  generalize hW : asW ⟨b, o, none⟩ ⟨w.heap.size, 0, none⟩ (w.alloc (.cells #[.pointer none] 44)) = W at *
  have e0 : ∀ W : World, (binOp .neq 31 (.iface 44 (.pointer (some ⟨b, o, none⟩))) (.iface 44 (.pointer (some ⟨b, o, none⟩)))).run prog W = .ok (.bool false) W := by
    intro W
    have hi : ∃ i, (typeInfo 44).run prog W = .ok i W ∧ i.comparable = true := ⟨(prog.info? 44).getD default, by kernel_rfl, by kernel_rfl⟩
    obtain ⟨i, i1, i2⟩ := hi
    simp only [binOp]
    simp [Op.equal, Op.maxDepth, run_equalIn_iface_same W 9998 31 44 46 i 1 (by kernel_rfl) i1 i2 rl_undS (by kernel_rfl) ⟨b, o, none⟩]
  have e2 := rl_eqCC z
  go_enter func9, ntmps9
  go_wp2_with (first | (go_at_call 18; refine hA.mono ?_; rintro e w' ⟨rfl, rfl⟩) | (go_at_call 19; refine (errIs_hit b o z _ _ o0 o1).mono ?_; rintro e w' ⟨rfl, rfl⟩))
  go_ret
  exact ⟨rfl, rfl⟩
end Go.Proofs.YtmekcbbieacioaaDoorFn
namespace Go.Proofs.YtmekcbbieacioaaDoorFn
open Go.Proofs.YtmekcbbieacioaaDoorAl Go.Proofs.Tryd
open Go.RowKit Go.Extern.Stop Go.Stop Go.Extern
/-! ### becketlaw00.Is in the A-logic: the laid variable's block is a fact -/
def LaidE (o : Obj) : Prop := ∃ cs T fr, o = .cells cs T fr ∧ cs[0]? = some (.iface 98 (.agg #[.pointer (some ⟨4, 31, none⟩)]))
theorem asW_heap (e t : Addr) (w : World) (k : Nat) (hk : k < w.heap.size) (ht : t.block ≠ k) : (asW e t w).heap[k]? = w.heap[k]? := by
  unfold asW
  simp only [World.setCell, Array.getElem?_modify, if_neg ht]
  rw [heap_alloc_lt (by simp; omega), heap_alloc_lt (by simp; omega), heap_alloc_lt (by simp; omega), heap_alloc_lt hk]
theorem asW_size (e t : Addr) (w : World) : w.heap.size ≤ (asW e t w).heap.size := by
  unfold asW
  simp [World.setCell]
  omega
theorem Is_ok (o' : Obj) (hO : LaidE o') (at0 z : Int) : ACalls prog 9 1 [.st (.iface 44 (.sptr [.int .i64 at0, .iface 41 (.int .i64 z)])), I at0, .st (.int .i64 z)] [(0, .fact 0 o')] fun r h => r = B true ∧ h = [(0, .fact 0 o')] := by
  intro c vals hn hr hv
  cases hv with
  | cons _ v1 _ vs a1 hv =>
  cases hv with
  | cons _ v2 _ vs a2 hv =>
  cases hv with
  | cons _ v3 _ vs a3 hv =>
  cases hv
  have b1 := st_inv a1
  have b2 := st_inv a2
  have b3 := st_inv a3
  cases b1 with
  | iface _ _ v b1 =>
  cases b1 with
  | sptr b o _ hb hc =>
  cases b2
  cases b3
  obtain ⟨u1, c1, d1⟩ := hc.get 0 _ rfl
  obtain ⟨u2, c2, d2⟩ := hc.get 1 _ rfl
  cases d1
  cases d2 with
  | iface _ _ v d2 =>
  cases d2
  have hf := (hr.fact 0 0 o' rfl)
  have hg : c.w.cell? ⟨0, 0, none⟩ = some (.iface 98 (.agg #[.pointer (some ⟨4, 31, none⟩)])) := by
    obtain ⟨cs, T, fr, rfl, e⟩ := hO
    simp [World.cell?, hf.2, e]
  have hsz := asW_size ⟨b, o, none⟩ ⟨c.w.heap.size, 0, none⟩ (c.w.alloc (.cells #[.pointer none] 44))
  have hsame : ∀ k, k < c.w.heap.size → (asW ⟨b, o, none⟩ ⟨c.w.heap.size, 0, none⟩ (c.w.alloc (.cells #[.pointer none] 44))).heap[k]? = c.w.heap[k]? := fun k hk => by
    rw [asW_heap _ _ _ k (by simp; omega) (by simp; omega), heap_alloc_lt hk]
  have hz : c.w.heap.size ≤ (c.w.alloc (.cells #[.pointer none] 44)).heap.size := by simp
  have hraw := isLaw_raw b o at0 z c.w hg c1 c2
  have hos : (asW ⟨b, o, none⟩ ⟨c.w.heap.size, 0, none⟩ (c.w.alloc (.cells #[.pointer none] 44))).os = c.w.os ∧ (asW ⟨b, o, none⟩ ⟨c.w.heap.size, 0, none⟩ (c.w.alloc (.cells #[.pointer none] 44))).tape = c.w.tape ∧ (asW ⟨b, o, none⟩ ⟨c.w.heap.size, 0, none⟩ (c.w.alloc (.cells #[.pointer none] 44))).output = c.w.output := ⟨rfl, rfl, rfl⟩
  generalize asW ⟨b, o, none⟩ ⟨c.w.heap.size, 0, none⟩ (c.w.alloc (.cells #[.pointer none] 44)) = W at *
  have hgo : CGo c { c with w := W } := ⟨Nat.le_refl _, fun _ _ => rfl, ⟨fun _ h => h, fun k hk => hsame k (hr.st k hk)⟩, fun k s hs => by
    have hk : k < c.w.heap.size := by
      rcases Nat.lt_or_ge k c.w.heap.size with h' | h'
      · exact h'
      · simp [World.shape?, Array.getElem?_eq_none h'] at hs
    show W.shape? k = _
    rw [← hs]; simp only [World.shape?, hsame k hk]⟩
  have no : ∀ (id : Nat) (p : AO), Go.Proofs.YtmekcbbieacioaaDoorAl.look [(0, AO.fact 0 o')] id = some p → ¬ p.real := fun id p e => by
    rw [look_cons] at e
    split at e
    · cases e; exact fun h => h
    · cases e
  refine hraw.mono fun e w' h => ?_
  obtain ⟨rfl, rfl⟩ := h
  refine ⟨B true, [(0, .fact 0 o')], { c with w := w' }, .bool true, ⟨rfl, rfl⟩, rfl, rfl, .st _ _ (.bool _), ?_, ?_⟩
  · exact ⟨hr.lt, fun id p e r => absurd r (no id p e), fun id p e r => absurd r (no id p e), fun id p e r => absurd r (no id p e), fun i j p p' e r => absurd r (no i p e), fun k hk => Nat.lt_of_lt_of_le (hr.st k hk) (Nat.le_trans hz hsz), fun id k p e => Fct.goes hgo (hr.fact id k p e)⟩
  · exact ⟨hgo, hos.1, hos.2.1, hos.2.2, Nat.le_trans hz hsz, fun k hk _ => hsame k hk, fun k hk => .inl hk, fun id p e r => absurd r (no id p e)⟩
end Go.Proofs.YtmekcbbieacioaaDoorFn
namespace Go.Proofs.YtmekcbbieacioaaDoorFn
open Go.Proofs.YtmekcbbieacioaaDoorAl Go.Proofs.Tryd
attribute [local irreducible] IntKind.wrap CodeOk OpsL OpG ACalls thn inBlk rndR cutR WkR Wk fnR DW ExtOk partsOf
theorem b9 : HasBody prog 9 := ⟨f9, func9, Option.some_ne_none _, by decide⟩
abbrev spotV (at0 z : Int) : AV := .st (.iface 44 (.sptr [.int .i64 at0, .iface 41 (.int .i64 z)]))
end Go.Proofs.YtmekcbbieacioaaDoorFn
namespace Go.Proofs.YtmekcbbieacioaaDoorFn
open Go.Proofs.YtmekcbbieacioaaDoorAl Go.Proofs.Tryd
attribute [local irreducible] IntKind.wrap CodeOk OpsL OpG ACalls thn inBlk rndR cutR WkR Wk fnR DW ExtOk partsOf
theorem b10 : HasBody prog 10 := ⟨f10, func10, Option.some_ne_none _, by decide⟩
/-! ### cuts -/
structure CV where
  mn : Int
  mx : Int
  ms : Int
def CV.ok (c : CV) : Bool := decide (1 ≤ c.mn) && decide (c.mn ≤ c.mx) && decide (c.mx ≤ 64) && decide (0 ≤ c.ms) && decide (c.ms ≤ 255)
abbrev cutE (c : CV) : AV := .st (.agg [.int .i64 c.mn, .int .i64 c.mx, .int .i64 c.ms])
theorem may3_ok (c : CV) : ACalls prog 10 0 [cutE c] [] fun r h => r = B c.ok ∧ h = [] := by
  obtain ⟨a, b, m⟩ := c
  refine fnC lay_ok func10 rfl rfl rfl rfl rfl ?_
  repeat' first | refine wr (by omega) ?_ | refine ln ?_ | refine stp lay_ok rfl ?_ | refine fin ?_ | refine n_thn ?_ | refine n_blk ?_ | refine e_thn ?_ | refine e_hit ?_ | refine e_miss rfl ?_ | refine r_thn ?_ | refine r_blk ?_ | refine e_rr ?_ | refine r_rr ?_ | refine e_cr ?_ | refine r_cr ?_ | refine .seq ?_ | refine reg ?_ | refine .block ?_ | refine .skip ?_ | refine .ret ?_ | refine .exit ?_ | refine cndT rfl ?_ | refine cndF rfl ?_ | refine c_dec rfl (fun hc => ?_) (fun hc => ?_) | refine c_ndec rfl (fun hc => ?_) (fun hc => ?_) | refine cnd rfl (fun hc => ?_) (fun hc => ?_) | refine gd rfl rfl rfl (fun hg => ?_) (fun hg => ?_) | refine gn rfl rfl rfl (fun hg => ?_) (fun hg => ?_)
  all_goals refine f_r [] rfl trivial rfl ⟨?_, rfl⟩
  all_goals simp_all [CV.ok, retOf]
  all_goals (intros; omega)
end Go.Proofs.YtmekcbbieacioaaDoorFn
namespace Go.Proofs.YtmekcbbieacioaaDoorFn
open Go.Proofs.YtmekcbbieacioaaDoorAl Go.Proofs.Tryd
theorem andI (a m : Nat) (ha : a < 2 ^ 62) (hm : m < 2 ^ 62) : binJ .and .i64 (a : Int) (m : Int) = some (.int .i64 ((a &&& m : Nat) : Int)) := by
  simp only [binJ]
  rw [show IntKind.i64.bits = 64 from rfl]
  have e : (BitVec.ofInt 64 (a : Int) &&& BitVec.ofInt 64 (m : Int)).toNat = a &&& m := by
    rw [BitVec.toNat_and, BitVec.toNat_ofInt, BitVec.toNat_ofInt]
    have h1 : ((m : Int) % ((2 ^ 64 : Nat) : Int)).toNat = m := by omega
    have h2 : ((a : Int) % ((2 ^ 64 : Nat) : Int)).toNat = a := by omega
    rw [h1, h2]
  have := Nat.and_le_right (n := a) (m := m)
  rw [e, i64wrap (by omega)]
attribute [local irreducible] IntKind.wrap CodeOk OpsL OpG ACalls thn inBlk rndR cutR WkR Wk fnR DW ExtOk partsOf
theorem b24 : HasBody prog 24 := ⟨f24, func24, Option.some_ne_none _, by decide⟩
/-! ### how long the next chunk is -/
def byteAt (s : ByteArray) (i : Nat) : Nat := (s.data[i]!).toNat
def prevAt (s : ByteArray) (i : Nat) : Nat := if i = 0 then 0 else byteAt s (i - 1)
def hitC (s : ByteArray) (mn ms : Nat) (i : Nat) : Bool := decide (mn ≤ i + 1) && decide ((31 * prevAt s i + byteAt s i) &&& ms = ms)
/-- k places are left of n. -/
def lenG (s : ByteArray) (mn ms n : Nat) : Nat → Nat
  | 0 => n
  | k + 1 => if hitC s mn ms (n - (k + 1)) = true then n - k else lenG s mn ms n k
set_option maxHeartbeats 4000000 in
theorem length_ok (s : ByteArray) (mn mx ms : Nat) (h1 : 1 ≤ mn) (h2 : mx ≤ 64) (h3 : ms ≤ 255) (hs : s.size ≤ 4000000000) :
    ACalls prog 24 0 [Sx s, .st (.agg [.int .i64 mn, .int .i64 mx, .int .i64 ms])] [] fun r h => r = I (lenG s mn ms (min s.size mx) (min s.size mx)) ∧ h = [] := by
  obtain ⟨n, hn⟩ : ∃ n, n = min s.size mx := ⟨_, rfl⟩
  rw [← hn]
  have hni : min (s.size : Int) (mx : Int) = (n : Int) := by omega
  have hns : n ≤ s.size ∧ n ≤ 64 := by omega
  generalize hK : lenG s mn ms n n = K
  refine fnC lay_ok func24 rfl rfl rfl rfl rfl ?_
  repeat' first | refine wr (by omega) ?_ | refine ln ?_ | refine stp lay_ok rfl ?_ | refine fin ?_ | refine n_thn ?_ | refine n_blk ?_ | refine e_thn ?_ | refine e_hit ?_ | refine e_miss rfl ?_ | refine r_thn ?_ | refine r_blk ?_ | refine e_rr ?_ | refine r_rr ?_ | refine e_cr ?_ | refine r_cr ?_ | refine .seq ?_ | refine reg ?_ | refine .block ?_ | refine .skip ?_ | refine .ret ?_ | refine .exit ?_ | refine cndT rfl ?_ | refine cndF rfl ?_ | refine c_dec rfl (fun hc => ?_) (fun hc => ?_) | refine c_ndec rfl (fun hc => ?_) (fun hc => ?_) | refine cnd rfl (fun hc => ?_) (fun hc => ?_) | ((first | refine o_none rfl ?_ | refine o_none_ ?_ | refine o_yes rfl rfl rfl ?_ | refine o_yes_ rfl rfl ?_); first | refine st_min rfl rfl ?_) | refine gd rfl rfl rfl (fun hg => ?_) (fun hg => ?_) | refine gn rfl rfl rfl (fun hg => ?_) (fun hg => ?_)
  rw [hni]
  refine lpR (fun (k, i, pv) => i + k = n ∧ pv = prevAt s i ∧ K = lenG s mn ms n k) (fun (k, i, pv) => k) (fun (k, i, pv) => [(5, I pv), (13, I i)]) (fun (k, i, pv) => [(0, .cells [I mn, I mx, I ms])]) ((n, 0, 0)) [0, 3, 12] [0] [] rfl rfl rfl (.of [] (by (repeat' first | exact trivial | refine And.intro ?_ ?_ | rfl); first | done | fail) (by (repeat' first | exact trivial | refine And.intro ?_ ?_ | rfl); first | done | fail) rfl) ?_ ?_
  · exact ⟨by omega, rfl, hK.symm⟩
  rintro ⟨k, i, pv⟩ ⟨g1, g2, g3⟩
  refine nrm rfl rfl ?_
  clear hK
  cases k with
  | zero =>
    rw [lenG] at g3
    subst g3
    repeat' first | refine wr (by omega) ?_ | refine ln ?_ | refine stp lay_ok rfl ?_ | refine fin ?_ | refine n_thn ?_ | refine n_blk ?_ | refine e_thn ?_ | refine e_hit ?_ | refine e_miss rfl ?_ | refine r_thn ?_ | refine r_blk ?_ | refine e_rr ?_ | refine r_rr ?_ | refine e_cr ?_ | refine r_cr ?_ | refine .seq ?_ | refine reg ?_ | refine .block ?_ | refine .skip ?_ | refine .ret ?_ | refine .exit ?_ | refine cndT rfl ?_ | refine cndF rfl ?_ | refine c_dec rfl (fun hc => ?_) (fun hc => ?_) | refine c_ndec rfl (fun hc => ?_) (fun hc => ?_) | refine cnd rfl (fun hc => ?_) (fun hc => ?_) | ((first | refine o_none rfl ?_ | refine o_none_ ?_ | refine o_yes rfl rfl rfl ?_ | refine o_yes_ rfl rfl ?_); first | refine st_min rfl rfl ?_) | refine gd rfl rfl rfl (fun hg => ?_) (fun hg => ?_) | refine gn rfl rfl rfl (fun hg => ?_) (fun hg => ?_)
    all_goals first
      | (exfalso; omega)
      | skip
    refine f_r [] rfl trivial rfl ⟨?_, rfl⟩
    exact congrArg (fun z : Int => AV.st (.int .i64 z)) hni
  | succ k =>
    have hi : n - (k + 1) = i := by omega
    have hi2 : n - k = i + 1 := by omega
    rw [lenG, hi, hi2] at g3
    have hb : s.data.toList[((i : Int)).toNat]? = some s.data[i]! := by
      rw [Int.toNat_natCast, Array.getElem?_toList, getElem!_pos s.data i (by have := hns.1; show i < s.size; omega)]
      exact Array.getElem?_eq_getElem _
    have hpv : pv < 256 := by
      subst g2
      unfold prevAt
      split
      · omega
      · exact UInt8.toNat_lt _
    have hbl : (s.data[i]!).toNat < 256 := UInt8.toNat_lt _
    have hand := andI (31 * pv + (s.data[i]!).toNat) ms (by omega) (by omega)
    rw [show ((31 * pv + (s.data[i]!).toNat : Nat) : Int) = 31 * (pv : Int) + ((s.data[i]!).toNat : Int) by omega] at hand
    have hle := Nat.and_le_right (n := 31 * pv + (s.data[i]!).toNat) (m := ms)
    have hh : hitC s mn ms i = (decide (mn ≤ i + 1) && decide ((31 * pv + (s.data[i]!).toNat) &&& ms = ms)) := by rw [g2]; rfl
    have hpn : prevAt s (i + 1) = (s.data[i]!).toNat := by unfold prevAt; rw [if_neg (by omega)]; rfl
    rw [hh] at g3
    generalize (31 * pv + (s.data[i]!).toNat) &&& ms = o at *
    generalize s.data[i]! = b at *
    repeat' first | refine wr (by omega) ?_ | refine ln ?_ | refine stp lay_ok rfl ?_ | refine fin ?_ | refine n_thn ?_ | refine n_blk ?_ | refine e_thn ?_ | refine e_hit ?_ | refine e_miss rfl ?_ | refine r_thn ?_ | refine r_blk ?_ | refine e_rr ?_ | refine r_rr ?_ | refine e_cr ?_ | refine r_cr ?_ | refine .seq ?_ | refine reg ?_ | refine .block ?_ | refine .skip ?_ | refine .ret ?_ | refine .exit ?_ | refine cndT rfl ?_ | refine cndF rfl ?_ | refine c_dec rfl (fun hc => ?_) (fun hc => ?_) | refine c_ndec rfl (fun hc => ?_) (fun hc => ?_) | refine cnd rfl (fun hc => ?_) (fun hc => ?_) | ((first | refine o_none rfl ?_ | refine o_none_ ?_ | refine o_yes rfl rfl rfl ?_ | refine o_yes_ rfl rfl ?_); first | refine st_byte b lay_ok rfl rfl rfl rfl (by omega) hb ?_ | refine st_bits rfl rfl hand ?_) | refine gd rfl rfl rfl (fun hg => ?_) (fun hg => ?_) | refine gn rfl rfl rfl (fun hg => ?_) (fun hg => ?_)
    all_goals first
      | (exfalso; omega)
      | skip
    · rw [if_pos (by simp only [Bool.and_eq_true, decide_eq_true_eq]; omega)] at g3
      refine f_r [] rfl trivial rfl ⟨?_, rfl⟩
      rw [g3]
      exact congrArg (fun z : Int => AV.st (.int .i64 z)) (show (i : Int) + 1 = ((i + 1 : Nat) : Int) by omega)
    all_goals
      rw [if_neg (by simp only [Bool.and_eq_true, decide_eq_true_eq]; omega)] at g3
      refine n_rr ((k, i + 1, b.toNat)) ?_ (.of [0] (by (repeat' first | exact trivial | refine And.intro ?_ ?_ | rfl | exact congrArg (fun z : Int => some (AV.st (.int .i64 z))) (show (i : Int) + 1 = ((i + 1 : Nat) : Int) by omega)); first | done | fail) (by (repeat' first | exact trivial | refine And.intro ?_ ?_ | rfl | exact congrArg (fun z : Int => some (AV.st (.int .i64 z))) (show (i : Int) + 1 = ((i + 1 : Nat) : Int) by omega)); first | done | fail) rfl) ?_
      · exact Nat.lt_succ_self _
      · exact ⟨by omega, hpn.symm, g3⟩
end Go.Proofs.YtmekcbbieacioaaDoorFn
namespace Go.Proofs.YtmekcbbieacioaaDoorFn
open Go.Proofs.YtmekcbbieacioaaDoorAl Go.Proofs.Tryd
attribute [local irreducible] IntKind.wrap CodeOk OpsL OpG ACalls thn inBlk rndR cutR WkR Wk fnR DW ExtOk partsOf
theorem b12 : HasBody prog 12 := ⟨f12, func12, Option.some_ne_none _, by decide⟩
/-! ### a text in chunks -/
def CV.len (c : CV) (s : ByteArray) : Nat := lenG s c.mn.toNat c.ms.toNat (min s.size c.mx.toNat) (min s.size c.mx.toNat)
theorem lenG_le (s : ByteArray) (mn ms n : Nat) : ∀ k, k ≤ n → lenG s mn ms n k ≤ n ∧ (0 < n → 0 < lenG s mn ms n k) := by
  intro k
  induction k with
  | zero => intro _; rw [lenG]; omega
  | succ k ih =>
    intro h
    rw [lenG]
    split
    · omega
    · exact ih (by omega)
theorem CV.len_le (c : CV) (s : ByteArray) (h : c.ok = true) (hs : 0 < s.size) : 0 < c.len s ∧ c.len s ≤ s.size := by
  simp only [CV.ok, Bool.and_eq_true, decide_eq_true_eq] at h
  have := lenG_le s c.mn.toNat c.ms.toNat (min s.size c.mx.toNat) (min s.size c.mx.toNat) (Nat.le_refl _)
  unfold CV.len
  omega
theorem lengthC_ok (c : CV) (s : ByteArray) (h : c.ok = true) (hs : s.size ≤ 4000000000) : ACalls prog 24 0 [Sx s, cutE c] [] fun r h => r = I (c.len s) ∧ h = [] := by
  simp only [CV.ok, Bool.and_eq_true, decide_eq_true_eq] at h
  have := length_ok s c.mn.toNat c.mx.toNat c.ms.toNat (by omega) (by omega) (by omega) hs
  rw [show ((c.mn.toNat : Nat) : Int) = c.mn by omega, show ((c.mx.toNat : Nat) : Int) = c.mx by omega, show ((c.ms.toNat : Nat) : Int) = c.ms by omega] at this
  exact this
def CV.split (c : CV) : Nat → ByteArray → List ByteArray
  | 0, _ => []
  | f + 1, s => if s.size = 0 then [] else s.extract 0 (c.len s) :: c.split f (s.extract (c.len s) s.size)
/-- The chunks, or what is amiss. -/
def splR (c : CV) (s : ByteArray) : AV := if c.ok = false then .tuple [.st .nilsl, errE 1] else if 1024 < s.size then .tuple [.st .nilsl, errE 7] else .tuple [.st (.sl 1 ((c.split s.size s).map rowS)), nilE]
set_option maxHeartbeats 4000000 in
set_option maxRecDepth 4000 in
theorem split3_ok (c : CV) (s : ByteArray) (hs : s.size ≤ 4000000000) : ACalls prog 12 0 [Sx s, cutE c] [] fun r h => r = splR c s ∧ h = [] := by
  have hm := may3_ok c
  unfold splR
  refine fnC lay_ok func12 rfl rfl rfl rfl rfl ?_
  cases hok : c.ok with
  | false =>
    rw [hok] at hm
    repeat' first | refine wr (by omega) ?_ | refine ln ?_ | refine stp lay_ok rfl ?_ | refine fin ?_ | refine n_thn ?_ | refine n_blk ?_ | refine e_thn ?_ | refine e_hit ?_ | refine e_miss rfl ?_ | refine r_thn ?_ | refine r_blk ?_ | refine e_rr ?_ | refine r_rr ?_ | refine e_cr ?_ | refine r_cr ?_ | refine .seq ?_ | refine reg ?_ | refine .block ?_ | refine .skip ?_ | refine .ret ?_ | refine .exit ?_ | refine cndT rfl ?_ | refine cndF rfl ?_ | refine c_dec rfl (fun hc => ?_) (fun hc => ?_) | refine c_ndec rfl (fun hc => ?_) (fun hc => ?_) | refine cnd rfl (fun hc => ?_) (fun hc => ?_) | ((first | refine o_none rfl ?_ | refine o_none_ ?_ | refine o_yes rfl rfl rfl ?_ | refine o_yes_ rfl rfl ?_); first | refine st_pure (hm) b10 rfl rfl rfl rfl ?_) | refine gd rfl rfl rfl (fun hg => ?_) (fun hg => ?_) | refine gn rfl rfl rfl (fun hg => ?_) (fun hg => ?_)
    all_goals first
      | (exfalso; omega)
      | skip
    refine f_r [] rfl trivial rfl ⟨?_, rfl⟩
    rfl
  | true =>
    rw [hok] at hm
    by_cases h24 : 1024 < s.size
    · repeat' first | refine wr (by omega) ?_ | refine ln ?_ | refine stp lay_ok rfl ?_ | refine fin ?_ | refine n_thn ?_ | refine n_blk ?_ | refine e_thn ?_ | refine e_hit ?_ | refine e_miss rfl ?_ | refine r_thn ?_ | refine r_blk ?_ | refine e_rr ?_ | refine r_rr ?_ | refine e_cr ?_ | refine r_cr ?_ | refine .seq ?_ | refine reg ?_ | refine .block ?_ | refine .skip ?_ | refine .ret ?_ | refine .exit ?_ | refine cndT rfl ?_ | refine cndF rfl ?_ | refine c_dec rfl (fun hc => ?_) (fun hc => ?_) | refine c_ndec rfl (fun hc => ?_) (fun hc => ?_) | refine cnd rfl (fun hc => ?_) (fun hc => ?_) | ((first | refine o_none rfl ?_ | refine o_none_ ?_ | refine o_yes rfl rfl rfl ?_ | refine o_yes_ rfl rfl ?_); first | refine st_pure (hm) b10 rfl rfl rfl rfl ?_) | refine gd rfl rfl rfl (fun hg => ?_) (fun hg => ?_) | refine gn rfl rfl rfl (fun hg => ?_) (fun hg => ?_)
      all_goals first
        | (exfalso; omega)
        | skip
      refine f_r [] rfl trivial rfl ⟨?_, rfl⟩
      rw [if_neg (by simp), if_pos h24]
      rfl
    rw [if_neg (by simp), if_neg h24]
    repeat' first | refine wr (by omega) ?_ | refine ln ?_ | refine stp lay_ok rfl ?_ | refine fin ?_ | refine n_thn ?_ | refine n_blk ?_ | refine e_thn ?_ | refine e_hit ?_ | refine e_miss rfl ?_ | refine r_thn ?_ | refine r_blk ?_ | refine e_rr ?_ | refine r_rr ?_ | refine e_cr ?_ | refine r_cr ?_ | refine .seq ?_ | refine reg ?_ | refine .block ?_ | refine .skip ?_ | refine .ret ?_ | refine .exit ?_ | refine cndT rfl ?_ | refine cndF rfl ?_ | refine c_dec rfl (fun hc => ?_) (fun hc => ?_) | refine c_ndec rfl (fun hc => ?_) (fun hc => ?_) | refine cnd rfl (fun hc => ?_) (fun hc => ?_) | ((first | refine o_none rfl ?_ | refine o_none_ ?_ | refine o_yes rfl rfl rfl ?_ | refine o_yes_ rfl rfl ?_); first | refine st_pure (hm) b10 rfl rfl rfl rfl ?_) | refine gd rfl rfl rfl (fun hg => ?_) (fun hg => ?_) | refine gn rfl rfl rfl (fun hg => ?_) (fun hg => ?_)
    all_goals first
      | (exfalso; omega)
      | skip
    refine CodeOk.wk (Wk.nilT 1 6 rfl rfl) (Nat.le_succ _) ?_
    refine nrm rfl rfl ?_
    refine lpR (fun (f, out, u) => u.size ≤ f ∧ f ≤ 1024 ∧ out.length + f ≤ 1024 ∧ c.split s.size s = out ++ c.split f u) (fun (f, out, u) => f) (fun (f, out, u) => [(0, Sx u), (6, .lsl 2 1 0 (out.map rowS).length)]) (fun (f, out, u) => [(2, .arr 1 (out.map rowS))]) ((s.size, [], s)) [3] [] [1] rfl rfl rfl (.of [1] (by (repeat' first | exact trivial | refine And.intro ?_ ?_ | rfl); first | done | fail) (by (repeat' first | exact trivial | refine And.intro ?_ ?_ | rfl); first | done | fail) rfl) ?_ ?_
    · exact ⟨Nat.le_refl _, by omega, by simp; omega, rfl⟩
    rintro ⟨f, out, u⟩ ⟨g1, g2, g3, g4⟩
    refine nrm rfl rfl ?_
    have hmo : (List.map rowS out).length = out.length := List.length_map _
    by_cases hu : u = ⟨#[]⟩
    · have hu0 : c.split f u = [] := by
        cases f with
        | zero => rfl
        | succ f => rw [CV.split, if_pos (by rw [hu]; rfl)]
      rw [hu0, List.append_nil] at g4
      repeat' first | refine wr (by omega) ?_ | refine ln ?_ | refine stp lay_ok rfl ?_ | refine fin ?_ | refine n_thn ?_ | refine n_blk ?_ | refine e_thn ?_ | refine e_hit ?_ | refine e_miss rfl ?_ | refine r_thn ?_ | refine r_blk ?_ | refine e_rr ?_ | refine r_rr ?_ | refine e_cr ?_ | refine r_cr ?_ | refine .seq ?_ | refine reg ?_ | refine .block ?_ | refine .skip ?_ | refine .ret ?_ | refine .exit ?_ | refine cndT rfl ?_ | refine cndF rfl ?_ | refine c_dec rfl (fun hc => ?_) (fun hc => ?_) | refine c_ndec rfl (fun hc => ?_) (fun hc => ?_) | refine cnd rfl (fun hc => ?_) (fun hc => ?_) | refine gd rfl rfl rfl (fun hg => ?_) (fun hg => ?_) | refine gn rfl rfl rfl (fun hg => ?_) (fun hg => ?_)
      all_goals first
        | (exfalso; exact absurd hu (by assumption))
        | (exfalso; simp_all; done)
        | skip
      refine f_end (n0 := 0) (t'' := [(4, .st (.sl 1 (out.map rowS))), (5, nilE)]) (h'' := []) (Wk.then (Wk.frz 2 [4, 5] rfl rfl rfl (by (repeat' first | exact trivial | refine And.intro ?_ ?_ | rfl); first | done | fail) (by (repeat' first | exact trivial | refine And.intro ?_ ?_ | rfl); first | done | fail) rfl rfl) (WkR.of [] (by (repeat' first | exact trivial | refine And.intro ?_ ?_ | rfl); first | done | fail) (by (repeat' first | exact trivial | refine And.intro ?_ ?_ | rfl); first | done | fail) rfl)) rfl rfl ⟨?_, rfl⟩
      rw [g4]; rfl
    have hup : 0 < u.size := by
      rcases Nat.eq_zero_or_pos u.size with h | h
      · exact absurd (by cases u with | mk d => exact congrArg ByteArray.mk (Array.eq_empty_of_size_eq_zero h)) hu
      · exact h
    have hlen := c.len_le u hok hup
    have hlo := lengthC_ok c u hok (by omega)
    obtain ⟨f, rfl⟩ : ∃ f', f = f' + 1 := ⟨f - 1, by omega⟩
    rw [CV.split, if_neg (by omega)] at g4
    have hr : ∀ x : ByteArray, List.map rowS out ++ [[SV.str x]] = List.map rowS (out ++ [x]) := fun x => by rw [List.map_append]; rfl
    generalize c.len u = k at *
    repeat' first | refine wr (by omega) ?_ | refine ln ?_ | refine stp lay_ok rfl ?_ | refine fin ?_ | refine n_thn ?_ | refine n_blk ?_ | refine e_thn ?_ | refine e_hit ?_ | refine e_miss rfl ?_ | refine r_thn ?_ | refine r_blk ?_ | refine e_rr ?_ | refine r_rr ?_ | refine e_cr ?_ | refine r_cr ?_ | refine .seq ?_ | refine reg ?_ | refine .block ?_ | refine .skip ?_ | refine .ret ?_ | refine .exit ?_ | refine cndT rfl ?_ | refine cndF rfl ?_ | refine c_dec rfl (fun hc => ?_) (fun hc => ?_) | refine c_ndec rfl (fun hc => ?_) (fun hc => ?_) | refine cnd rfl (fun hc => ?_) (fun hc => ?_) | ((first | refine o_none rfl ?_ | refine o_none_ ?_ | refine o_yes rfl rfl rfl ?_ | refine o_yes_ rfl rfl ?_); first | refine st_pure (hlo) b24 rfl rfl rfl rfl ?_ | refine st_subS 0 k lay_ok rfl rfl rfl rfl ⟨_, _, rfl, rfl⟩ (Nat.zero_le _) (by omega) ?_ | refine st_subS k u.size lay_ok rfl rfl rfl ⟨_, _, rfl, rfl⟩ rfl (by omega) (Nat.le_refl _) ?_ | refine st_append lay_ok rfl rfl rfl rfl rfl rfl rfl rfl (.lsl rfl rfl) .sl rfl (one_s (u.extract 0 k)) (by simp only [List.length_cons, List.length_nil]; omega) (by simp only [List.length_cons, List.length_nil]; omega) ?_) | refine gd rfl rfl rfl (fun hg => ?_) (fun hg => ?_) | refine gn rfl rfl rfl (fun hg => ?_) (fun hg => ?_)
    all_goals first
      | (exfalso; simp_all; done)
      | skip
    rw [hr]
    refine n_rr ((f, out ++ [u.extract 0 k], u.extract k u.size)) ?_ (.of [3] (by (repeat' first | exact trivial | refine And.intro ?_ ?_ | rfl); first | done | fail) (by (repeat' first | exact trivial | refine And.intro ?_ ?_ | rfl); first | done | fail) rfl) ?_
    · exact Nat.lt_succ_self _
    · refine ⟨?_, by omega, by simp; omega, by rw [g4]; simp⟩
      rw [ByteArray.size_extract]; omega
end Go.Proofs.YtmekcbbieacioaaDoorFn
namespace Go.Proofs.YtmekcbbieacioaaDoorFn
open Go.Proofs.YtmekcbbieacioaaDoorAl Go.Proofs.Tryd
attribute [local irreducible] IntKind.wrap CodeOk OpsL OpG ACalls thn inBlk rndR cutR WkR Wk fnR DW ExtOk partsOf
/-- What is amiss with the entry at i. -/
def entryC (l : List EV) (i : Nat) (e : EV) : Option Int :=
  if pathOk e.path then
    if (decide (0 < i) && (match l[i - 1]? with | some x => !strLt x.path e.path | none => false)) || (l.take i).any (fun x => under x.path e.path) then some 4
    else if wholeB e then none else some 1
  else some 2
def errO : Option Int → AV
  | none => nilE
  | some n => errE n
set_option maxHeartbeats 2000000 in
theorem entry_ok (l : List EV) (i : Nat) (hi : i < l.length) (hl : l.length ≤ 4000000000) (hp : ∀ e ∈ l, e.path.size ≤ 4000000000 - 1) (hk : ∀ e ∈ l, e.keys.length ≤ 4000000000) :
    ACalls prog 17 0 [.st (.sl 3 (l.map rowE)), I i] [] fun r h => r = errO (entryC l i l[i]) ∧ h = [] := by
  have hat := at_rowE hi
  have hc1 := pathCheck_ok l[i].path (hp _ (List.getElem_mem hi))
  have hw := whole_ok l[i] (hk _ (List.getElem_mem hi))
  have hu := conE_ok 28 b28 (rowE l[i]) (fun x => under x.path l[i].path) (l.take i) (by simp; omega) (fun x hx => entry1_ok l[i] x (hp _ (List.getElem_mem hi)) (hp _ (List.mem_of_mem_take hx)))
  have hm : (List.map rowE l).length = l.length := List.length_map _
  rw [List.map_take] at hu
  generalize he : l[i] = e at *
  obtain ⟨p, z, ks⟩ := e
  refine fnC lay_ok func17 rfl rfl rfl rfl rfl ?_
  cases hpo : pathOk p with
  | false =>
    simp only [hpo, if_true, if_false, Bool.false_eq_true] at hc1
    repeat' first | refine o_frb 0 [.str p, .int .i64 z, .sl 1 (ks.map rowS)] rfl rfl rfl (by (repeat' first | exact trivial | refine And.intro ?_ ?_ | rfl); first | done | fail) (by (repeat' first | exact trivial | refine And.intro ?_ ?_ | rfl); first | done | fail) rfl rfl ?_ | refine wr (by omega) ?_ | refine ln ?_ | refine stp lay_ok rfl ?_ | refine fin ?_ | refine n_thn ?_ | refine n_blk ?_ | refine e_thn ?_ | refine e_hit ?_ | refine e_miss rfl ?_ | refine r_thn ?_ | refine r_blk ?_ | refine e_rr ?_ | refine r_rr ?_ | refine e_cr ?_ | refine r_cr ?_ | refine .seq ?_ | refine reg ?_ | refine .block ?_ | refine .skip ?_ | refine .ret ?_ | refine .exit ?_ | refine cndT rfl ?_ | refine cndF rfl ?_ | refine c_dec rfl (fun hc => ?_) (fun hc => ?_) | refine c_ndec rfl (fun hc => ?_) (fun hc => ?_) | refine cnd rfl (fun hc => ?_) (fun hc => ?_) | ((first | refine o_none rfl ?_ | refine o_none_ ?_ | refine o_yes rfl rfl rfl ?_ | refine o_yes_ rfl rfl ?_); first | refine st_index (rowE ⟨p, z, ks⟩) lay_ok rfl rfl rfl rfl (by omega) hat ?_ | refine st_pure (hc1) b20 rfl rfl rfl rfl ?_) | refine gd rfl rfl rfl (fun hg => ?_) (fun hg => ?_) | refine gn rfl rfl rfl (fun hg => ?_) (fun hg => ?_) | refine dwr (by omega) ?_ | refine dwl ?_ | refine dws lay_ok rfl rfl rfl rfl rfl rfl rfl ?_ | refine dwu lay_ok rfl rfl rfl rfl rfl rfl rfl rfl rfl ?_ | refine dw_end ?_ | refine dw_skip rfl rfl rfl ?_ | refine dwn lay_ok rfl rfl rfl rfl rfl ?_ | refine dwb rfl rfl rfl rfl rfl (by (first | refine st_index (rowE ⟨p, z, ks⟩) lay_ok rfl rfl rfl rfl (by omega) hat ?_ | refine st_pure (hc1) b20 rfl rfl rfl rfl ?_); exact fin rfl) rfl rfl ?_ | refine dwg rfl rfl rfl rfl rfl (by (first | refine st_index (rowE ⟨p, z, ks⟩) lay_ok rfl rfl rfl rfl (by omega) hat ?_ | refine st_pure (hc1) b20 rfl rfl rfl rfl ?_); exact fin rfl) rfl rfl rfl rfl rfl ?_ | refine dw_dec rfl rfl rfl (fun hg => ?_) (fun hg => ?_) | refine dw_ndec rfl rfl rfl (fun hg => ?_) (fun hg => ?_)
    refine f_r [] rfl trivial rfl ⟨?_, rfl⟩
    simp only [entryC, hpo]; rfl
  | true =>
    simp only [hpo, if_true, if_false, Bool.false_eq_true] at hc1
    repeat' first | refine o_frb 0 [.str p, .int .i64 z, .sl 1 (ks.map rowS)] rfl rfl rfl (by (repeat' first | exact trivial | refine And.intro ?_ ?_ | rfl); first | done | fail) (by (repeat' first | exact trivial | refine And.intro ?_ ?_ | rfl); first | done | fail) rfl rfl ?_ | refine wr (by omega) ?_ | refine ln ?_ | refine stp lay_ok rfl ?_ | refine fin ?_ | refine n_thn ?_ | refine n_blk ?_ | refine e_thn ?_ | refine e_hit ?_ | refine e_miss rfl ?_ | refine r_thn ?_ | refine r_blk ?_ | refine e_rr ?_ | refine r_rr ?_ | refine e_cr ?_ | refine r_cr ?_ | refine .seq ?_ | refine reg ?_ | refine .block ?_ | refine .skip ?_ | refine .ret ?_ | refine .exit ?_ | refine cndT rfl ?_ | refine cndF rfl ?_ | refine c_dec rfl (fun hc => ?_) (fun hc => ?_) | refine c_ndec rfl (fun hc => ?_) (fun hc => ?_) | refine cnd rfl (fun hc => ?_) (fun hc => ?_) | ((first | refine o_none rfl ?_ | refine o_none_ ?_ | refine o_yes rfl rfl rfl ?_ | refine o_yes_ rfl rfl ?_); first | refine st_index (rowE ⟨p, z, ks⟩) lay_ok rfl rfl rfl rfl (by omega) hat ?_ | refine st_pure (hc1) b20 rfl rfl rfl rfl ?_) | refine gd rfl rfl rfl (fun hg => ?_) (fun hg => ?_) | refine gn rfl rfl rfl (fun hg => ?_) (fun hg => ?_) | refine dwr (by omega) ?_ | refine dwl ?_ | refine dws lay_ok rfl rfl rfl rfl rfl rfl rfl ?_ | refine dwu lay_ok rfl rfl rfl rfl rfl rfl rfl rfl rfl ?_ | refine dw_end ?_ | refine dw_skip rfl rfl rfl ?_ | refine dwn lay_ok rfl rfl rfl rfl rfl ?_ | refine dwb rfl rfl rfl rfl rfl (by (first | refine st_index (rowE ⟨p, z, ks⟩) lay_ok rfl rfl rfl rfl (by omega) hat ?_ | refine st_pure (hc1) b20 rfl rfl rfl rfl ?_); exact fin rfl) rfl rfl ?_ | refine dwg rfl rfl rfl rfl rfl (by (first | refine st_index (rowE ⟨p, z, ks⟩) lay_ok rfl rfl rfl rfl (by omega) hat ?_ | refine st_pure (hc1) b20 rfl rfl rfl rfl ?_); exact fin rfl) rfl rfl rfl rfl rfl ?_ | refine dw_dec rfl rfl rfl (fun hg => ?_) (fun hg => ?_) | refine dw_ndec rfl rfl rfl (fun hg => ?_) (fun hg => ?_)
    have ht : i ≤ (l.map rowE).length := by omega
    cases ha : (l.take i).any (fun x => under x.path p) <;> cases hwb : wholeB ⟨p, z, ks⟩ <;> simp only [ha] at hu <;> rw [hwb] at hw
    all_goals
      rcases Nat.eq_zero_or_pos i with h0 | h0
      · have e1 : (if false = true ∨ (l.take i).any (fun x => under x.path p) = true then some 4 else if wholeB ⟨p, z, ks⟩ then none else some 1) = entryC l i ⟨p, z, ks⟩ := by
          simp [entryC, hpo, h0]
        rw [ha, hwb] at e1
        refine dreg [(0, [], []), (1, [0], []), (2, [0, 1], []), (3, [0, 1, 2], [23, 24, 28, 29]), (4, [0, 1, 2], [22, 28, 29]), (5, [0, 1, 2, 4], [22, 28, 29]), (6, [0, 1, 2, 3, 4, 5], [28, 29]), (7, [0, 1, 2, 3, 4, 5, 6], [28, 29]), (8, [0, 1, 2, 3, 4, 5, 6, 7], [28, 29]), (9, [0, 1, 2], [22, 23, 24, 25, 26, 27]), (10, [0, 1, 2, 9], [22, 23, 24, 25, 26, 27]), (11, [0, 1, 2, 3, 4, 5, 6, 7, 8, 9, 10], []), (12, [0, 1, 2, 3, 4, 5, 6, 7, 8, 9, 10, 11], []), (13, [0, 1, 2, 3, 4, 5, 6, 7, 8, 9, 10, 11, 12], [])] mixed (by kernel_rfl) ?_
        repeat' first | refine wr (by omega) ?_ | refine ln ?_ | refine stp lay_ok rfl ?_ | refine fin ?_ | refine n_thn ?_ | refine n_blk ?_ | refine e_thn ?_ | refine e_hit ?_ | refine e_miss rfl ?_ | refine r_thn ?_ | refine r_blk ?_ | refine e_rr ?_ | refine r_rr ?_ | refine e_cr ?_ | refine r_cr ?_ | refine .seq ?_ | refine reg ?_ | refine .block ?_ | refine .skip ?_ | refine .ret ?_ | refine .exit ?_ | refine cndT rfl ?_ | refine cndF rfl ?_ | refine c_dec rfl (fun hc => ?_) (fun hc => ?_) | refine c_ndec rfl (fun hc => ?_) (fun hc => ?_) | refine cnd rfl (fun hc => ?_) (fun hc => ?_) | ((first | refine o_none rfl ?_ | refine o_none_ ?_ | refine o_yes rfl rfl rfl ?_ | refine o_yes_ rfl rfl ?_); first | refine st_subL 0 i lay_ok rfl rfl rfl rfl ⟨_, _, rfl, rfl⟩ (Nat.zero_le _) ht ?_ | refine st_pure (hu) b30 rfl rfl rfl rfl ?_ | refine st_pure (hw) b31 rfl rfl rfl rfl ?_) | refine gd rfl rfl rfl (fun hg => ?_) (fun hg => ?_) | refine gn rfl rfl rfl (fun hg => ?_) (fun hg => ?_) | refine dwr (by omega) ?_ | refine dwl ?_ | refine dws lay_ok rfl rfl rfl rfl rfl rfl rfl ?_ | refine dwu lay_ok rfl rfl rfl rfl rfl rfl rfl rfl rfl ?_ | refine dw_end ?_ | refine dw_skip rfl rfl rfl ?_ | refine dwn lay_ok rfl rfl rfl rfl rfl ?_ | refine dwb rfl rfl rfl rfl rfl (by (first | refine st_subL 0 i lay_ok rfl rfl rfl rfl ⟨_, _, rfl, rfl⟩ (Nat.zero_le _) ht ?_ | refine st_pure (hu) b30 rfl rfl rfl rfl ?_ | refine st_pure (hw) b31 rfl rfl rfl rfl ?_); exact fin rfl) rfl rfl ?_ | refine dwg rfl rfl rfl rfl rfl (by (first | refine st_subL 0 i lay_ok rfl rfl rfl rfl ⟨_, _, rfl, rfl⟩ (Nat.zero_le _) ht ?_ | refine st_pure (hu) b30 rfl rfl rfl rfl ?_ | refine st_pure (hw) b31 rfl rfl rfl rfl ?_); exact fin rfl) rfl rfl rfl rfl rfl ?_ | refine dw_dec rfl rfl rfl (fun hg => ?_) (fun hg => ?_) | refine dw_ndec rfl rfl rfl (fun hg => ?_) (fun hg => ?_)
        all_goals first | omega | (refine f_r [] rfl trivial rfl ⟨?_, rfl⟩; rw [← e1]; rfl)
      · have h1 : i - 1 < l.length := by omega
        have hat1 := at_rowE h1
        have hx : (l.map rowE)[((i : Int) - 1).toNat]? = some (rowE l[i - 1]) := by rw [← hat1]; congr 1; omega
        have e1 : (if (!strLt l[i - 1].path p) = true ∨ (l.take i).any (fun x => under x.path p) = true then some 4 else if wholeB ⟨p, z, ks⟩ then none else some 1) = entryC l i ⟨p, z, ks⟩ := by
          have e2 : l[i - 1]? = some l[i - 1] := List.getElem?_eq_getElem h1
          simp only [entryC, hpo, e2, if_true, h0, decide_true, Bool.true_and, Bool.or_eq_true]
        rw [ha, hwb] at e1
        generalize hy : l[i - 1] = y at *
        cases hlt : strLt y.path p <;> rw [hlt] at e1
        all_goals
          refine dreg [(0, [], []), (1, [0], []), (2, [0, 1], []), (3, [0, 1, 2], [23, 24, 28, 29]), (4, [0, 1, 2], [22, 28, 29]), (5, [0, 1, 2, 4], [22, 28, 29]), (6, [0, 1, 2, 3, 4, 5], [28, 29]), (7, [0, 1, 2, 3, 4, 5, 6], [28, 29]), (8, [0, 1, 2, 3, 4, 5, 6, 7], [28, 29]), (9, [0, 1, 2], [22, 23, 24, 25, 26, 27]), (10, [0, 1, 2, 9], [22, 23, 24, 25, 26, 27]), (11, [0, 1, 2, 3, 4, 5, 6, 7, 8, 9, 10], []), (12, [0, 1, 2, 3, 4, 5, 6, 7, 8, 9, 10, 11], []), (13, [0, 1, 2, 3, 4, 5, 6, 7, 8, 9, 10, 11, 12], [])] mixed (by kernel_rfl) ?_
          repeat' first | refine wr (by omega) ?_ | refine ln ?_ | refine stp lay_ok rfl ?_ | refine fin ?_ | refine n_thn ?_ | refine n_blk ?_ | refine e_thn ?_ | refine e_hit ?_ | refine e_miss rfl ?_ | refine r_thn ?_ | refine r_blk ?_ | refine e_rr ?_ | refine r_rr ?_ | refine e_cr ?_ | refine r_cr ?_ | refine .seq ?_ | refine reg ?_ | refine .block ?_ | refine .skip ?_ | refine .ret ?_ | refine .exit ?_ | refine cndT rfl ?_ | refine cndF rfl ?_ | refine c_dec rfl (fun hc => ?_) (fun hc => ?_) | refine c_ndec rfl (fun hc => ?_) (fun hc => ?_) | refine cnd rfl (fun hc => ?_) (fun hc => ?_) | ((first | refine o_none rfl ?_ | refine o_none_ ?_ | refine o_yes rfl rfl rfl ?_ | refine o_yes_ rfl rfl ?_); first | refine st_index (rowE y) lay_ok rfl rfl rfl rfl (by omega) hx ?_ | refine st_subL 0 i lay_ok rfl rfl rfl rfl ⟨_, _, rfl, rfl⟩ (Nat.zero_le _) ht ?_ | refine st_pure (hu) b30 rfl rfl rfl rfl ?_ | refine st_pure (hw) b31 rfl rfl rfl rfl ?_) | refine gd rfl rfl rfl (fun hg => ?_) (fun hg => ?_) | refine gn rfl rfl rfl (fun hg => ?_) (fun hg => ?_) | refine dwr (by omega) ?_ | refine dwl ?_ | refine dws lay_ok rfl rfl rfl rfl rfl rfl rfl ?_ | refine dwu lay_ok rfl rfl rfl rfl rfl rfl rfl rfl rfl ?_ | refine dw_end ?_ | refine dw_skip rfl rfl rfl ?_ | refine dwn lay_ok rfl rfl rfl rfl rfl ?_ | refine dwb rfl rfl rfl rfl rfl (by (first | refine st_index (rowE y) lay_ok rfl rfl rfl rfl (by omega) hx ?_ | refine st_subL 0 i lay_ok rfl rfl rfl rfl ⟨_, _, rfl, rfl⟩ (Nat.zero_le _) ht ?_ | refine st_pure (hu) b30 rfl rfl rfl rfl ?_ | refine st_pure (hw) b31 rfl rfl rfl rfl ?_); exact fin rfl) rfl rfl ?_ | refine dwg rfl rfl rfl rfl rfl (by (first | refine st_index (rowE y) lay_ok rfl rfl rfl rfl (by omega) hx ?_ | refine st_subL 0 i lay_ok rfl rfl rfl rfl ⟨_, _, rfl, rfl⟩ (Nat.zero_le _) ht ?_ | refine st_pure (hu) b30 rfl rfl rfl rfl ?_ | refine st_pure (hw) b31 rfl rfl rfl rfl ?_); exact fin rfl) rfl rfl rfl rfl rfl ?_ | refine dw_dec rfl rfl rfl (fun hg => ?_) (fun hg => ?_) | refine dw_ndec rfl rfl rfl (fun hg => ?_) (fun hg => ?_)
          all_goals first | omega | (exfalso; rw [hlt] at *; contradiction) | (refine f_r [] rfl trivial rfl ⟨?_, rfl⟩; rw [← e1]; rfl)
end Go.Proofs.YtmekcbbieacioaaDoorFn
namespace Go.Proofs.YtmekcbbieacioaaDoorFn
open Go.Proofs.YtmekcbbieacioaaDoorAl Go.Proofs.Tryd
attribute [local irreducible] IntKind.wrap CodeOk OpsL OpG ACalls thn inBlk rndR cutR WkR Wk fnR DW ExtOk partsOf
def badFrom (l : List EV) : Nat → Nat → Option (Nat × Int)
  | 0, _ => none
  | f + 1, i => match l[i]? with
    | none => none
    | some e => match entryC l i e with
      | some n => some (i, n)
      | none => badFrom l f (i + 1)
theorem badFrom_step (l : List EV) (k : Nat) (h : k < l.length) : badFrom l (l.length - k) k = match entryC l k l[k] with
    | some n => some (k, n)
    | none => badFrom l (l.length - (k + 1)) (k + 1) := by
  have e : l.length - k = l.length - (k + 1) + 1 := by omega
  rw [e]
  simp only [badFrom, List.getElem?_eq_getElem h]
abbrev spotE (i : Nat) (n : Int) : AV := .st (.iface 44 (.sptr [.int .i64 i, .iface 41 (.int .i64 n)]))
/-- Whether entries are a tree. -/
def treeC (l : List EV) : AV := if 32 < l.length then errE 7 else match badFrom l l.length 0 with
  | none => nilE
  | some (i, n) => spotE i n
theorem treeCheck_ok (l : List EV) (hl : l.length ≤ 4000000000) (hp : ∀ e ∈ l, e.path.size ≤ 4000000000 - 1) (hk : ∀ e ∈ l, e.keys.length ≤ 4000000000) :
    ACalls prog 8 0 [.st (.sl 3 (l.map rowE))] [] fun r h => r = treeC l ∧ h = [] := by
  refine fnC lay_ok func8 rfl rfl rfl rfl rfl ?_
  have hm : (List.map rowE l).length = l.length := List.length_map _
  repeat' first | refine wr (by omega) ?_ | refine ln ?_ | refine stp lay_ok rfl ?_ | refine fin ?_ | refine n_thn ?_ | refine n_blk ?_ | refine e_thn ?_ | refine e_hit ?_ | refine e_miss rfl ?_ | refine r_thn ?_ | refine r_blk ?_ | refine e_rr ?_ | refine r_rr ?_ | refine e_cr ?_ | refine r_cr ?_ | refine .seq ?_ | refine reg ?_ | refine .block ?_ | refine .skip ?_ | refine .ret ?_ | refine .exit ?_ | refine cndT rfl ?_ | refine cndF rfl ?_ | refine c_dec rfl (fun hc => ?_) (fun hc => ?_) | refine c_ndec rfl (fun hc => ?_) (fun hc => ?_) | refine cnd rfl (fun hc => ?_) (fun hc => ?_) | refine gd rfl rfl rfl (fun hg => ?_) (fun hg => ?_) | refine gn rfl rfl rfl (fun hg => ?_) (fun hg => ?_)
  · refine f_r [] rfl trivial rfl ⟨?_, rfl⟩
    have : 32 < l.length := by omega
    simp only [treeC, this, if_true]; rfl
  · have h32 : ¬ 32 < l.length := by omega
    refine lpR (fun k => k ≤ l.length ∧ badFrom l l.length 0 = badFrom l (l.length - k) k) (fun k => l.length - k) (fun k => [(11, I k)]) (fun k => []) (0) [0, 10] [] [] rfl rfl rfl (.of [] (by (repeat' first | exact trivial | refine And.intro ?_ ?_ | rfl); first | done | fail) (by (repeat' first | exact trivial | refine And.intro ?_ ?_ | rfl); first | done | fail) rfl) ?_ ?_
    · exact ⟨Nat.zero_le _, rfl⟩
    rintro k ⟨h1, h2⟩
    refine nrm rfl rfl ?_
    repeat' first | refine wr (by omega) ?_ | refine ln ?_ | refine stp lay_ok rfl ?_ | refine fin ?_ | refine n_thn ?_ | refine n_blk ?_ | refine e_thn ?_ | refine e_hit ?_ | refine e_miss rfl ?_ | refine r_thn ?_ | refine r_blk ?_ | refine e_rr ?_ | refine r_rr ?_ | refine e_cr ?_ | refine r_cr ?_ | refine .seq ?_ | refine reg ?_ | refine .block ?_ | refine .skip ?_ | refine .ret ?_ | refine .exit ?_ | refine cndT rfl ?_ | refine cndF rfl ?_ | refine c_dec rfl (fun hc => ?_) (fun hc => ?_) | refine c_ndec rfl (fun hc => ?_) (fun hc => ?_) | refine cnd rfl (fun hc => ?_) (fun hc => ?_) | refine gd rfl rfl rfl (fun hg => ?_) (fun hg => ?_) | refine gn rfl rfl rfl (fun hg => ?_) (fun hg => ?_)
    · have hk' : k < l.length := by omega
      have he := entry_ok l k hk' hl hp hk
      have hb := badFrom_step l k hk'
      cases hx : entryC l k l[k] with
      | none =>
        rw [hx] at he hb
        repeat' first | refine wr (by omega) ?_ | refine ln ?_ | refine stp lay_ok rfl ?_ | refine fin ?_ | refine n_thn ?_ | refine n_blk ?_ | refine e_thn ?_ | refine e_hit ?_ | refine e_miss rfl ?_ | refine r_thn ?_ | refine r_blk ?_ | refine e_rr ?_ | refine r_rr ?_ | refine e_cr ?_ | refine r_cr ?_ | refine .seq ?_ | refine reg ?_ | refine .block ?_ | refine .skip ?_ | refine .ret ?_ | refine .exit ?_ | refine cndT rfl ?_ | refine cndF rfl ?_ | refine c_dec rfl (fun hc => ?_) (fun hc => ?_) | refine c_ndec rfl (fun hc => ?_) (fun hc => ?_) | refine cnd rfl (fun hc => ?_) (fun hc => ?_) | ((first | refine o_none rfl ?_ | refine o_none_ ?_ | refine o_yes rfl rfl rfl ?_ | refine o_yes_ rfl rfl ?_); first | refine st_pure (he) b17 rfl rfl rfl rfl ?_) | refine gd rfl rfl rfl (fun hg => ?_) (fun hg => ?_) | refine gn rfl rfl rfl (fun hg => ?_) (fun hg => ?_)
        refine n_rr (k + 1) ?_ (.of [] (by (repeat' first | exact trivial | refine And.intro ?_ ?_ | rfl); first | done | fail) (by (repeat' first | exact trivial | refine And.intro ?_ ?_ | rfl); first | done | fail) rfl) ?_
        · omega
        · exact ⟨hk', h2.trans hb⟩
      | some n =>
        rw [hx] at he hb
        repeat' first | refine o_frb 0 [.int .i64 k, .iface 41 (.int .i64 n)] rfl rfl rfl (by (repeat' first | exact trivial | refine And.intro ?_ ?_ | rfl); first | done | fail) (by (repeat' first | exact trivial | refine And.intro ?_ ?_ | rfl); first | done | fail) rfl rfl ?_ | refine wr (by omega) ?_ | refine ln ?_ | refine stp lay_ok rfl ?_ | refine fin ?_ | refine n_thn ?_ | refine n_blk ?_ | refine e_thn ?_ | refine e_hit ?_ | refine e_miss rfl ?_ | refine r_thn ?_ | refine r_blk ?_ | refine e_rr ?_ | refine r_rr ?_ | refine e_cr ?_ | refine r_cr ?_ | refine .seq ?_ | refine reg ?_ | refine .block ?_ | refine .skip ?_ | refine .ret ?_ | refine .exit ?_ | refine cndT rfl ?_ | refine cndF rfl ?_ | refine c_dec rfl (fun hc => ?_) (fun hc => ?_) | refine c_ndec rfl (fun hc => ?_) (fun hc => ?_) | refine cnd rfl (fun hc => ?_) (fun hc => ?_) | ((first | refine o_none rfl ?_ | refine o_none_ ?_ | refine o_yes rfl rfl rfl ?_ | refine o_yes_ rfl rfl ?_); first | refine st_pure (he) b17 rfl rfl rfl rfl ?_) | refine gd rfl rfl rfl (fun hg => ?_) (fun hg => ?_) | refine gn rfl rfl rfl (fun hg => ?_) (fun hg => ?_)
        refine f_r [] rfl trivial rfl ⟨?_, rfl⟩
        simp only [treeC, h32, if_false, h2, hb]; rfl
    · refine f_r [] rfl trivial rfl ⟨?_, rfl⟩
      have : k = l.length := by omega
      subst this
      simp only [treeC, h32, if_false, h2, Nat.sub_self]; rfl
end Go.Proofs.YtmekcbbieacioaaDoorFn
namespace Go.Proofs.YtmekcbbieacioaaDoorFn
open Go.Proofs.YtmekcbbieacioaaDoorAl Go.Proofs.Tryd
attribute [local irreducible] IntKind.wrap CodeOk OpsL OpG ACalls thn inBlk rndR cutR WkR Wk fnR DW ExtOk partsOf
theorem b23 : HasBody prog 23 := ⟨f23, func23, Option.some_ne_none _, by decide⟩
theorem b11 : HasBody prog 11 := ⟨f11, func11, Option.some_ne_none _, by decide⟩
theorem b22 : HasBody prog 22 := ⟨f22, func22, Option.some_ne_none _, by decide⟩
theorem b39 : HasBody prog 39 := ⟨f39, func39, Option.some_ne_none _, by decide⟩
theorem b21 : HasBody prog 21 := ⟨f21, func21, Option.some_ne_none _, by decide⟩
theorem b6 : HasBody prog 6 := ⟨f6, func6, Option.some_ne_none _, by decide⟩
/-! ### files -/
structure FV where
  path : ByteArray
  bytes : ByteArray
def rowF (f : FV) : List SV := [.str f.path, .str f.bytes]
def clashB (a b : ByteArray) : Bool := decide (a = b) || under a b || under b a
theorem clash_ok (a b : ByteArray) (ha : a.size ≤ 4000000000 - 1) (hb : b.size ≤ 4000000000 - 1) : ACalls prog 23 0 [Sx a, Sx b] [] fun r h => r = B (clashB a b) ∧ h = [] := by
  have h1 := under_ok a b ha hb
  have h2 := under_ok b a hb ha
  unfold clashB
  refine fnC lay_ok func23 rfl rfl rfl rfl rfl ?_
  by_cases he : a = b
  · subst he
    repeat' first | refine wr (by omega) ?_ | refine ln ?_ | refine stp lay_ok rfl ?_ | refine fin ?_ | refine n_thn ?_ | refine n_blk ?_ | refine e_thn ?_ | refine e_hit ?_ | refine e_miss rfl ?_ | refine r_thn ?_ | refine r_blk ?_ | refine e_rr ?_ | refine r_rr ?_ | refine e_cr ?_ | refine r_cr ?_ | refine .seq ?_ | refine reg ?_ | refine .block ?_ | refine .skip ?_ | refine .ret ?_ | refine .exit ?_ | refine cndT rfl ?_ | refine cndF rfl ?_ | refine c_dec rfl (fun hc => ?_) (fun hc => ?_) | refine c_ndec rfl (fun hc => ?_) (fun hc => ?_) | refine cnd rfl (fun hc => ?_) (fun hc => ?_) | ((first | refine o_none rfl ?_ | refine o_none_ ?_ | refine o_yes rfl rfl rfl ?_ | refine o_yes_ rfl rfl ?_); first | refine st_pure (h1) b29 rfl rfl rfl rfl ?_ | refine st_pure (h2) b29 rfl rfl rfl rfl ?_) | refine gd rfl rfl rfl (fun hg => ?_) (fun hg => ?_) | refine gn rfl rfl rfl (fun hg => ?_) (fun hg => ?_)
    all_goals first
      | (exfalso; simp_all; done)
      | skip
    refine f_r [] rfl trivial rfl ⟨?_, rfl⟩
    simp [retOf]
  · cases hu1 : under a b <;> rw [hu1] at h1
    all_goals
      repeat' first | refine wr (by omega) ?_ | refine ln ?_ | refine stp lay_ok rfl ?_ | refine fin ?_ | refine n_thn ?_ | refine n_blk ?_ | refine e_thn ?_ | refine e_hit ?_ | refine e_miss rfl ?_ | refine r_thn ?_ | refine r_blk ?_ | refine e_rr ?_ | refine r_rr ?_ | refine e_cr ?_ | refine r_cr ?_ | refine .seq ?_ | refine reg ?_ | refine .block ?_ | refine .skip ?_ | refine .ret ?_ | refine .exit ?_ | refine cndT rfl ?_ | refine cndF rfl ?_ | refine c_dec rfl (fun hc => ?_) (fun hc => ?_) | refine c_ndec rfl (fun hc => ?_) (fun hc => ?_) | refine cnd rfl (fun hc => ?_) (fun hc => ?_) | ((first | refine o_none rfl ?_ | refine o_none_ ?_ | refine o_yes rfl rfl rfl ?_ | refine o_yes_ rfl rfl ?_); first | refine st_pure (h1) b29 rfl rfl rfl rfl ?_ | refine st_pure (h2) b29 rfl rfl rfl rfl ?_) | refine gd rfl rfl rfl (fun hg => ?_) (fun hg => ?_) | refine gn rfl rfl rfl (fun hg => ?_) (fun hg => ?_)
      all_goals first
        | (exfalso; simp_all; done)
        | skip
      refine f_r [] rfl trivial rfl ⟨?_, rfl⟩
      simp [retOf, he]
theorem file1_ok (e x : FV) (he : e.path.size ≤ 4000000000 - 1) (hx : x.path.size ≤ 4000000000 - 1) : ACalls prog 22 0 [.st (.agg (rowF x)), .st (.sptr (rowF e))] [] fun r h => r = B (clashB x.path e.path) ∧ h = [] := by
  obtain ⟨p, z⟩ := e
  obtain ⟨p', z'⟩ := x
  have h1 := clash_ok p' p hx he
  refine fnC lay_ok func22 rfl rfl rfl rfl rfl ?_
  repeat' first | refine wr (by omega) ?_ | refine ln ?_ | refine stp lay_ok rfl ?_ | refine fin ?_ | refine n_thn ?_ | refine n_blk ?_ | refine e_thn ?_ | refine e_hit ?_ | refine e_miss rfl ?_ | refine r_thn ?_ | refine r_blk ?_ | refine e_rr ?_ | refine r_rr ?_ | refine e_cr ?_ | refine r_cr ?_ | refine .seq ?_ | refine reg ?_ | refine .block ?_ | refine .skip ?_ | refine .ret ?_ | refine .exit ?_ | refine cndT rfl ?_ | refine cndF rfl ?_ | refine c_dec rfl (fun hc => ?_) (fun hc => ?_) | refine c_ndec rfl (fun hc => ?_) (fun hc => ?_) | refine cnd rfl (fun hc => ?_) (fun hc => ?_) | ((first | refine o_none rfl ?_ | refine o_none_ ?_ | refine o_yes rfl rfl rfl ?_ | refine o_yes_ rfl rfl ?_); first | refine st_pure (h1) b23 rfl rfl rfl rfl ?_) | refine gd rfl rfl rfl (fun hg => ?_) (fun hg => ?_) | refine gn rfl rfl rfl (fun hg => ?_) (fun hg => ?_)
  refine f_r [] rfl trivial rfl ⟨?_, rfl⟩; rfl
theorem idxF_ok (f : Nat) (bf : HasBody prog f) (cs : List SV) (p : FV → Bool) (l : List FV) (hl : l.length ≤ 4000000000) (hf : ∀ e ∈ l, ACalls prog f 0 [.st (.agg (rowF e)), .st (.sptr cs)] [] fun r h => r = B (p e) ∧ h = []) :
    ACalls prog 39 0 [.st (.sl 2 (l.map rowF)), .fn (.func f) [] [.st (.sptr cs)]] [] fun r h => r = I (fidx p l) ∧ h = [] := by
  refine fnC lay_ok func39 rfl rfl rfl rfl rfl ?_
  repeat' first | refine wr (by omega) ?_ | refine ln ?_ | refine stp lay_ok rfl ?_ | refine fin ?_ | refine n_thn ?_ | refine n_blk ?_ | refine e_thn ?_ | refine e_hit ?_ | refine e_miss rfl ?_ | refine r_thn ?_ | refine r_blk ?_ | refine e_rr ?_ | refine r_rr ?_ | refine e_cr ?_ | refine r_cr ?_ | refine .seq ?_ | refine reg ?_ | refine .block ?_ | refine .skip ?_ | refine .ret ?_ | refine .exit ?_ | refine cndT rfl ?_ | refine cndF rfl ?_ | refine c_dec rfl (fun hc => ?_) (fun hc => ?_) | refine c_ndec rfl (fun hc => ?_) (fun hc => ?_) | refine cnd rfl (fun hc => ?_) (fun hc => ?_) | refine gd rfl rfl rfl (fun hg => ?_) (fun hg => ?_) | refine gn rfl rfl rfl (fun hg => ?_) (fun hg => ?_)
  refine lpR (fun k => k ≤ l.length ∧ ∀ j (h : j < k), ∀ h2 : j < l.length, p l[j] = false) (fun k => l.length - k) (fun k => [(8, I k)]) (fun k => []) (0) [0, 1, 7] [] [] rfl rfl rfl (.of [] (by (repeat' first | exact trivial | refine And.intro ?_ ?_ | rfl); first | done | fail) (by (repeat' first | exact trivial | refine And.intro ?_ ?_ | rfl); first | done | fail) rfl) ?_ ?_
  · exact ⟨Nat.zero_le _, fun j h => by omega⟩
  rintro k ⟨hk, hall⟩
  refine nrm rfl rfl ?_
  repeat' first | refine wr (by omega) ?_ | refine ln ?_ | refine stp lay_ok rfl ?_ | refine fin ?_ | refine n_thn ?_ | refine n_blk ?_ | refine e_thn ?_ | refine e_hit ?_ | refine e_miss rfl ?_ | refine r_thn ?_ | refine r_blk ?_ | refine e_rr ?_ | refine r_rr ?_ | refine e_cr ?_ | refine r_cr ?_ | refine .seq ?_ | refine reg ?_ | refine .block ?_ | refine .skip ?_ | refine .ret ?_ | refine .exit ?_ | refine cndT rfl ?_ | refine cndF rfl ?_ | refine c_dec rfl (fun hc => ?_) (fun hc => ?_) | refine c_ndec rfl (fun hc => ?_) (fun hc => ?_) | refine cnd rfl (fun hc => ?_) (fun hc => ?_) | refine gd rfl rfl rfl (fun hg => ?_) (fun hg => ?_) | refine gn rfl rfl rfl (fun hg => ?_) (fun hg => ?_)
  · have hk' : k < l.length := by omega
    have hat : (l.map rowF)[((k : Nat) : Int).toNat]? = some (rowF l[k]) := by simp [hk']
    have h1 := hf l[k] (List.getElem_mem hk')
    cases hp : p l[k] with
    | true =>
      rw [hp] at h1
      repeat' first | refine wr (by omega) ?_ | refine ln ?_ | refine stp lay_ok rfl ?_ | refine fin ?_ | refine n_thn ?_ | refine n_blk ?_ | refine e_thn ?_ | refine e_hit ?_ | refine e_miss rfl ?_ | refine r_thn ?_ | refine r_blk ?_ | refine e_rr ?_ | refine r_rr ?_ | refine e_cr ?_ | refine r_cr ?_ | refine .seq ?_ | refine reg ?_ | refine .block ?_ | refine .skip ?_ | refine .ret ?_ | refine .exit ?_ | refine cndT rfl ?_ | refine cndF rfl ?_ | refine c_dec rfl (fun hc => ?_) (fun hc => ?_) | refine c_ndec rfl (fun hc => ?_) (fun hc => ?_) | refine cnd rfl (fun hc => ?_) (fun hc => ?_) | ((first | refine o_none rfl ?_ | refine o_none_ ?_ | refine o_yes rfl rfl rfl ?_ | refine o_yes_ rfl rfl ?_); first | refine st_index (rowF l[k]) lay_ok rfl rfl rfl rfl (by omega) hat ?_ | refine st_pure (h1) bf rfl rfl rfl rfl ?_) | refine gd rfl rfl rfl (fun hg => ?_) (fun hg => ?_) | refine gn rfl rfl rfl (fun hg => ?_) (fun hg => ?_)
      refine f_r [] rfl trivial rfl ⟨?_, rfl⟩
      rw [fidx_step _ l k hk' (fun j h => hall j h _) hp]; rfl
    | false =>
      rw [hp] at h1
      repeat' first | refine wr (by omega) ?_ | refine ln ?_ | refine stp lay_ok rfl ?_ | refine fin ?_ | refine n_thn ?_ | refine n_blk ?_ | refine e_thn ?_ | refine e_hit ?_ | refine e_miss rfl ?_ | refine r_thn ?_ | refine r_blk ?_ | refine e_rr ?_ | refine r_rr ?_ | refine e_cr ?_ | refine r_cr ?_ | refine .seq ?_ | refine reg ?_ | refine .block ?_ | refine .skip ?_ | refine .ret ?_ | refine .exit ?_ | refine cndT rfl ?_ | refine cndF rfl ?_ | refine c_dec rfl (fun hc => ?_) (fun hc => ?_) | refine c_ndec rfl (fun hc => ?_) (fun hc => ?_) | refine cnd rfl (fun hc => ?_) (fun hc => ?_) | ((first | refine o_none rfl ?_ | refine o_none_ ?_ | refine o_yes rfl rfl rfl ?_ | refine o_yes_ rfl rfl ?_); first | refine st_index (rowF l[k]) lay_ok rfl rfl rfl rfl (by omega) hat ?_ | refine st_pure (h1) bf rfl rfl rfl rfl ?_) | refine gd rfl rfl rfl (fun hg => ?_) (fun hg => ?_) | refine gn rfl rfl rfl (fun hg => ?_) (fun hg => ?_)
      refine n_rr (k + 1) ?_ (.of [] (by (repeat' first | exact trivial | refine And.intro ?_ ?_ | rfl); first | done | fail) (by (repeat' first | exact trivial | refine And.intro ?_ ?_ | rfl); first | done | fail) rfl) ?_
      · omega
      · refine ⟨hk', fun j h h2 => ?_⟩
        by_cases hj : j = k
        · subst hj; exact hp
        · exact hall j (by omega) h2
  · refine f_r [] rfl trivial rfl ⟨?_, rfl⟩
    rw [fidx_none _ l (fun j h => hall j (by omega) h)]; rfl
theorem conF_ok (f : Nat) (bf : HasBody prog f) (cs : List SV) (p : FV → Bool) (l : List FV) (hl : l.length ≤ 4000000000) (hf : ∀ e ∈ l, ACalls prog f 0 [.st (.agg (rowF e)), .st (.sptr cs)] [] fun r h => r = B (p e) ∧ h = []) :
    ACalls prog 21 0 [.st (.sl 2 (l.map rowF)), .fn (.func f) [] [.st (.sptr cs)]] [] fun r h => r = B (l.any p) ∧ h = [] := by
  refine fnC lay_ok func21 rfl rfl rfl rfl rfl ?_
  have h1 := idxF_ok f bf cs p l hl hf
  repeat' first | refine wr (by omega) ?_ | refine ln ?_ | refine stp lay_ok rfl ?_ | refine fin ?_ | refine n_thn ?_ | refine n_blk ?_ | refine e_thn ?_ | refine e_hit ?_ | refine e_miss rfl ?_ | refine r_thn ?_ | refine r_blk ?_ | refine e_rr ?_ | refine r_rr ?_ | refine e_cr ?_ | refine r_cr ?_ | refine .seq ?_ | refine reg ?_ | refine .block ?_ | refine .skip ?_ | refine .ret ?_ | refine .exit ?_ | refine cndT rfl ?_ | refine cndF rfl ?_ | refine c_dec rfl (fun hc => ?_) (fun hc => ?_) | refine c_ndec rfl (fun hc => ?_) (fun hc => ?_) | refine cnd rfl (fun hc => ?_) (fun hc => ?_) | ((first | refine o_none rfl ?_ | refine o_none_ ?_ | refine o_yes rfl rfl rfl ?_ | refine o_yes_ rfl rfl ?_); first | refine st_pure (h1) b39 rfl rfl rfl rfl ?_) | refine gd rfl rfl rfl (fun hg => ?_) (fun hg => ?_) | refine gn rfl rfl rfl (fun hg => ?_) (fun hg => ?_)
  refine f_r [] rfl trivial rfl ⟨?_, rfl⟩
  rw [← fidx_any]; rfl
theorem at_rowF {l : List FV} {k : Nat} (h : k < l.length) : (l.map rowF)[((k : Nat) : Int).toNat]? = some (rowF l[k]) := by simp [h]
/-- What is amiss with the file at i. -/
def fileC (l : List FV) (i : Nat) (f : FV) : Option Int :=
  if pathOk f.path then if 1024 < f.bytes.size then some 7 else if (l.take i).any (fun x => clashB x.path f.path) then some 4 else none
  else some 2
set_option maxHeartbeats 2000000 in
theorem file_ok (l : List FV) (i : Nat) (hi : i < l.length) (hl : l.length ≤ 4000000000) (hp : ∀ e ∈ l, e.path.size ≤ 4000000000 - 1) :
    ACalls prog 11 0 [.st (.sl 2 (l.map rowF)), I i] [] fun r h => r = errO (fileC l i l[i]) ∧ h = [] := by
  have hat := at_rowF hi
  have hc1 := pathCheck_ok l[i].path (hp _ (List.getElem_mem hi))
  have hu := conF_ok 22 b22 (rowF l[i]) (fun x => clashB x.path l[i].path) (l.take i) (by simp; omega) (fun x hx => file1_ok l[i] x (hp _ (List.getElem_mem hi)) (hp _ (List.mem_of_mem_take hx)))
  have hm : (List.map rowF l).length = l.length := List.length_map _
  have ht : i ≤ (l.map rowF).length := by omega
  rw [List.map_take] at hu
  generalize he : l[i] = e at *
  obtain ⟨p, z⟩ := e
  refine fnC lay_ok func11 rfl rfl rfl rfl rfl ?_
  cases hpo : pathOk p with
  | false =>
    simp only [hpo, if_true, if_false, Bool.false_eq_true] at hc1
    repeat' first | refine o_frb 0 [.str p, .str z] rfl rfl rfl (by (repeat' first | exact trivial | refine And.intro ?_ ?_ | rfl); first | done | fail) (by (repeat' first | exact trivial | refine And.intro ?_ ?_ | rfl); first | done | fail) rfl rfl ?_ | refine wr (by omega) ?_ | refine ln ?_ | refine stp lay_ok rfl ?_ | refine fin ?_ | refine n_thn ?_ | refine n_blk ?_ | refine e_thn ?_ | refine e_hit ?_ | refine e_miss rfl ?_ | refine r_thn ?_ | refine r_blk ?_ | refine e_rr ?_ | refine r_rr ?_ | refine e_cr ?_ | refine r_cr ?_ | refine .seq ?_ | refine reg ?_ | refine .block ?_ | refine .skip ?_ | refine .ret ?_ | refine .exit ?_ | refine cndT rfl ?_ | refine cndF rfl ?_ | refine c_dec rfl (fun hc => ?_) (fun hc => ?_) | refine c_ndec rfl (fun hc => ?_) (fun hc => ?_) | refine cnd rfl (fun hc => ?_) (fun hc => ?_) | ((first | refine o_none rfl ?_ | refine o_none_ ?_ | refine o_yes rfl rfl rfl ?_ | refine o_yes_ rfl rfl ?_); first | refine st_index (rowF ⟨p, z⟩) lay_ok rfl rfl rfl rfl (by omega) hat ?_ | refine st_pure (hc1) b20 rfl rfl rfl rfl ?_) | refine gd rfl rfl rfl (fun hg => ?_) (fun hg => ?_) | refine gn rfl rfl rfl (fun hg => ?_) (fun hg => ?_)
    refine f_r [] rfl trivial rfl ⟨?_, rfl⟩
    simp only [fileC, hpo]; rfl
  | true =>
    simp only [hpo, if_true, if_false, Bool.false_eq_true] at hc1
    by_cases hz : 1024 < z.size
    · repeat' first | refine o_frb 0 [.str p, .str z] rfl rfl rfl (by (repeat' first | exact trivial | refine And.intro ?_ ?_ | rfl); first | done | fail) (by (repeat' first | exact trivial | refine And.intro ?_ ?_ | rfl); first | done | fail) rfl rfl ?_ | refine wr (by omega) ?_ | refine ln ?_ | refine stp lay_ok rfl ?_ | refine fin ?_ | refine n_thn ?_ | refine n_blk ?_ | refine e_thn ?_ | refine e_hit ?_ | refine e_miss rfl ?_ | refine r_thn ?_ | refine r_blk ?_ | refine e_rr ?_ | refine r_rr ?_ | refine e_cr ?_ | refine r_cr ?_ | refine .seq ?_ | refine reg ?_ | refine .block ?_ | refine .skip ?_ | refine .ret ?_ | refine .exit ?_ | refine cndT rfl ?_ | refine cndF rfl ?_ | refine c_dec rfl (fun hc => ?_) (fun hc => ?_) | refine c_ndec rfl (fun hc => ?_) (fun hc => ?_) | refine cnd rfl (fun hc => ?_) (fun hc => ?_) | ((first | refine o_none rfl ?_ | refine o_none_ ?_ | refine o_yes rfl rfl rfl ?_ | refine o_yes_ rfl rfl ?_); first | refine st_index (rowF ⟨p, z⟩) lay_ok rfl rfl rfl rfl (by omega) hat ?_ | refine st_pure (hc1) b20 rfl rfl rfl rfl ?_) | refine gd rfl rfl rfl (fun hg => ?_) (fun hg => ?_) | refine gn rfl rfl rfl (fun hg => ?_) (fun hg => ?_)
      all_goals first
        | (exfalso; omega)
        | skip
      refine f_r [] rfl trivial rfl ⟨?_, rfl⟩
      simp only [fileC, hpo, if_true, if_pos hz]; rfl
    · cases ha : (l.take i).any (fun x => clashB x.path p) <;> simp only [ha] at hu
      all_goals
        repeat' first | refine o_frb 0 [.str p, .str z] rfl rfl rfl (by (repeat' first | exact trivial | refine And.intro ?_ ?_ | rfl); first | done | fail) (by (repeat' first | exact trivial | refine And.intro ?_ ?_ | rfl); first | done | fail) rfl rfl ?_ | refine wr (by omega) ?_ | refine ln ?_ | refine stp lay_ok rfl ?_ | refine fin ?_ | refine n_thn ?_ | refine n_blk ?_ | refine e_thn ?_ | refine e_hit ?_ | refine e_miss rfl ?_ | refine r_thn ?_ | refine r_blk ?_ | refine e_rr ?_ | refine r_rr ?_ | refine e_cr ?_ | refine r_cr ?_ | refine .seq ?_ | refine reg ?_ | refine .block ?_ | refine .skip ?_ | refine .ret ?_ | refine .exit ?_ | refine cndT rfl ?_ | refine cndF rfl ?_ | refine c_dec rfl (fun hc => ?_) (fun hc => ?_) | refine c_ndec rfl (fun hc => ?_) (fun hc => ?_) | refine cnd rfl (fun hc => ?_) (fun hc => ?_) | ((first | refine o_none rfl ?_ | refine o_none_ ?_ | refine o_yes rfl rfl rfl ?_ | refine o_yes_ rfl rfl ?_); first | refine st_index (rowF ⟨p, z⟩) lay_ok rfl rfl rfl rfl (by omega) hat ?_ | refine st_pure (hc1) b20 rfl rfl rfl rfl ?_ | refine st_subL 0 i lay_ok rfl rfl rfl rfl ⟨_, _, rfl, rfl⟩ (Nat.zero_le _) ht ?_ | refine st_pure (hu) b21 rfl rfl rfl rfl ?_) | refine gd rfl rfl rfl (fun hg => ?_) (fun hg => ?_) | refine gn rfl rfl rfl (fun hg => ?_) (fun hg => ?_)
        all_goals first
          | (exfalso; omega)
          | skip
        refine f_r [] rfl trivial rfl ⟨?_, rfl⟩
        simp only [fileC, hpo, if_true, if_neg hz, ha]; rfl
end Go.Proofs.YtmekcbbieacioaaDoorFn
