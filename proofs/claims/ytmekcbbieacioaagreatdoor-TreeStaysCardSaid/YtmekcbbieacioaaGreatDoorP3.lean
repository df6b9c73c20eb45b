/- Texts that the law's proof uses: part 3. -/
import Derived.Test.YtmekcbbieacioaaGreatDoorP2
import Derived.Sort.Walk0
import Derived.WalkKit
import Derived.LaidEql
import Derived.Stop.Asserts
import Derived.RowKitTokens
import Derived.Stop.IfaceNil
import Derived.Test.YtmekcbbieacioaaGreatDoorAlZp
set_option linter.all false
namespace Go.Proofs.YtmekcbbieacioaaGreatDoorFn
open Go.Proofs.YtmekcbbieacioaaGreatDoorAl Go.Proofs.Tryz
structure Hid (p : Prop) : Prop where
  out : p
attribute [local irreducible] IntKind.wrap CodeOk OpsL OpG ACalls thn inBlk rndR cutR WkR Wk fnR DW ExtOk partsOf
set_option maxHeartbeats 8000000 in
set_option maxRecDepth 4000 in
theorem pdqsort_ok (g : Nat) (bg : HasBody prog g) (cm : EV → EV → Int) (hcm : cmpH g cm) (hs : Sort.SWO (ltC cm)) (n : Nat) (hn : n ≤ 4000000000) : ∀ (m : Nat) (d0 : Array EV) (a0 b0 l0 : Nat), b0 - a0 < m → d0.size = n → a0 ≤ b0 → b0 ≤ n → b0 - a0 < 50 → l0 ≤ 64 →
    ACalls prog 58 1 [.lsl 0 3 0 n, I a0, I b0, I l0, fnG g] [(0, .arr 3 (rA d0))] fun r h => r = .tuple [] ∧ h = [(0, .arr 3 (rA (Sort.pdq (ltC cm) d0 a0 b0 l0 true true)))] := by
  intro m
  induction m with
  | zero => intro _ _ _ _ h; omega
  | succ m ih =>
  intro d0 a0 b0 l0 hm hn0 hab hb h50 hl0
  generalize hK : Sort.pdq (ltC cm) d0 a0 b0 l0 true true = K
  refine fnC lay_ok func58 rfl rfl rfl rfl rfl ?_
  repeat' first | refine wr (by omega) ?_ | refine ln ?_ | refine stp lay_ok rfl ?_ | refine fin ?_ | refine n_thn ?_ | refine n_blk ?_ | refine e_thn ?_ | refine e_hit ?_ | refine e_miss rfl ?_ | refine r_thn ?_ | refine r_blk ?_ | refine e_rr ?_ | refine r_rr ?_ | refine e_cr ?_ | refine r_cr ?_ | refine .seq ?_ | refine reg ?_ | refine .block ?_ | refine .skip ?_ | refine .ret ?_ | refine .exit ?_ | refine cndT rfl ?_ | refine cndF rfl ?_ | refine c_dec rfl (fun hc => ?_) (fun hc => ?_) | refine c_ndec rfl (fun hc => ?_) (fun hc => ?_) | refine cnd rfl (fun hc => ?_) (fun hc => ?_) | refine gd rfl rfl rfl (fun hg => ?_) (fun hg => ?_) | refine gn rfl rfl rfl (fun hg => ?_) (fun hg => ?_) | refine dwr (by omega) ?_ | refine dwl ?_ | refine dws lay_ok rfl rfl rfl rfl rfl rfl rfl ?_ | refine dwu lay_ok rfl rfl rfl rfl rfl rfl rfl rfl rfl ?_ | refine dw_end ?_ | refine dw_skip rfl rfl rfl ?_ | refine dwn lay_ok rfl rfl rfl rfl rfl ?_ | refine dw_dec rfl rfl rfl (fun hg => ?_) (fun hg => ?_) | refine dw_ndec rfl rfl rfl (fun hg => ?_) (fun hg => ?_)
  refine lpR (fun (a, b, lim, wb, wp, d, za, zb, zl) => d.size = n ∧ a ≤ b ∧ b ≤ n ∧ b - a ≤ b0 - a0 ∧ lim ≤ 64 ∧ K = Sort.pdq (ltC cm) d a b lim wb wp ∧ za = (a : Int) ∧ zb = (b : Int) ∧ zl = (lim : Int)) (fun (a, b, lim, wb, wp, d, za, zb, zl) => b - a) (fun (a, b, lim, wb, wp, d, za, zb, zl) => [(1, I za), (2, I zb), (3, I zl), (10, B wb), (11, B wp)]) (fun (a, b, lim, wb, wp, d, za, zb, zl) => [(0, .arr 3 (rA d))]) ((a0, b0, l0, true, true, d0, (a0 : Int), (b0 : Int), (l0 : Int))) [0, 4] [0] [] rfl rfl rfl (.of [] (by (repeat' first | exact trivial | refine And.intro ?_ ?_ | rfl); first | done | fail) (by (repeat' first | exact trivial | refine And.intro ?_ ?_ | rfl); first | done | fail) rfl) ?_ ?_
  · exact ⟨hn0, hab, hb, Nat.le_refl _, hl0, hK.symm, rfl, rfl, rfl⟩
  rintro ⟨a, b, lim, wb, wp, d, za, zb, zl⟩ ⟨g1, g2, g3, g4, g5, g6, rfl, rfl, rfl⟩
  refine nrm rfl rfl ?_
  clear hK
  have hqI := quoI (z := (b : Int) - (a : Int)) (m := b - a) (k := 8) (.inl (by omega)) (by decide) (by omega)
  rw [pdq_eq (ltC cm) d a b lim wb wp g2 (by omega) (by omega)] at g6
  by_cases hle : b - a ≤ 12
  · rw [if_pos hle] at g6
    subst g6
    have hi := insSort_ok g bg cm hcm d a b (by omega) g2 (by omega)
    rw [g1] at hi
    repeat' first | refine wr (by omega) ?_ | refine ln ?_ | refine stp lay_ok rfl ?_ | refine fin ?_ | refine n_thn ?_ | refine n_blk ?_ | refine e_thn ?_ | refine e_hit ?_ | refine e_miss rfl ?_ | refine r_thn ?_ | refine r_blk ?_ | refine e_rr ?_ | refine r_rr ?_ | refine e_cr ?_ | refine r_cr ?_ | refine .seq ?_ | refine reg ?_ | refine .block ?_ | refine .skip ?_ | refine .ret ?_ | refine .exit ?_ | refine cndT rfl ?_ | refine cndF rfl ?_ | refine c_dec rfl (fun hc => ?_) (fun hc => ?_) | refine c_ndec rfl (fun hc => ?_) (fun hc => ?_) | refine cnd rfl (fun hc => ?_) (fun hc => ?_) | ((first | refine o_none rfl ?_ | refine o_none_ ?_ | refine o_yes rfl rfl rfl ?_ | refine o_yes_ rfl rfl ?_); first | refine st_callF 0 (hi) b78 rfl rfl rfl rfl rfl rfl (by (repeat' first | exact trivial | refine And.intro ?_ ?_ | rfl); first | done | fail) rfl ?_) | refine gd rfl rfl rfl (fun hg => ?_) (fun hg => ?_) | refine gn rfl rfl rfl (fun hg => ?_) (fun hg => ?_) | refine dwr (by omega) ?_ | refine dwl ?_ | refine dws lay_ok rfl rfl rfl rfl rfl rfl rfl ?_ | refine dwu lay_ok rfl rfl rfl rfl rfl rfl rfl rfl rfl ?_ | refine dw_end ?_ | refine dw_skip rfl rfl rfl ?_ | refine dwn lay_ok rfl rfl rfl rfl rfl ?_ | refine dwb rfl rfl rfl rfl rfl (by (first | refine st_callF 0 (hi) b78 rfl rfl rfl rfl rfl rfl (by (repeat' first | exact trivial | refine And.intro ?_ ?_ | rfl); first | done | fail) rfl ?_); exact fin rfl) rfl rfl ?_ | refine dwg rfl rfl rfl rfl rfl (by (first | refine st_callF 0 (hi) b78 rfl rfl rfl rfl rfl rfl (by (repeat' first | exact trivial | refine And.intro ?_ ?_ | rfl); first | done | fail) rfl ?_); exact fin rfl) rfl rfl rfl rfl rfl ?_ | refine dw_dec rfl rfl rfl (fun hg => ?_) (fun hg => ?_) | refine dw_ndec rfl rfl rfl (fun hg => ?_) (fun hg => ?_)
    all_goals first
      | (exfalso; omega)
      | skip
    refine f_r [(0, .arr 3 (rA (Sort.insertionSort (ltC cm) d a b)))] rfl (by (repeat' first | exact trivial | refine And.intro ?_ ?_ | rfl); first | done | fail) rfl ⟨?_, rfl⟩
    rfl
  rw [if_neg hle] at g6
  by_cases hl : lim = 0
  · rw [if_pos hl] at g6
    subst g6
    have hi := heap_ok g bg cm hcm d a b g2 (by omega) (by omega)
    rw [g1] at hi
    repeat' first | refine wr (by omega) ?_ | refine ln ?_ | refine stp lay_ok rfl ?_ | refine fin ?_ | refine n_thn ?_ | refine n_blk ?_ | refine e_thn ?_ | refine e_hit ?_ | refine e_miss rfl ?_ | refine r_thn ?_ | refine r_blk ?_ | refine e_rr ?_ | refine r_rr ?_ | refine e_cr ?_ | refine r_cr ?_ | refine .seq ?_ | refine reg ?_ | refine .block ?_ | refine .skip ?_ | refine .ret ?_ | refine .exit ?_ | refine cndT rfl ?_ | refine cndF rfl ?_ | refine c_dec rfl (fun hc => ?_) (fun hc => ?_) | refine c_ndec rfl (fun hc => ?_) (fun hc => ?_) | refine cnd rfl (fun hc => ?_) (fun hc => ?_) | ((first | refine o_none rfl ?_ | refine o_none_ ?_ | refine o_yes rfl rfl rfl ?_ | refine o_yes_ rfl rfl ?_); first | refine st_callF 0 (hi) b79 rfl rfl rfl rfl rfl rfl (by (repeat' first | exact trivial | refine And.intro ?_ ?_ | rfl); first | done | fail) rfl ?_) | refine gd rfl rfl rfl (fun hg => ?_) (fun hg => ?_) | refine gn rfl rfl rfl (fun hg => ?_) (fun hg => ?_) | refine dwr (by omega) ?_ | refine dwl ?_ | refine dws lay_ok rfl rfl rfl rfl rfl rfl rfl ?_ | refine dwu lay_ok rfl rfl rfl rfl rfl rfl rfl rfl rfl ?_ | refine dw_end ?_ | refine dw_skip rfl rfl rfl ?_ | refine dwn lay_ok rfl rfl rfl rfl rfl ?_ | refine dwb rfl rfl rfl rfl rfl (by (first | refine st_callF 0 (hi) b79 rfl rfl rfl rfl rfl rfl (by (repeat' first | exact trivial | refine And.intro ?_ ?_ | rfl); first | done | fail) rfl ?_); exact fin rfl) rfl rfl ?_ | refine dwg rfl rfl rfl rfl rfl (by (first | refine st_callF 0 (hi) b79 rfl rfl rfl rfl rfl rfl (by (repeat' first | exact trivial | refine And.intro ?_ ?_ | rfl); first | done | fail) rfl ?_); exact fin rfl) rfl rfl rfl rfl rfl ?_ | refine dw_dec rfl rfl rfl (fun hg => ?_) (fun hg => ?_) | refine dw_ndec rfl rfl rfl (fun hg => ?_) (fun hg => ?_)
    all_goals first
      | (exfalso; omega)
      | skip
    refine f_r [(0, .arr 3 (rA (Sort.heapSort (ltC cm) d a b)))] rfl (by (repeat' first | exact trivial | refine And.intro ?_ ?_ | rfl); first | done | fail) rfl ⟨?_, rfl⟩
    rfl
  rw [if_neg hl] at g6
  have hbr := break_ok g d n a b g1 (by omega) g3 hn (by omega) (by omega)
  have hbz := brk_size d a b g2 (by omega)
  obtain ⟨l1, hl1, zl⟩ : ∃ l1, l1 = (if wb = true then lim else lim - 1) ∧ l1 ≤ 64 := ⟨_, rfl, by split <;> omega⟩
  obtain ⟨d1, hd1, z1⟩ : ∃ d1, d1 = (if wb = true then d else Sort.breakPatterns d a b) ∧ d1.size = n := ⟨_, rfl, by split <;> omega⟩
  rw [← hd1, ← hl1] at g6
  repeat' first | refine cutr (x := .seq (.region 7 _ _) _) (fun s' => s' = ⟨f58.ntmps, 1, [(0, .lsl 0 3 0 n), (1, I a), (2, I b), (3, I l1), (4, fnG g), (10, B wb), (11, B wp), (12, .st (.int .i64 ((b : Int) - (a : Int))))], [(0, .arr 3 (rA d1))]⟩) ?_ ?_ | refine wr (by omega) ?_ | refine ln ?_ | refine stp lay_ok rfl ?_ | refine fin ?_ | refine n_thn ?_ | refine n_blk ?_ | refine e_thn ?_ | refine e_hit ?_ | refine e_miss rfl ?_ | refine r_thn ?_ | refine r_blk ?_ | refine e_rr ?_ | refine r_rr ?_ | refine e_cr ?_ | refine r_cr ?_ | refine .seq ?_ | refine reg ?_ | refine .block ?_ | refine .skip ?_ | refine .ret ?_ | refine .exit ?_ | refine cndT rfl ?_ | refine cndF rfl ?_ | refine c_dec rfl (fun hc => ?_) (fun hc => ?_) | refine c_ndec rfl (fun hc => ?_) (fun hc => ?_) | refine cnd rfl (fun hc => ?_) (fun hc => ?_) | refine gd rfl rfl rfl (fun hg => ?_) (fun hg => ?_) | refine gn rfl rfl rfl (fun hg => ?_) (fun hg => ?_) | refine dwr (by omega) ?_ | refine dwl ?_ | refine dws lay_ok rfl rfl rfl rfl rfl rfl rfl ?_ | refine dwu lay_ok rfl rfl rfl rfl rfl rfl rfl rfl rfl ?_ | refine dw_end ?_ | refine dw_skip rfl rfl rfl ?_ | refine dwn lay_ok rfl rfl rfl rfl rfl ?_ | refine dw_dec rfl rfl rfl (fun hg => ?_) (fun hg => ?_) | refine dw_ndec rfl rfl rfl (fun hg => ?_) (fun hg => ?_)
  all_goals first
    | (exfalso; omega)
    | skip
  · repeat' first | refine wr (by omega) ?_ | refine ln ?_ | refine stp lay_ok rfl ?_ | refine fin ?_ | refine n_thn ?_ | refine n_blk ?_ | refine e_thn ?_ | refine e_hit ?_ | refine e_miss rfl ?_ | refine r_thn ?_ | refine r_blk ?_ | refine e_rr ?_ | refine r_rr ?_ | refine e_cr ?_ | refine r_cr ?_ | refine .seq ?_ | refine reg ?_ | refine .block ?_ | refine .skip ?_ | refine .ret ?_ | refine .exit ?_ | refine cndT rfl ?_ | refine cndF rfl ?_ | refine c_dec rfl (fun hc => ?_) (fun hc => ?_) | refine c_ndec rfl (fun hc => ?_) (fun hc => ?_) | refine cnd rfl (fun hc => ?_) (fun hc => ?_) | ((first | refine o_none rfl ?_ | refine o_none_ ?_ | refine o_yes rfl rfl rfl ?_ | refine o_yes_ rfl rfl ?_); first | refine st_callF 0 (hbr) b80 rfl rfl rfl rfl rfl rfl (by (repeat' first | exact trivial | refine And.intro ?_ ?_ | rfl); first | done | fail) rfl ?_) | refine gd rfl rfl rfl (fun hg => ?_) (fun hg => ?_) | refine gn rfl rfl rfl (fun hg => ?_) (fun hg => ?_) | refine dwr (by omega) ?_ | refine dwl ?_ | refine dws lay_ok rfl rfl rfl rfl rfl rfl rfl ?_ | refine dwu lay_ok rfl rfl rfl rfl rfl rfl rfl rfl rfl ?_ | refine dw_end ?_ | refine dw_skip rfl rfl rfl ?_ | refine dwn lay_ok rfl rfl rfl rfl rfl ?_ | refine dwb rfl rfl rfl rfl rfl (by (first | refine st_callF 0 (hbr) b80 rfl rfl rfl rfl rfl rfl (by (repeat' first | exact trivial | refine And.intro ?_ ?_ | rfl); first | done | fail) rfl ?_); exact fin rfl) rfl rfl ?_ | refine dwg rfl rfl rfl rfl rfl (by (first | refine st_callF 0 (hbr) b80 rfl rfl rfl rfl rfl rfl (by (repeat' first | exact trivial | refine And.intro ?_ ?_ | rfl); first | done | fail) rfl ?_); exact fin rfl) rfl rfl rfl rfl rfl ?_ | refine dw_dec rfl rfl rfl (fun hg => ?_) (fun hg => ?_) | refine dw_ndec rfl rfl rfl (fun hg => ?_) (fun hg => ?_)
    cases wb with
    | true => exact absurd hc (by decide)
    | false =>
      simp only [Bool.false_eq_true, if_false] at hd1 hl1
      subst hd1
      have hl1' : (lim : Int) - 1 = (l1 : Int) := by omega
      refine n_cr _ (.of [0] (by (repeat' first | exact trivial | refine And.intro ?_ ?_ | rfl | exact congrArg (fun z : Int => some (AV.st (.int .i64 z))) hl1'); first | done | fail) (by (repeat' first | exact trivial | refine And.intro ?_ ?_ | rfl | exact congrArg (fun z : Int => some (AV.st (.int .i64 z))) hl1'); first | done | fail) rfl) (Nat.le_refl _) rfl
  · cases wb with
    | false => exact absurd hc (by decide)
    | true =>
      simp only [if_true] at hd1 hl1
      subst hd1 hl1
      refine n_cr _ (.of [0] (by (repeat' first | exact trivial | refine And.intro ?_ ?_ | rfl); first | done | fail) (by (repeat' first | exact trivial | refine And.intro ?_ ?_ | rfl); first | done | fail) rfl) (Nat.le_refl _) rfl
  rintro _ rfl
  refine nrm rfl rfl ?_
  have hpo := pivot_ok g bg cm hcm d1 n a b z1 (by omega) g3 hn (by omega) (by omega)
  have hpl := pivot_lt (ltC cm) d1 a b (by omega)
  have hrv := rev_ok g d1 a b (by omega) (by omega) (by omega)
  rw [z1] at hrv
  have hrz := rev_size d1 a b g2 (by omega)
  unfold pdqS at g6
  generalize Sort.reverseRange d1 a b = dr at *
  generalize Sort.choosePivot (ltC cm) d1 a b = C at *
  obtain ⟨c, hint⟩ := C
  simp only at hpo hpl g6
  have hz2 : hint = .decreasing ↔ hintI hint = 2 := by cases hint <;> decide
  obtain ⟨d2, c2, hint2, hE, z2, q1, q2, hK⟩ : ∃ d2 c2 hint2, ((hint = .decreasing ∧ d2 = dr ∧ c2 = b - 1 - (c - a) ∧ hint2 = .increasing) ∨ (¬ hint = .decreasing ∧ d2 = d1 ∧ c2 = c ∧ hint2 = hint)) ∧ d2.size = n ∧ a ≤ c2 ∧ c2 < b ∧ K = pdqT (ltC cm) d2 a b l1 wb wp c2 hint2 := by
    by_cases hd : hint = .decreasing
    · rw [if_pos hd] at g6
      exact ⟨_, _, _, .inl ⟨hd, rfl, rfl, rfl⟩, by omega, by omega, by omega, g6⟩
    · rw [if_neg hd] at g6
      exact ⟨_, _, _, .inr ⟨hd, rfl, rfl, rfl⟩, by omega, by omega, by omega, g6⟩
  repeat' first | refine cutr (x := .seq (.region 11 _ _) _) (fun s' => s' = ⟨f58.ntmps, 1, [(0, .lsl 0 3 0 n), (1, I a), (2, I b), (3, I l1), (4, fnG g), (10, B wb), (11, B wp), (12, .st (.int .i64 ((b : Int) - (a : Int)))), (13, I c2), (14, I (hintI hint2))], [(0, .arr 3 (rA d2))]⟩) ?_ ?_ | refine wr (by omega) ?_ | refine ln ?_ | refine stp lay_ok rfl ?_ | refine fin ?_ | refine n_thn ?_ | refine n_blk ?_ | refine e_thn ?_ | refine e_hit ?_ | refine e_miss rfl ?_ | refine r_thn ?_ | refine r_blk ?_ | refine e_rr ?_ | refine r_rr ?_ | refine e_cr ?_ | refine r_cr ?_ | refine .seq ?_ | refine reg ?_ | refine .block ?_ | refine .skip ?_ | refine .ret ?_ | refine .exit ?_ | refine cndT rfl ?_ | refine cndF rfl ?_ | refine c_dec rfl (fun hc => ?_) (fun hc => ?_) | refine c_ndec rfl (fun hc => ?_) (fun hc => ?_) | refine cnd rfl (fun hc => ?_) (fun hc => ?_) | ((first | refine o_none rfl ?_ | refine o_none_ ?_ | refine o_yes rfl rfl rfl ?_ | refine o_yes_ rfl rfl ?_); first | refine st_callF 0 (hpo) b81 rfl rfl rfl rfl rfl rfl (by (repeat' first | exact trivial | refine And.intro ?_ ?_ | rfl); first | done | fail) rfl ?_) | refine gd rfl rfl rfl (fun hg => ?_) (fun hg => ?_) | refine gn rfl rfl rfl (fun hg => ?_) (fun hg => ?_) | refine dwr (by omega) ?_ | refine dwl ?_ | refine dws lay_ok rfl rfl rfl rfl rfl rfl rfl ?_ | refine dwu lay_ok rfl rfl rfl rfl rfl rfl rfl rfl rfl ?_ | refine dw_end ?_ | refine dw_skip rfl rfl rfl ?_ | refine dwn lay_ok rfl rfl rfl rfl rfl ?_ | refine dwb rfl rfl rfl rfl rfl (by (first | refine st_callF 0 (hpo) b81 rfl rfl rfl rfl rfl rfl (by (repeat' first | exact trivial | refine And.intro ?_ ?_ | rfl); first | done | fail) rfl ?_); exact fin rfl) rfl rfl ?_ | refine dwg rfl rfl rfl rfl rfl (by (first | refine st_callF 0 (hpo) b81 rfl rfl rfl rfl rfl rfl (by (repeat' first | exact trivial | refine And.intro ?_ ?_ | rfl); first | done | fail) rfl ?_); exact fin rfl) rfl rfl rfl rfl rfl ?_ | refine dw_dec rfl rfl rfl (fun hg => ?_) (fun hg => ?_) | refine dw_ndec rfl rfl rfl (fun hg => ?_) (fun hg => ?_)
  · repeat' first | refine wr (by omega) ?_ | refine ln ?_ | refine stp lay_ok rfl ?_ | refine fin ?_ | refine n_thn ?_ | refine n_blk ?_ | refine e_thn ?_ | refine e_hit ?_ | refine e_miss rfl ?_ | refine r_thn ?_ | refine r_blk ?_ | refine e_rr ?_ | refine r_rr ?_ | refine e_cr ?_ | refine r_cr ?_ | refine .seq ?_ | refine reg ?_ | refine .block ?_ | refine .skip ?_ | refine .ret ?_ | refine .exit ?_ | refine cndT rfl ?_ | refine cndF rfl ?_ | refine c_dec rfl (fun hc => ?_) (fun hc => ?_) | refine c_ndec rfl (fun hc => ?_) (fun hc => ?_) | refine cnd rfl (fun hc => ?_) (fun hc => ?_) | ((first | refine o_none rfl ?_ | refine o_none_ ?_ | refine o_yes rfl rfl rfl ?_ | refine o_yes_ rfl rfl ?_); first | refine st_callF 0 (hrv) b82 rfl rfl rfl rfl rfl rfl (by (repeat' first | exact trivial | refine And.intro ?_ ?_ | rfl); first | done | fail) rfl ?_) | refine gd rfl rfl rfl (fun hg => ?_) (fun hg => ?_) | refine gn rfl rfl rfl (fun hg => ?_) (fun hg => ?_) | refine dwr (by omega) ?_ | refine dwl ?_ | refine dws lay_ok rfl rfl rfl rfl rfl rfl rfl ?_ | refine dwu lay_ok rfl rfl rfl rfl rfl rfl rfl rfl rfl ?_ | refine dw_end ?_ | refine dw_skip rfl rfl rfl ?_ | refine dwn lay_ok rfl rfl rfl rfl rfl ?_ | refine dwb rfl rfl rfl rfl rfl (by (first | refine st_callF 0 (hrv) b82 rfl rfl rfl rfl rfl rfl (by (repeat' first | exact trivial | refine And.intro ?_ ?_ | rfl); first | done | fail) rfl ?_); exact fin rfl) rfl rfl ?_ | refine dwg rfl rfl rfl rfl rfl (by (first | refine st_callF 0 (hrv) b82 rfl rfl rfl rfl rfl rfl (by (repeat' first | exact trivial | refine And.intro ?_ ?_ | rfl); first | done | fail) rfl ?_); exact fin rfl) rfl rfl rfl rfl rfl ?_ | refine dw_dec rfl rfl rfl (fun hg => ?_) (fun hg => ?_) | refine dw_ndec rfl rfl rfl (fun hg => ?_) (fun hg => ?_)
    obtain ⟨h1, rfl, h3, rfl⟩ | ⟨h1, _⟩ := hE
    · have h3' : (b : Int) - 1 - ((c : Int) - (a : Int)) = (c2 : Int) := by omega
      refine n_cr _ (.of [0] (by (repeat' first | exact trivial | refine And.intro ?_ ?_ | rfl | exact congrArg (fun z : Int => some (AV.st (.int .i64 z))) h3'); first | done | fail) (by (repeat' first | exact trivial | refine And.intro ?_ ?_ | rfl | exact congrArg (fun z : Int => some (AV.st (.int .i64 z))) h3'); first | done | fail) rfl) (Nat.le_refl _) rfl
    · exact absurd (hz2.mpr hc) h1
  · obtain ⟨h1, _⟩ | ⟨h1, rfl, rfl, rfl⟩ := hE
    · exact absurd (hz2.mp h1) hc
    · refine n_cr _ (.of [0] (by (repeat' first | exact trivial | refine And.intro ?_ ?_ | rfl); first | done | fail) (by (repeat' first | exact trivial | refine And.intro ?_ ?_ | rfl); first | done | fail) rfl) (Nat.le_refl _) rfl
  rintro _ rfl
  refine nrm rfl rfl ?_
  have hpt := partial_ok g bg cm hcm d2 n a b z2 (by omega) g3 hn (by omega)
  rw [partial_eq _ _ _ _ (by omega)] at hpt
  simp only at hpt
  unfold pdqT at hK
  have hz1 : hint2 = .increasing ↔ hintI hint2 = 1 := by cases hint2 <;> decide
  refine cutr (x := .seq (.region 15 _ _) _) (fun s' => s' = ⟨f58.ntmps, 1, [(0, .lsl 0 3 0 n), (1, I a), (2, I b), (3, I l1), (4, fnG g), (10, B wb), (11, B wp), (12, .st (.int .i64 ((b : Int) - (a : Int)))), (13, I c2)], [(0, .arr 3 (rA d2))]⟩ ∧ K = pdqU (ltC cm) d2 a b l1 wb wp c2) ?_ ?_
  · cases wb
    · simp only [Bool.false_and, Bool.false_eq_true, false_and, if_false] at hK
      repeat' first | refine wr (by omega) ?_ | refine ln ?_ | refine stp lay_ok rfl ?_ | refine fin ?_ | refine n_thn ?_ | refine n_blk ?_ | refine e_thn ?_ | refine e_hit ?_ | refine e_miss rfl ?_ | refine r_thn ?_ | refine r_blk ?_ | refine e_rr ?_ | refine r_rr ?_ | refine e_cr ?_ | refine r_cr ?_ | refine .seq ?_ | refine reg ?_ | refine .block ?_ | refine .skip ?_ | refine .ret ?_ | refine .exit ?_ | refine cndT rfl ?_ | refine cndF rfl ?_ | refine c_dec rfl (fun hc => ?_) (fun hc => ?_) | refine c_ndec rfl (fun hc => ?_) (fun hc => ?_) | refine cnd rfl (fun hc => ?_) (fun hc => ?_) | refine gd rfl rfl rfl (fun hg => ?_) (fun hg => ?_) | refine gn rfl rfl rfl (fun hg => ?_) (fun hg => ?_) | refine dwr (by omega) ?_ | refine dwl ?_ | refine dws lay_ok rfl rfl rfl rfl rfl rfl rfl ?_ | refine dwu lay_ok rfl rfl rfl rfl rfl rfl rfl rfl rfl ?_ | refine dw_end ?_ | refine dw_skip rfl rfl rfl ?_ | refine dwn lay_ok rfl rfl rfl rfl rfl ?_ | refine dw_dec rfl rfl rfl (fun hg => ?_) (fun hg => ?_) | refine dw_ndec rfl rfl rfl (fun hg => ?_) (fun hg => ?_)
      refine n_cr _ (.of [0] (by (repeat' first | exact trivial | refine And.intro ?_ ?_ | rfl); first | done | fail) (by (repeat' first | exact trivial | refine And.intro ?_ ?_ | rfl); first | done | fail) rfl) (Nat.le_refl _) ⟨rfl, ?_⟩
      exact hK
    cases wp
    · simp only [Bool.and_false, Bool.false_and, Bool.false_eq_true, false_and, if_false] at hK
      repeat' first | refine wr (by omega) ?_ | refine ln ?_ | refine stp lay_ok rfl ?_ | refine fin ?_ | refine n_thn ?_ | refine n_blk ?_ | refine e_thn ?_ | refine e_hit ?_ | refine e_miss rfl ?_ | refine r_thn ?_ | refine r_blk ?_ | refine e_rr ?_ | refine r_rr ?_ | refine e_cr ?_ | refine r_cr ?_ | refine .seq ?_ | refine reg ?_ | refine .block ?_ | refine .skip ?_ | refine .ret ?_ | refine .exit ?_ | refine cndT rfl ?_ | refine cndF rfl ?_ | refine c_dec rfl (fun hc => ?_) (fun hc => ?_) | refine c_ndec rfl (fun hc => ?_) (fun hc => ?_) | refine cnd rfl (fun hc => ?_) (fun hc => ?_) | refine gd rfl rfl rfl (fun hg => ?_) (fun hg => ?_) | refine gn rfl rfl rfl (fun hg => ?_) (fun hg => ?_) | refine dwr (by omega) ?_ | refine dwl ?_ | refine dws lay_ok rfl rfl rfl rfl rfl rfl rfl ?_ | refine dwu lay_ok rfl rfl rfl rfl rfl rfl rfl rfl rfl ?_ | refine dw_end ?_ | refine dw_skip rfl rfl rfl ?_ | refine dwn lay_ok rfl rfl rfl rfl rfl ?_ | refine dw_dec rfl rfl rfl (fun hg => ?_) (fun hg => ?_) | refine dw_ndec rfl rfl rfl (fun hg => ?_) (fun hg => ?_)
      refine n_cr _ (.of [0] (by (repeat' first | exact trivial | refine And.intro ?_ ?_ | rfl); first | done | fail) (by (repeat' first | exact trivial | refine And.intro ?_ ?_ | rfl); first | done | fail) rfl) (Nat.le_refl _) ⟨rfl, ?_⟩
      exact hK
    by_cases hh : hintI hint2 = 1
    · rw [hz1.mpr hh] at hK
      by_cases hsc : Sort.scanSorted (ltC cm) d2 b (a + 1) = b
      · rw [if_pos ⟨rfl, hsc⟩] at hK
        subst hK
        repeat' first | refine wr (by omega) ?_ | refine ln ?_ | refine stp lay_ok rfl ?_ | refine fin ?_ | refine n_thn ?_ | refine n_blk ?_ | refine e_thn ?_ | refine e_hit ?_ | refine e_miss rfl ?_ | refine r_thn ?_ | refine r_blk ?_ | refine e_rr ?_ | refine r_rr ?_ | refine e_cr ?_ | refine r_cr ?_ | refine .seq ?_ | refine reg ?_ | refine .block ?_ | refine .skip ?_ | refine .ret ?_ | refine .exit ?_ | refine cndT rfl ?_ | refine cndF rfl ?_ | refine c_dec rfl (fun hc => ?_) (fun hc => ?_) | refine c_ndec rfl (fun hc => ?_) (fun hc => ?_) | refine cnd rfl (fun hc => ?_) (fun hc => ?_) | ((first | refine o_none rfl ?_ | refine o_none_ ?_ | refine o_yes rfl rfl rfl ?_ | refine o_yes_ rfl rfl ?_); first | refine st_callF 0 (hpt) b83 rfl rfl rfl rfl rfl rfl (by (repeat' first | exact trivial | refine And.intro ?_ ?_ | rfl); first | done | fail) rfl ?_) | refine gd rfl rfl rfl (fun hg => ?_) (fun hg => ?_) | refine gn rfl rfl rfl (fun hg => ?_) (fun hg => ?_) | refine dwr (by omega) ?_ | refine dwl ?_ | refine dws lay_ok rfl rfl rfl rfl rfl rfl rfl ?_ | refine dwu lay_ok rfl rfl rfl rfl rfl rfl rfl rfl rfl ?_ | refine dw_end ?_ | refine dw_skip rfl rfl rfl ?_ | refine dwn lay_ok rfl rfl rfl rfl rfl ?_ | refine dwb rfl rfl rfl rfl rfl (by (first | refine st_callF 0 (hpt) b83 rfl rfl rfl rfl rfl rfl (by (repeat' first | exact trivial | refine And.intro ?_ ?_ | rfl); first | done | fail) rfl ?_); exact fin rfl) rfl rfl ?_ | refine dwg rfl rfl rfl rfl rfl (by (first | refine st_callF 0 (hpt) b83 rfl rfl rfl rfl rfl rfl (by (repeat' first | exact trivial | refine And.intro ?_ ?_ | rfl); first | done | fail) rfl ?_); exact fin rfl) rfl rfl rfl rfl rfl ?_ | refine dw_dec rfl rfl rfl (fun hg => ?_) (fun hg => ?_) | refine dw_ndec rfl rfl rfl (fun hg => ?_) (fun hg => ?_)
        all_goals first
          | contradiction
          | skip
        refine f_r [(0, .arr 3 (rA K))] rfl (by (repeat' first | exact trivial | refine And.intro ?_ ?_ | rfl); first | done | fail) rfl ⟨?_, rfl⟩
        rfl
      · rw [if_neg (fun h => hsc h.2)] at hK
        repeat' first | refine wr (by omega) ?_ | refine ln ?_ | refine stp lay_ok rfl ?_ | refine fin ?_ | refine n_thn ?_ | refine n_blk ?_ | refine e_thn ?_ | refine e_hit ?_ | refine e_miss rfl ?_ | refine r_thn ?_ | refine r_blk ?_ | refine e_rr ?_ | refine r_rr ?_ | refine e_cr ?_ | refine r_cr ?_ | refine .seq ?_ | refine reg ?_ | refine .block ?_ | refine .skip ?_ | refine .ret ?_ | refine .exit ?_ | refine cndT rfl ?_ | refine cndF rfl ?_ | refine c_dec rfl (fun hc => ?_) (fun hc => ?_) | refine c_ndec rfl (fun hc => ?_) (fun hc => ?_) | refine cnd rfl (fun hc => ?_) (fun hc => ?_) | ((first | refine o_none rfl ?_ | refine o_none_ ?_ | refine o_yes rfl rfl rfl ?_ | refine o_yes_ rfl rfl ?_); first | refine st_callF 0 (hpt) b83 rfl rfl rfl rfl rfl rfl (by (repeat' first | exact trivial | refine And.intro ?_ ?_ | rfl); first | done | fail) rfl ?_) | refine gd rfl rfl rfl (fun hg => ?_) (fun hg => ?_) | refine gn rfl rfl rfl (fun hg => ?_) (fun hg => ?_) | refine dwr (by omega) ?_ | refine dwl ?_ | refine dws lay_ok rfl rfl rfl rfl rfl rfl rfl ?_ | refine dwu lay_ok rfl rfl rfl rfl rfl rfl rfl rfl rfl ?_ | refine dw_end ?_ | refine dw_skip rfl rfl rfl ?_ | refine dwn lay_ok rfl rfl rfl rfl rfl ?_ | refine dwb rfl rfl rfl rfl rfl (by (first | refine st_callF 0 (hpt) b83 rfl rfl rfl rfl rfl rfl (by (repeat' first | exact trivial | refine And.intro ?_ ?_ | rfl); first | done | fail) rfl ?_); exact fin rfl) rfl rfl ?_ | refine dwg rfl rfl rfl rfl rfl (by (first | refine st_callF 0 (hpt) b83 rfl rfl rfl rfl rfl rfl (by (repeat' first | exact trivial | refine And.intro ?_ ?_ | rfl); first | done | fail) rfl ?_); exact fin rfl) rfl rfl rfl rfl rfl ?_ | refine dw_dec rfl rfl rfl (fun hg => ?_) (fun hg => ?_) | refine dw_ndec rfl rfl rfl (fun hg => ?_) (fun hg => ?_)
        all_goals first
          | contradiction
          | skip
        refine n_cr _ (.of [0] (by (repeat' first | exact trivial | refine And.intro ?_ ?_ | rfl); first | done | fail) (by (repeat' first | exact trivial | refine And.intro ?_ ?_ | rfl); first | done | fail) rfl) (Nat.le_refl _) ⟨rfl, ?_⟩
        exact hK
    · rw [if_neg (fun h => hh (hz1.mp (by simpa using h.1)))] at hK
      repeat' first | refine wr (by omega) ?_ | refine ln ?_ | refine stp lay_ok rfl ?_ | refine fin ?_ | refine n_thn ?_ | refine n_blk ?_ | refine e_thn ?_ | refine e_hit ?_ | refine e_miss rfl ?_ | refine r_thn ?_ | refine r_blk ?_ | refine e_rr ?_ | refine r_rr ?_ | refine e_cr ?_ | refine r_cr ?_ | refine .seq ?_ | refine reg ?_ | refine .block ?_ | refine .skip ?_ | refine .ret ?_ | refine .exit ?_ | refine cndT rfl ?_ | refine cndF rfl ?_ | refine c_dec rfl (fun hc => ?_) (fun hc => ?_) | refine c_ndec rfl (fun hc => ?_) (fun hc => ?_) | refine cnd rfl (fun hc => ?_) (fun hc => ?_) | ((first | refine o_none rfl ?_ | refine o_none_ ?_ | refine o_yes rfl rfl rfl ?_ | refine o_yes_ rfl rfl ?_); first | refine st_callF 0 (hpt) b83 rfl rfl rfl rfl rfl rfl (by (repeat' first | exact trivial | refine And.intro ?_ ?_ | rfl); first | done | fail) rfl ?_) | refine gd rfl rfl rfl (fun hg => ?_) (fun hg => ?_) | refine gn rfl rfl rfl (fun hg => ?_) (fun hg => ?_) | refine dwr (by omega) ?_ | refine dwl ?_ | refine dws lay_ok rfl rfl rfl rfl rfl rfl rfl ?_ | refine dwu lay_ok rfl rfl rfl rfl rfl rfl rfl rfl rfl ?_ | refine dw_end ?_ | refine dw_skip rfl rfl rfl ?_ | refine dwn lay_ok rfl rfl rfl rfl rfl ?_ | refine dwb rfl rfl rfl rfl rfl (by (first | refine st_callF 0 (hpt) b83 rfl rfl rfl rfl rfl rfl (by (repeat' first | exact trivial | refine And.intro ?_ ?_ | rfl); first | done | fail) rfl ?_); exact fin rfl) rfl rfl ?_ | refine dwg rfl rfl rfl rfl rfl (by (first | refine st_callF 0 (hpt) b83 rfl rfl rfl rfl rfl rfl (by (repeat' first | exact trivial | refine And.intro ?_ ?_ | rfl); first | done | fail) rfl ?_); exact fin rfl) rfl rfl rfl rfl rfl ?_ | refine dw_dec rfl rfl rfl (fun hg => ?_) (fun hg => ?_) | refine dw_ndec rfl rfl rfl (fun hg => ?_) (fun hg => ?_)
      all_goals first
        | contradiction
        | skip
      refine n_cr _ (.of [0] (by (repeat' first | exact trivial | refine And.intro ?_ ?_ | rfl); first | done | fail) (by (repeat' first | exact trivial | refine And.intro ?_ ?_ | rfl); first | done | fail) rfl) (Nat.le_refl _) ⟨rfl, ?_⟩
      exact hK
  rintro _ ⟨rfl, hK2⟩
  refine nrm rfl rfl ?_
  clear hK hpt hpo hrv hbr hE
  have p1 := partn_facts (ltC cm) d2 a b c2 q1 q2 (by omega)
  have p2 := parteq_facts (ltC cm) d2 a b c2 q1 q2 (by omega)
  have hp1 := partn_ok g bg cm hcm d2 a b c2 q1 q2 (by omega) (by omega)
  have hp2 := parteq_ok g bg cm hcm d2 a b c2 q1 q2 (by omega) (by omega)
  rw [z2] at hp1 hp2
  unfold pdqU at hK2
  generalize Sort.partition (ltC cm) d2 a b c2 = P1 at *
  generalize Sort.partitionEqual (ltC cm) d2 a b c2 = P2 at *
  obtain ⟨m1, ap, d4⟩ := P1
  obtain ⟨m2, d5⟩ := P2
  simp only at p1 p2 hp1 hp2 hK2
  have hqI2 : (b - a) / 8 ≤ 6 := by omega
  generalize hq : (b - a) / 8 = q at *
  refine cutr (x := .seq (.region 17 _ _) _) (fun s' => s' = ⟨f58.ntmps, 1, [(0, .lsl 0 3 0 n), (1, I a), (2, I b), (3, I l1), (4, fnG g), (11, B wp), (12, .st (.int .i64 ((b : Int) - (a : Int)))), (13, I c2)], [(0, .arr 3 (rA d2))]⟩ ∧
    K = if m1 - a < b - m1 then Sort.pdq (ltC cm) (Sort.pdq (ltC cm) d4 a m1 l1 true true) (m1 + 1) b l1 (decide (m1 - a ≥ q)) ap else Sort.pdq (ltC cm) (Sort.pdq (ltC cm) d4 (m1 + 1) b l1 true true) a m1 l1 (decide (b - m1 ≥ q)) ap) ?_ ?_
  · have hid : Hid (a < m2 ∧ m2 ≤ b ∧ d5.size = d2.size ∧ b - a ≤ b0 - a0 ∧ l1 ≤ 64 ∧ d2.size = n ∧ b ≤ n) := ⟨⟨p2.1, p2.2.1, p2.2.2, g4, zl, z2, g3⟩⟩
    have hidK := Hid.mk hK2
    by_cases ha : 0 < a
    · have hat1 := rA_at (d := d2) (i := (a : Int) - 1) (k := a - 1) (by omega) (by omega)
      have hat2 := rA_at (d := d2) (i := (c2 : Int)) (k := c2) (by omega) (by omega)
      have hcl := hcm d2[a - 1]! d2[c2]!
      have hle1 : a ≤ n ∧ c2 < n := by omega
      clear hK2 p2 p1 hp1 hqI hqI2 hq hz1 hz2 hpl hrz z1 hs ih g1 g2 g3 g4 g5 hle hl hbz zl hm hn0 hab hb h50 hl0 q1 q2 z2
      generalize d2[a - 1]! = x at *
      generalize d2[c2]! = y at *
      repeat' first | refine wr (by omega) ?_ | refine ln ?_ | refine stp lay_ok rfl ?_ | refine fin ?_ | refine n_thn ?_ | refine n_blk ?_ | refine e_thn ?_ | refine e_hit ?_ | refine e_miss rfl ?_ | refine r_thn ?_ | refine r_blk ?_ | refine e_rr ?_ | refine r_rr ?_ | refine e_cr ?_ | refine r_cr ?_ | refine .seq ?_ | refine reg ?_ | refine .block ?_ | refine .skip ?_ | refine .ret ?_ | refine .exit ?_ | refine cndT rfl ?_ | refine cndF rfl ?_ | refine c_dec rfl (fun hc => ?_) (fun hc => ?_) | refine c_ndec rfl (fun hc => ?_) (fun hc => ?_) | refine cnd rfl (fun hc => ?_) (fun hc => ?_) | refine gd rfl rfl rfl (fun hg => ?_) (fun hg => ?_) | refine gn rfl rfl rfl (fun hg => ?_) (fun hg => ?_) | refine dwr (by omega) ?_ | refine dwl ?_ | refine dws lay_ok rfl rfl rfl rfl rfl rfl rfl ?_ | refine dwu lay_ok rfl rfl rfl rfl rfl rfl rfl rfl rfl ?_ | refine dw_end ?_ | refine dw_skip rfl rfl rfl ?_ | refine dwn lay_ok rfl rfl rfl rfl rfl ?_ | refine dw_dec rfl rfl rfl (fun hg => ?_) (fun hg => ?_) | refine dw_ndec rfl rfl rfl (fun hg => ?_) (fun hg => ?_)
      refine dreg [(0, [], []), (1, [0], []), (2, [0, 1], []), (3, [0, 1, 2], [85, 86, 87, 88, 89, 90, 91, 92, 93]), (4, [0, 1, 2], [84, 86, 87, 90, 91, 92, 93]), (5, [0, 1, 2], [84, 85, 90, 91, 92, 93]), (6, [0, 1, 2, 5], [84, 85, 90, 91, 92, 93]), (7, [0, 1, 2, 4, 5, 6], [84, 90, 91, 92, 93]), (8, [0, 1, 2, 4, 5, 6, 7], [84, 90, 91, 92, 93]), (9, [0, 1, 2], [84, 85, 86, 87, 88, 89, 91]), (10, [0, 1, 2], [84, 85, 86, 87, 88, 89, 90]), (11, [0, 1, 2, 9, 10], [84, 85, 86, 87, 88, 89]), (12, [0, 1, 2, 9, 10, 11], [84, 85, 86, 87, 88, 89]), (13, [0, 1, 2, 3, 4, 5, 6, 7, 8, 9, 10, 11, 12], []), (14, [0, 1, 2, 3, 4, 5, 6, 7, 8, 9, 10, 11, 12, 13], []), (15, [0, 1, 2, 3, 4, 5, 6, 7, 8, 9, 10, 11, 12, 13, 14], []), (16, [0, 1, 2, 3, 4, 5, 6, 7, 8, 9, 10, 11, 12, 13, 14, 15], [])] mixed (by kernel_rfl) ?_
      repeat' first | refine wr (by omega) ?_ | refine ln ?_ | refine stp lay_ok rfl ?_ | refine fin ?_ | refine n_thn ?_ | refine n_blk ?_ | refine e_thn ?_ | refine e_hit ?_ | refine e_miss rfl ?_ | refine r_thn ?_ | refine r_blk ?_ | refine e_rr ?_ | refine r_rr ?_ | refine e_cr ?_ | refine r_cr ?_ | refine .seq ?_ | refine reg ?_ | refine .block ?_ | refine .skip ?_ | refine .ret ?_ | refine .exit ?_ | refine cndT rfl ?_ | refine cndF rfl ?_ | refine c_dec rfl (fun hc => ?_) (fun hc => ?_) | refine c_ndec rfl (fun hc => ?_) (fun hc => ?_) | refine cnd rfl (fun hc => ?_) (fun hc => ?_) | ((first | refine o_none rfl ?_ | refine o_none_ ?_ | refine o_yes rfl rfl rfl ?_ | refine o_yes_ rfl rfl ?_); first | refine st_indexL lay_ok rfl rfl rfl rfl (by omega) (by omega) ?_ | refine st_loadE (rowE x) lay_ok rfl rfl rfl hat1 rfl rfl rfl ?_ | refine st_loadE (rowE y) lay_ok rfl rfl rfl hat2 rfl rfl rfl ?_ | refine st_pure (hcl) bg rfl rfl rfl rfl ?_ | refine st_callF 0 (hp2) b84 rfl rfl rfl rfl rfl rfl (by (repeat' first | exact trivial | refine And.intro ?_ ?_ | rfl); first | done | fail) rfl ?_) | refine gd rfl rfl rfl (fun hg => ?_) (fun hg => ?_) | refine gn rfl rfl rfl (fun hg => ?_) (fun hg => ?_) | refine dwr (by omega) ?_ | refine dwl ?_ | refine dws lay_ok rfl rfl rfl rfl rfl rfl rfl ?_ | refine dwu lay_ok rfl rfl rfl rfl rfl rfl rfl rfl rfl ?_ | refine dw_end ?_ | refine dw_skip rfl rfl rfl ?_ | refine dwn lay_ok rfl rfl rfl rfl rfl ?_ | refine dwb rfl rfl rfl rfl rfl (by (first | refine st_indexL lay_ok rfl rfl rfl rfl (by omega) (by omega) ?_ | refine st_loadE (rowE x) lay_ok rfl rfl rfl hat1 rfl rfl rfl ?_ | refine st_loadE (rowE y) lay_ok rfl rfl rfl hat2 rfl rfl rfl ?_ | refine st_pure (hcl) bg rfl rfl rfl rfl ?_ | refine st_callF 0 (hp2) b84 rfl rfl rfl rfl rfl rfl (by (repeat' first | exact trivial | refine And.intro ?_ ?_ | rfl); first | done | fail) rfl ?_); exact fin rfl) rfl rfl ?_ | refine dwg rfl rfl rfl rfl rfl (by (first | refine st_indexL lay_ok rfl rfl rfl rfl (by omega) (by omega) ?_ | refine st_loadE (rowE x) lay_ok rfl rfl rfl hat1 rfl rfl rfl ?_ | refine st_loadE (rowE y) lay_ok rfl rfl rfl hat2 rfl rfl rfl ?_ | refine st_pure (hcl) bg rfl rfl rfl rfl ?_ | refine st_callF 0 (hp2) b84 rfl rfl rfl rfl rfl rfl (by (repeat' first | exact trivial | refine And.intro ?_ ?_ | rfl); first | done | fail) rfl ?_); exact fin rfl) rfl rfl rfl rfl rfl ?_ | refine dw_dec rfl rfl rfl (fun hg => ?_) (fun hg => ?_) | refine dw_ndec rfl rfl rfl (fun hg => ?_) (fun hg => ?_)
      all_goals first
        | (exfalso; omega)
        | skip
      · have hK2 := hidK.out
        have ⟨k1, k2, k3, k4, k5, k6, k7⟩ := hid.out
        rw [if_pos (by simp [ha, hc])] at hK2
        refine n_rr ((m2, b, l1, wb, wp, d5, (m2 : Int), (b : Int), (l1 : Int))) ?_ (.of [0] (by (repeat' first | exact trivial | refine And.intro ?_ ?_ | rfl); first | done | fail) (by (repeat' first | exact trivial | refine And.intro ?_ ?_ | rfl); first | done | fail) rfl) ?_
        · show b - m2 < b - a; omega
        · exact ⟨k3.trans k6, k2, k7, by omega, k5, hK2, rfl, rfl, rfl⟩
      · refine n_cr _ (.of [0] (by (repeat' first | exact trivial | refine And.intro ?_ ?_ | rfl); first | done | fail) (by (repeat' first | exact trivial | refine And.intro ?_ ?_ | rfl); first | done | fail) rfl) (Nat.le_refl _) ⟨rfl, ?_⟩
        have hK2 := hidK.out
        rw [if_neg (by simp [hc])] at hK2
        exact hK2
    · have h0' : ¬ ((a : Int) > 0) := by omega
      clear hK2 p2 p1 hp1 hqI hqI2 hq hz1 hz2 hpl hrz z1 hs ih g1 g2 g3 g4 g5 hle hl hbz zl hm hn0 hab hb h50 hl0 q1 q2 z2
      repeat' first | refine wr (by omega) ?_ | refine ln ?_ | refine stp lay_ok rfl ?_ | refine fin ?_ | refine n_thn ?_ | refine n_blk ?_ | refine e_thn ?_ | refine e_hit ?_ | refine e_miss rfl ?_ | refine r_thn ?_ | refine r_blk ?_ | refine e_rr ?_ | refine r_rr ?_ | refine e_cr ?_ | refine r_cr ?_ | refine .seq ?_ | refine reg ?_ | refine .block ?_ | refine .skip ?_ | refine .ret ?_ | refine .exit ?_ | refine cndT rfl ?_ | refine cndF rfl ?_ | refine c_dec rfl (fun hc => ?_) (fun hc => ?_) | refine c_ndec rfl (fun hc => ?_) (fun hc => ?_) | refine cnd rfl (fun hc => ?_) (fun hc => ?_) | refine gd rfl rfl rfl (fun hg => ?_) (fun hg => ?_) | refine gn rfl rfl rfl (fun hg => ?_) (fun hg => ?_) | refine dwr (by omega) ?_ | refine dwl ?_ | refine dws lay_ok rfl rfl rfl rfl rfl rfl rfl ?_ | refine dwu lay_ok rfl rfl rfl rfl rfl rfl rfl rfl rfl ?_ | refine dw_end ?_ | refine dw_skip rfl rfl rfl ?_ | refine dwn lay_ok rfl rfl rfl rfl rfl ?_ | refine dw_dec rfl rfl rfl (fun hg => ?_) (fun hg => ?_) | refine dw_ndec rfl rfl rfl (fun hg => ?_) (fun hg => ?_)
      refine dreg [(0, [], []), (1, [0], []), (2, [0, 1], []), (3, [0, 1, 2], [85, 86, 87, 88, 89, 90, 91, 92, 93]), (4, [0, 1, 2], [84, 86, 87, 90, 91, 92, 93]), (5, [0, 1, 2], [84, 85, 90, 91, 92, 93]), (6, [0, 1, 2, 5], [84, 85, 90, 91, 92, 93]), (7, [0, 1, 2, 4, 5, 6], [84, 90, 91, 92, 93]), (8, [0, 1, 2, 4, 5, 6, 7], [84, 90, 91, 92, 93]), (9, [0, 1, 2], [84, 85, 86, 87, 88, 89, 91]), (10, [0, 1, 2], [84, 85, 86, 87, 88, 89, 90]), (11, [0, 1, 2, 9, 10], [84, 85, 86, 87, 88, 89]), (12, [0, 1, 2, 9, 10, 11], [84, 85, 86, 87, 88, 89]), (13, [0, 1, 2, 3, 4, 5, 6, 7, 8, 9, 10, 11, 12], []), (14, [0, 1, 2, 3, 4, 5, 6, 7, 8, 9, 10, 11, 12, 13], []), (15, [0, 1, 2, 3, 4, 5, 6, 7, 8, 9, 10, 11, 12, 13, 14], []), (16, [0, 1, 2, 3, 4, 5, 6, 7, 8, 9, 10, 11, 12, 13, 14, 15], [])] mixed (by kernel_rfl) ?_
      repeat' first | refine wr (by omega) ?_ | refine ln ?_ | refine stp lay_ok rfl ?_ | refine fin ?_ | refine n_thn ?_ | refine n_blk ?_ | refine e_thn ?_ | refine e_hit ?_ | refine e_miss rfl ?_ | refine r_thn ?_ | refine r_blk ?_ | refine e_rr ?_ | refine r_rr ?_ | refine e_cr ?_ | refine r_cr ?_ | refine .seq ?_ | refine reg ?_ | refine .block ?_ | refine .skip ?_ | refine .ret ?_ | refine .exit ?_ | refine cndT rfl ?_ | refine cndF rfl ?_ | refine c_dec rfl (fun hc => ?_) (fun hc => ?_) | refine c_ndec rfl (fun hc => ?_) (fun hc => ?_) | refine cnd rfl (fun hc => ?_) (fun hc => ?_) | refine gd rfl rfl rfl (fun hg => ?_) (fun hg => ?_) | refine gn rfl rfl rfl (fun hg => ?_) (fun hg => ?_) | refine dwr (by omega) ?_ | refine dwl ?_ | refine dws lay_ok rfl rfl rfl rfl rfl rfl rfl ?_ | refine dwu lay_ok rfl rfl rfl rfl rfl rfl rfl rfl rfl ?_ | refine dw_end ?_ | refine dw_skip rfl rfl rfl ?_ | refine dwn lay_ok rfl rfl rfl rfl rfl ?_ | refine dw_dec rfl rfl rfl (fun hg => ?_) (fun hg => ?_) | refine dw_ndec rfl rfl rfl (fun hg => ?_) (fun hg => ?_)
      all_goals first
        | (exfalso; omega)
        | skip
      refine n_cr _ (.of [0] (by (repeat' first | exact trivial | refine And.intro ?_ ?_ | rfl); first | done | fail) (by (repeat' first | exact trivial | refine And.intro ?_ ?_ | rfl); first | done | fail) rfl) (Nat.le_refl _) ⟨rfl, ?_⟩
      have hK2 := hidK.out
      rw [if_neg (by simp [ha])] at hK2
      exact hK2
  rintro _ ⟨rfl, hK3⟩
  refine nrm rfl rfl ?_
  have zd4 : d4.size = n := p1.2.2.trans z2
  by_cases hsm : m1 - a < b - m1
  · have hrc := ih d4 a m1 l1 (by omega) zd4 p1.1 (by omega) (by omega) zl
    have hrz := pdq_size (ltC cm) hs _ d4 a m1 l1 true true (Nat.le_refl _) p1.1 (by omega) (by omega)
    rw [if_pos hsm] at hK3
    have hdec : decide (m1 - a ≥ q) = decide ((m1 : Int) - (a : Int) ≥ (q : Int)) := by rw [decide_eq_decide]; omega
    rw [hdec] at hK3
    have hid : Hid (a < b ∧ b - a ≤ b0 - a0 ∧ l1 ≤ 64 ∧ d4.size = n ∧ b ≤ n ∧ a ≤ m1 ∧ m1 < b) := ⟨⟨by omega, g4, zl, zd4, g3, p1.1, p1.2.1⟩⟩
    have hidK := Hid.mk hK3
    have hcm1 : (m1 : Int) - (a : Int) < (b : Int) - (m1 : Int) := by omega
    have hr1 : a ≤ m1 ∧ m1 < b ∧ b ≤ 4000000000 := by omega
    clear hK2 p2 hp2 hqI2 hz1 hz2 hpl z1 hs ih g1 g2 g3 g4 g5 hle hl hbz zl hm hn0 hab hb h50 hl0 q1 q2 z2 hK3 hsm
    generalize Sort.pdq (ltC cm) d4 a m1 l1 true true = dd at *
    repeat' first | refine wr (by omega) ?_ | refine ln ?_ | refine stp lay_ok rfl ?_ | refine fin ?_ | refine n_thn ?_ | refine n_blk ?_ | refine e_thn ?_ | refine e_hit ?_ | refine e_miss rfl ?_ | refine r_thn ?_ | refine r_blk ?_ | refine e_rr ?_ | refine r_rr ?_ | refine e_cr ?_ | refine r_cr ?_ | refine .seq ?_ | refine reg ?_ | refine .block ?_ | refine .skip ?_ | refine .ret ?_ | refine .exit ?_ | refine cndT rfl ?_ | refine cndF rfl ?_ | refine c_dec rfl (fun hc => ?_) (fun hc => ?_) | refine c_ndec rfl (fun hc => ?_) (fun hc => ?_) | refine cnd rfl (fun hc => ?_) (fun hc => ?_) | ((first | refine o_none rfl ?_ | refine o_none_ ?_ | refine o_yes rfl rfl rfl ?_ | refine o_yes_ rfl rfl ?_); first | refine st_callF 0 (hp1) b85 rfl rfl rfl rfl rfl rfl (by (repeat' first | exact trivial | refine And.intro ?_ ?_ | rfl); first | done | fail) rfl ?_ | refine st_div rfl rfl hqI (by decide) ?_ | refine st_callF 0 (hrc) b58 rfl rfl rfl rfl rfl rfl (by (repeat' first | exact trivial | refine And.intro ?_ ?_ | rfl); first | done | fail) rfl ?_) | refine gd rfl rfl rfl (fun hg => ?_) (fun hg => ?_) | refine gn rfl rfl rfl (fun hg => ?_) (fun hg => ?_) | refine dwr (by omega) ?_ | refine dwl ?_ | refine dws lay_ok rfl rfl rfl rfl rfl rfl rfl ?_ | refine dwu lay_ok rfl rfl rfl rfl rfl rfl rfl rfl rfl ?_ | refine dw_end ?_ | refine dw_skip rfl rfl rfl ?_ | refine dwn lay_ok rfl rfl rfl rfl rfl ?_ | refine dwb rfl rfl rfl rfl rfl (by (first | refine st_callF 0 (hp1) b85 rfl rfl rfl rfl rfl rfl (by (repeat' first | exact trivial | refine And.intro ?_ ?_ | rfl); first | done | fail) rfl ?_ | refine st_div rfl rfl hqI (by decide) ?_ | refine st_callF 0 (hrc) b58 rfl rfl rfl rfl rfl rfl (by (repeat' first | exact trivial | refine And.intro ?_ ?_ | rfl); first | done | fail) rfl ?_); exact fin rfl) rfl rfl ?_ | refine dwg rfl rfl rfl rfl rfl (by (first | refine st_callF 0 (hp1) b85 rfl rfl rfl rfl rfl rfl (by (repeat' first | exact trivial | refine And.intro ?_ ?_ | rfl); first | done | fail) rfl ?_ | refine st_div rfl rfl hqI (by decide) ?_ | refine st_callF 0 (hrc) b58 rfl rfl rfl rfl rfl rfl (by (repeat' first | exact trivial | refine And.intro ?_ ?_ | rfl); first | done | fail) rfl ?_); exact fin rfl) rfl rfl rfl rfl rfl ?_ | refine dw_dec rfl rfl rfl (fun hg => ?_) (fun hg => ?_) | refine dw_ndec rfl rfl rfl (fun hg => ?_) (fun hg => ?_)
    all_goals first
      | (exfalso; omega)
      | skip
    refine n_rr ((m1 + 1, b, l1, decide ((m1 : Int) - (a : Int) ≥ (q : Int)), ap, dd, (m1 : Int) + 1, (b : Int), (l1 : Int))) ?_ (.of [0] (by (repeat' first | exact trivial | refine And.intro ?_ ?_ | rfl); first | done | fail) (by (repeat' first | exact trivial | refine And.intro ?_ ?_ | rfl); first | done | fail) rfl) ?_
    · have ⟨k1, k2, k3, k4, k5, k6, k7⟩ := hid.out
      show b - (m1 + 1) < b - a
      omega
    · have ⟨k1, k2, k3, k4, k5, k6, k7⟩ := hid.out
      exact ⟨hrz.trans k4, by omega, k5, by omega, k3, hidK.out, rfl, rfl, rfl⟩
  · have hrc := ih d4 (m1 + 1) b l1 (by omega) zd4 (by omega) g3 (by omega) zl
    rw [show ((m1 + 1 : Nat) : Int) = (m1 : Int) + 1 by omega] at hrc
    have hrz := pdq_size (ltC cm) hs _ d4 (m1 + 1) b l1 true true (Nat.le_refl _) (by omega) (by omega) (by omega)
    rw [if_neg hsm] at hK3
    have hdec : decide (b - m1 ≥ q) = decide ((b : Int) - (m1 : Int) ≥ (q : Int)) := by rw [decide_eq_decide]; omega
    rw [hdec] at hK3
    have hid : Hid (a < b ∧ b - a ≤ b0 - a0 ∧ l1 ≤ 64 ∧ d4.size = n ∧ b ≤ n ∧ a ≤ m1 ∧ m1 < b) := ⟨⟨by omega, g4, zl, zd4, g3, p1.1, p1.2.1⟩⟩
    have hidK := Hid.mk hK3
    have hcm1 : ¬ (m1 : Int) - (a : Int) < (b : Int) - (m1 : Int) := by omega
    have hr1 : a ≤ m1 ∧ m1 < b ∧ b ≤ 4000000000 := by omega
    clear hK2 p2 hp2 hqI2 hz1 hz2 hpl z1 hs ih g1 g2 g3 g4 g5 hle hl hbz zl hm hn0 hab hb h50 hl0 q1 q2 z2 hK3 hsm
    generalize Sort.pdq (ltC cm) d4 (m1 + 1) b l1 true true = dd at *
    repeat' first | refine wr (by omega) ?_ | refine ln ?_ | refine stp lay_ok rfl ?_ | refine fin ?_ | refine n_thn ?_ | refine n_blk ?_ | refine e_thn ?_ | refine e_hit ?_ | refine e_miss rfl ?_ | refine r_thn ?_ | refine r_blk ?_ | refine e_rr ?_ | refine r_rr ?_ | refine e_cr ?_ | refine r_cr ?_ | refine .seq ?_ | refine reg ?_ | refine .block ?_ | refine .skip ?_ | refine .ret ?_ | refine .exit ?_ | refine cndT rfl ?_ | refine cndF rfl ?_ | refine c_dec rfl (fun hc => ?_) (fun hc => ?_) | refine c_ndec rfl (fun hc => ?_) (fun hc => ?_) | refine cnd rfl (fun hc => ?_) (fun hc => ?_) | ((first | refine o_none rfl ?_ | refine o_none_ ?_ | refine o_yes rfl rfl rfl ?_ | refine o_yes_ rfl rfl ?_); first | refine st_callF 0 (hp1) b85 rfl rfl rfl rfl rfl rfl (by (repeat' first | exact trivial | refine And.intro ?_ ?_ | rfl); first | done | fail) rfl ?_ | refine st_div rfl rfl hqI (by decide) ?_ | refine st_callF 0 (hrc) b58 rfl rfl rfl rfl rfl rfl (by (repeat' first | exact trivial | refine And.intro ?_ ?_ | rfl); first | done | fail) rfl ?_) | refine gd rfl rfl rfl (fun hg => ?_) (fun hg => ?_) | refine gn rfl rfl rfl (fun hg => ?_) (fun hg => ?_) | refine dwr (by omega) ?_ | refine dwl ?_ | refine dws lay_ok rfl rfl rfl rfl rfl rfl rfl ?_ | refine dwu lay_ok rfl rfl rfl rfl rfl rfl rfl rfl rfl ?_ | refine dw_end ?_ | refine dw_skip rfl rfl rfl ?_ | refine dwn lay_ok rfl rfl rfl rfl rfl ?_ | refine dwb rfl rfl rfl rfl rfl (by (first | refine st_callF 0 (hp1) b85 rfl rfl rfl rfl rfl rfl (by (repeat' first | exact trivial | refine And.intro ?_ ?_ | rfl); first | done | fail) rfl ?_ | refine st_div rfl rfl hqI (by decide) ?_ | refine st_callF 0 (hrc) b58 rfl rfl rfl rfl rfl rfl (by (repeat' first | exact trivial | refine And.intro ?_ ?_ | rfl); first | done | fail) rfl ?_); exact fin rfl) rfl rfl ?_ | refine dwg rfl rfl rfl rfl rfl (by (first | refine st_callF 0 (hp1) b85 rfl rfl rfl rfl rfl rfl (by (repeat' first | exact trivial | refine And.intro ?_ ?_ | rfl); first | done | fail) rfl ?_ | refine st_div rfl rfl hqI (by decide) ?_ | refine st_callF 0 (hrc) b58 rfl rfl rfl rfl rfl rfl (by (repeat' first | exact trivial | refine And.intro ?_ ?_ | rfl); first | done | fail) rfl ?_); exact fin rfl) rfl rfl rfl rfl rfl ?_ | refine dw_dec rfl rfl rfl (fun hg => ?_) (fun hg => ?_) | refine dw_ndec rfl rfl rfl (fun hg => ?_) (fun hg => ?_)
    all_goals first
      | (exfalso; omega)
      | skip
    refine n_rr ((a, m1, l1, decide ((b : Int) - (m1 : Int) ≥ (q : Int)), ap, dd, (a : Int), (m1 : Int), (l1 : Int))) ?_ (.of [0] (by (repeat' first | exact trivial | refine And.intro ?_ ?_ | rfl); first | done | fail) (by (repeat' first | exact trivial | refine And.intro ?_ ?_ | rfl); first | done | fail) rfl) ?_
    · have ⟨k1, k2, k3, k4, k5, k6, k7⟩ := hid.out
      show m1 - a < b - a
      omega
    · have ⟨k1, k2, k3, k4, k5, k6, k7⟩ := hid.out
      exact ⟨hrz.trans k4, k6, by omega, by omega, k3, hidK.out, rfl, rfl, rfl⟩
end Go.Proofs.YtmekcbbieacioaaGreatDoorFn
namespace Go.Proofs.YtmekcbbieacioaaGreatDoorFn
open Go.Proofs.YtmekcbbieacioaaGreatDoorAl Go.Proofs.Tryz
attribute [local irreducible] IntKind.wrap CodeOk OpsL OpG ACalls thn inBlk rndR cutR WkR Wk fnR DW ExtOk partsOf
theorem b60 : HasBody prog 60 := ⟨f60, func60, Option.some_ne_none _, by decide⟩
theorem b34 : HasBody prog 34 := ⟨f34, func34, Option.some_ne_none _, by decide⟩
theorem b33 : HasBody prog 33 := ⟨f33, func33, Option.some_ne_none _, by decide⟩
theorem b32 : HasBody prog 32 := ⟨f32, func32, Option.some_ne_none _, by decide⟩
/-! ### entries sorted by path -/
def cmS (a b : ByteArray) : Int := if strLt a b = true then -1 else if (!(strLt a b || decide (a = b))) = true then 1 else 0
def cmE (x y : EV) : Int := cmS x.path y.path
theorem nan_ok (a : ByteArray) : ACalls prog 60 0 [.st (.str a)] [] fun r h => r = B false ∧ h = [] := by
  refine fnC lay_ok func60 rfl rfl rfl rfl rfl ?_
  repeat' first | refine wr (by omega) ?_ | refine ln ?_ | refine stp lay_ok rfl ?_ | refine fin ?_ | refine n_thn ?_ | refine n_blk ?_ | refine e_thn ?_ | refine e_hit ?_ | refine e_miss rfl ?_ | refine r_thn ?_ | refine r_blk ?_ | refine e_rr ?_ | refine r_rr ?_ | refine e_cr ?_ | refine r_cr ?_ | refine .seq ?_ | refine reg ?_ | refine .block ?_ | refine .skip ?_ | refine .ret ?_ | refine .exit ?_ | refine cndT rfl ?_ | refine cndF rfl ?_ | refine c_dec rfl (fun hc => ?_) (fun hc => ?_) | refine c_ndec rfl (fun hc => ?_) (fun hc => ?_) | refine cnd rfl (fun hc => ?_) (fun hc => ?_) | refine gd rfl rfl rfl (fun hg => ?_) (fun hg => ?_) | refine gn rfl rfl rfl (fun hg => ?_) (fun hg => ?_)
  refine f_r [] rfl trivial rfl ⟨?_, rfl⟩
  simp only [ne_eq, not_true_eq_false, decide_false]
  rfl
theorem compare_ok (a b : ByteArray) : ACalls prog 34 0 [.st (.str a), .st (.str b)] [] fun r h => r = I (cmS a b) ∧ h = [] := by
  have h1 := nan_ok a
  have h2 := nan_ok b
  refine fnC lay_ok func34 rfl rfl rfl rfl rfl ?_
  repeat' first | refine wr (by omega) ?_ | refine ln ?_ | refine stp lay_ok rfl ?_ | refine fin ?_ | refine n_thn ?_ | refine n_blk ?_ | refine e_thn ?_ | refine e_hit ?_ | refine e_miss rfl ?_ | refine r_thn ?_ | refine r_blk ?_ | refine e_rr ?_ | refine r_rr ?_ | refine e_cr ?_ | refine r_cr ?_ | refine .seq ?_ | refine reg ?_ | refine .block ?_ | refine .skip ?_ | refine .ret ?_ | refine .exit ?_ | refine cndT rfl ?_ | refine cndF rfl ?_ | refine c_dec rfl (fun hc => ?_) (fun hc => ?_) | refine c_ndec rfl (fun hc => ?_) (fun hc => ?_) | refine cnd rfl (fun hc => ?_) (fun hc => ?_) | ((first | refine o_none rfl ?_ | refine o_none_ ?_ | refine o_yes rfl rfl rfl ?_ | refine o_yes_ rfl rfl ?_); first | refine st_pure (h1) b60 rfl rfl rfl rfl ?_ | refine st_pure (h2) b60 rfl rfl rfl rfl ?_) | refine gd rfl rfl rfl (fun hg => ?_) (fun hg => ?_) | refine gn rfl rfl rfl (fun hg => ?_) (fun hg => ?_)
  · refine f_r [] rfl trivial rfl ⟨?_, rfl⟩
    rw [cmS, if_pos hc]; rfl
  · refine f_r [] rfl trivial rfl ⟨?_, rfl⟩
    rename_i hc1
    rw [cmS, hc1, if_neg (by simp)]
    rw [hc1] at hc
    rw [if_pos hc]; rfl
  · refine f_r [] rfl trivial rfl ⟨?_, rfl⟩
    rename_i hc1
    rw [cmS, hc1, if_neg (by simp)]
    rw [hc1] at hc
    rw [if_neg (by rw [hc]; simp)]; rfl
theorem cmE_ok (x y : EV) : ACalls prog 33 0 [.st (.agg (rowE x)), .st (.agg (rowE y))] [] fun r h => r = I (cmE x y) ∧ h = [] := by
  have h1 := compare_ok x.path y.path
  refine fnC lay_ok func33 rfl rfl rfl rfl rfl ?_
  repeat' first | refine wr (by omega) ?_ | refine ln ?_ | refine stp lay_ok rfl ?_ | refine fin ?_ | refine n_thn ?_ | refine n_blk ?_ | refine e_thn ?_ | refine e_hit ?_ | refine e_miss rfl ?_ | refine r_thn ?_ | refine r_blk ?_ | refine e_rr ?_ | refine r_rr ?_ | refine e_cr ?_ | refine r_cr ?_ | refine .seq ?_ | refine reg ?_ | refine .block ?_ | refine .skip ?_ | refine .ret ?_ | refine .exit ?_ | refine cndT rfl ?_ | refine cndF rfl ?_ | refine c_dec rfl (fun hc => ?_) (fun hc => ?_) | refine c_ndec rfl (fun hc => ?_) (fun hc => ?_) | refine cnd rfl (fun hc => ?_) (fun hc => ?_) | ((first | refine o_none rfl ?_ | refine o_none_ ?_ | refine o_yes rfl rfl rfl ?_ | refine o_yes_ rfl rfl ?_); first | refine st_pure (h1) b34 rfl rfl rfl rfl ?_) | refine gd rfl rfl rfl (fun hg => ?_) (fun hg => ?_) | refine gn rfl rfl rfl (fun hg => ?_) (fun hg => ?_)
  refine f_r [] rfl trivial rfl ⟨?_, rfl⟩
  rfl
theorem cmE_lt (x y : EV) : ltC cmE x y = Sort.ltStr x.path.data.toList y.path.data.toList := by
  show decide (cmS x.path y.path < 0) = decide (x.path.data.toList < y.path.data.toList)
  rw [← Go.Proofs.bytesLess_eq]
  show _ = strLt x.path y.path
  unfold cmS
  cases h : strLt x.path y.path with
  | true => simp
  | false =>
    simp only [Bool.false_eq_true, if_false]
    split <;> simp
theorem cmE_swo : Sort.SWO (ltC cmE) where
  irrefl x := by rw [cmE_lt]; exact Sort.swo_ltStr.irrefl _
  trans x y z := by rw [cmE_lt, cmE_lt, cmE_lt]; exact Sort.swo_ltStr.trans _ _ _
  ntrans x y z := by rw [cmE_lt, cmE_lt, cmE_lt]; exact Sort.swo_ltStr.ntrans _ _ _
def srtE (l : List EV) : List EV := (Sort.pdq (ltC cmE) l.toArray 0 l.length (Sort.bitsLen l.length) true true).toList
theorem srtE_facts (l : List EV) : (srtE l).Perm l ∧ (srtE l).Pairwise fun x y => ltC cmE y x = false := by
  have h := Sort.pdq_sorts (ltC cmE) cmE_swo l.toArray 0 l.length (Sort.bitsLen l.length) true true (Nat.zero_le _) (by simp) (.inl rfl)
  unfold srtE
  generalize Sort.pdq (ltC cmE) l.toArray 0 l.length (Sort.bitsLen l.length) true true = d at *
  obtain ⟨⟨h1, _, h2⟩, h3⟩ := h
  have hs : d.size = l.length := by simpa using h1
  have ht : d.toList.take l.length = d.toList := List.take_of_length_le (by simp [hs])
  refine ⟨by have := h2; rw [hs.symm] at this; simpa [hs, ht] using this, ?_⟩
  rw [List.pairwise_iff_getElem]
  intro i j hi hj hij
  have := h3 i j (Nat.zero_le _) hij (by rw [← hs]; simpa using hj)
  rw [getElem!_pos d i (by simpa using hi), getElem!_pos d j (by simpa using hj)] at this
  simpa using this
set_option maxHeartbeats 4000000 in
theorem sort_ok (l : List EV) (hn : l.length < 50) :
    ACalls prog 32 1 [.lsl 0 3 0 l.length, fnG 33] [(0, .arr 3 (l.map rowE))] fun r h => r = .tuple [] ∧ h = [(0, .arr 3 ((srtE l).map rowE))] := by
  have hl := bits_le l.length (by omega)
  have h1 := pdqsort_ok 33 b33 cmE cmE_ok cmE_swo l.length (by omega) (l.length + 1) l.toArray 0 l.length (Sort.bitsLen l.length) (by omega) (by simp) (by omega) (Nat.le_refl _) (by omega) (by omega)
  have hb := blen_ok l.length (by omega)
  have e1 : rA l.toArray = l.map rowE := by simp
  rw [e1] at h1
  rw [show UN l.length = .st (.int .u64 (IntKind.u64.wrap (l.length : Int))) from congrArg (fun z : Int => AV.st (.int .u64 z)) (uwrap l.length (by omega)).symm] at hb
  refine fnC lay_ok func32 rfl rfl rfl rfl rfl ?_
  repeat' first | refine wr (by omega) ?_ | refine ln ?_ | refine stp lay_ok rfl ?_ | refine fin ?_ | refine n_thn ?_ | refine n_blk ?_ | refine e_thn ?_ | refine e_hit ?_ | refine e_miss rfl ?_ | refine r_thn ?_ | refine r_blk ?_ | refine e_rr ?_ | refine r_rr ?_ | refine e_cr ?_ | refine r_cr ?_ | refine .seq ?_ | refine reg ?_ | refine .block ?_ | refine .skip ?_ | refine .ret ?_ | refine .exit ?_ | refine cndT rfl ?_ | refine cndF rfl ?_ | refine c_dec rfl (fun hc => ?_) (fun hc => ?_) | refine c_ndec rfl (fun hc => ?_) (fun hc => ?_) | refine cnd rfl (fun hc => ?_) (fun hc => ?_) | ((first | refine o_none rfl ?_ | refine o_none_ ?_ | refine o_yes rfl rfl rfl ?_ | refine o_yes_ rfl rfl ?_); first | refine st_pure (hb) b59 rfl rfl rfl rfl ?_ | refine st_callF 0 (h1) b58 rfl rfl rfl rfl rfl rfl (by (repeat' first | exact trivial | refine And.intro ?_ ?_ | rfl); first | done | fail) rfl ?_) | refine gd rfl rfl rfl (fun hg => ?_) (fun hg => ?_) | refine gn rfl rfl rfl (fun hg => ?_) (fun hg => ?_)
  refine f_rn [(0, .arr 3 ((srtE l).map rowE))] rfl (by (repeat' first | exact trivial | refine And.intro ?_ ?_ | rfl); first | done | fail) rfl ⟨?_, rfl⟩
  rfl
end Go.Proofs.YtmekcbbieacioaaGreatDoorFn
namespace Go.Proofs.YtmekcbbieacioaaGreatDoorFn
open Go.Proofs.YtmekcbbieacioaaGreatDoorAl Go.Proofs.Tryz
open Go.RowKit Go.Extern.Stop Go.Stop Go.Extern
/-! ### errors.As at a concrete target, below the A-logic (after the kit's worked example of it) -/
theorem rl_valueOfP (t : Addr) (w : World) : (ReflectliteValue.unpack (.iface 88 (.pointer (some t)))).run prog w
    = .ok (.agg #[.pointer (some ⟨4, 88, none⟩), .pointer (some ⟨w.heap.size, 0, none⟩), .int .u64 150]) (w.alloc (.cells #[.pointer (some t)] 88)) := by kernel_rfl
theorem rl_typeP (a : Addr) (w : World) : (ReflectliteValue.methodAny (ReflectliteValue.valueError "reflectlite.Value.Type" 0) (fun t _ _ _ => ReflectliteType.toType t) #[.agg #[.pointer (some ⟨4, 88, none⟩), .pointer (some a), .int .u64 150]]).run prog w
    = .ok (.iface 139 (.agg #[.pointer (some ⟨4, 88, none⟩)])) w := by kernel_rfl
theorem rl_methodKind (h : Value) (w : World) : (Go.method (prog.types.size + Made.depth) 139 (.agg #[h]) "Kind").run prog w = .ok (141, h) w := by kernel_rfl
theorem rl_kindP (w : World) : ((ReflectliteType.abiMethod fun t => (fun a : Nat => Value.int IntKind.u8 (a : Int)) <$> Rtype.kind t) #[.pointer (some ⟨4, 88, none⟩)]).run prog w = .ok (.int .u8 22) w := by kernel_rfl
theorem rl_kindS (w : World) : ((ReflectliteType.abiMethod fun t => (fun a : Nat => Value.int IntKind.u8 (a : Int)) <$> Rtype.kind t) #[.pointer (some ⟨4, 66, none⟩)]).run prog w = .ok (.int .u8 22) w := by kernel_rfl
theorem rl_m (z : Sem Value) (f : TypeId → Addr → Nat → Nat → Sem Value) (v : Value) :
    ReflectliteValue.method z f #[v] = (do match ← ReflectliteValue.parts v with | none => z | some (t, a, fl) => f t a fl (fl % 32)) := rfl
theorem rl_partsP (a : Addr) (w : World) : (ReflectliteValue.parts (.agg #[.pointer (some ⟨4, 88, none⟩), .pointer (some a), .int .u64 150])).run prog w = .ok (some (88, a, 150)) w := by kernel_rfl
theorem rl_undP : prog.underlying 88 = some (.pointer 66) := by kernel_rfl
theorem rl_undS : prog.underlying 66 = some (.pointer 68) := by kernel_rfl
theorem rl_isNil (a p : Addr) (W : World) (ha : W.cell? a = some (.pointer (some p))) :
    (ReflectliteValue.method (ReflectliteValue.valueError "reflectlite.Value.IsNil" 0) ReflectliteValue.isNil #[.agg #[.pointer (some ⟨4, 88, none⟩), .pointer (some a), .int .u64 150]]).run prog W = .ok (.bool false) W := by
  rw [rl_m]
  simp only [Sem.run_bind, rl_partsP, Result.andThen]
  simp [ReflectliteValue.isNil, loadVar, isAgg, underlying, rl_undP, ha, Result.andThen]
theorem rl_methodElem (h : Value) (w : World) : (Go.method (prog.types.size + Made.depth) 139 (.agg #[h]) "Elem").run prog w = .ok (154, .agg #[h]) w := by kernel_rfl
theorem rl_methodImplements (h : Value) (w : World) : (Go.method (prog.types.size + Made.depth) 139 (.agg #[h]) "Implements").run prog w = .ok (155, .agg #[h]) w := by kernel_rfl
theorem rl_methodAssignableTo (h : Value) (w : World) : (Go.method (prog.types.size + Made.depth) 139 (.agg #[h]) "AssignableTo").run prog w = .ok (152, .agg #[h]) w := by kernel_rfl
theorem rl_elemP (w : World) : (ReflectliteType.method ReflectliteType.elem #[.agg #[.pointer (some ⟨4, 88, none⟩)]]).run prog w = .ok (.iface 139 (.agg #[.pointer (some ⟨4, 66, none⟩)])) w := by kernel_rfl
theorem rl_implementsS (w : World) : (ReflectliteType.relation "Implements" ReflectliteType.implements_ #[.agg #[.pointer (some ⟨4, 66, none⟩)], .iface 139 (.agg #[.pointer (some ⟨4, 29, none⟩)])]).run prog w = .ok (.bool true) w := by kernel_rfl
theorem rl_typeOfS (v : Value) (w : World) : (ReflectliteType.typeOf #[.iface 66 v]).run prog w = .ok (.iface 139 (.agg #[.pointer (some ⟨4, 66, none⟩)])) w := by kernel_rfl
theorem rl_assignableS (w : World) : (ReflectliteType.relation "AssignableTo" ReflectliteType.assignableTo #[.agg #[.pointer (some ⟨4, 66, none⟩)], .iface 139 (.agg #[.pointer (some ⟨4, 66, none⟩)])]).run prog w = .ok (.bool true) w := by kernel_rfl
theorem rl_valueOfS (e : Addr) (w : World) : (ReflectliteValue.unpack (.iface 66 (.pointer (some e)))).run prog w
    = .ok (.agg #[.pointer (some ⟨4, 66, none⟩), .pointer (some ⟨w.heap.size, 0, none⟩), .int .u64 150]) (w.alloc (.cells #[.pointer (some e)] 66)) := by kernel_rfl
theorem rl_elemOfP (w : World) : (Rtype.elem? 88).run prog w = .ok (some 66) w := by kernel_rfl
theorem rl_mkS (p : Addr) (w : World) : (ReflectliteValue.mk 66 p ReflectliteValue.flagAddr).run prog w = .ok (.agg #[.pointer (some ⟨4, 66, none⟩), .pointer (some p), .int .u64 406]) w := by kernel_rfl
theorem rl_elemV (a p : Addr) (W : World) (ha : W.cell? a = some (.pointer (some p))) :
    (ReflectliteValue.method (ReflectliteValue.valueError "reflectlite.Value.Elem" 0) ReflectliteValue.elem #[.agg #[.pointer (some ⟨4, 88, none⟩), .pointer (some a), .int .u64 150]]).run prog W
      = .ok (.agg #[.pointer (some ⟨4, 66, none⟩), .pointer (some p), .int .u64 406]) W := by
  rw [rl_m]
  simp only [Sem.run_bind, rl_partsP, Result.andThen]
  simp [ReflectliteValue.elem, loadVar, isAgg, underlying, rl_undP, ha, Result.andThen, rl_elemOfP, rl_mkS]
theorem rl_s (v x : Value) : ReflectliteValue.set #[v, x] = (do
    let (some (dst, a, fl), some (src, b, _)) := (← ReflectliteValue.parts v, ← ReflectliteValue.parts x)
      | unsupported (.noEntry "extern/(internal/reflectlite.Value).Set.zeroValue")
    if fl / ReflectliteValue.flagAddr % 2 == 0 then unsupported (.noEntry "extern/(internal/reflectlite.Value).Set.unaddressable")
    let val ← loadVar src b
    if ← Rtype.directlyAssignable dst src then storeVar dst a val
    else if ← Rtype.implements dst src then
      if (← Rtype.kind src) == 20 then
        match val with
        | .nilIface => unsupported (.noEntry "extern/reflectlite: a nil value of one interface type handed on as a value of another")
        | _ => storeVar dst a val
      else storeVar dst a (.iface src val)
    else panicString ("reflectlite.Set: value of type " ++ (← Rtype.spelt src) ++ " is not assignable to type " ++ (← Rtype.spelt dst))
    pure (.tuple #[])) := rfl
theorem rl_partsA (a : Addr) (w : World) : (ReflectliteValue.parts (.agg #[.pointer (some ⟨4, 66, none⟩), .pointer (some a), .int .u64 406])).run prog w = .ok (some (66, a, 406)) w := by kernel_rfl
theorem rl_partsS (a : Addr) (w : World) : (ReflectliteValue.parts (.agg #[.pointer (some ⟨4, 66, none⟩), .pointer (some a), .int .u64 150])).run prog w = .ok (some (66, a, 150)) w := by kernel_rfl
theorem rl_directS (w : World) : (Rtype.directlyAssignable 66 66).run prog w = .ok true w := by kernel_rfl
theorem rl_sizeS (w : World) : (sizeOf 66).run prog w = .ok 1 w := by kernel_rfl
theorem rl_set (ta b e : Addr) (old : Value) (W : World) (hb : W.cell? b = some (.pointer (some e))) (ht : W.cell? ta = some old) (hf : W.frozen? ta = false) :
    (ReflectliteValue.set #[.agg #[.pointer (some ⟨4, 66, none⟩), .pointer (some ta), .int .u64 406], .agg #[.pointer (some ⟨4, 66, none⟩), .pointer (some b), .int .u64 150]]).run prog W
      = .ok (.tuple #[]) (W.setCell ta (.pointer (some e))) := by
  rw [rl_s]
  simp only [Sem.run_bind, rl_partsA, rl_partsS, Result.andThen]
  simp [ReflectliteValue.flagAddr, loadVar, isAgg, underlying, rl_undS, hb, Result.andThen, rl_directS, storeVar, Value.cells, storeCells, Addr.add]
  rw [run_store prog W ta _ _ (by rfl)]
  simp [ht, hf]
end Go.Proofs.YtmekcbbieacioaaGreatDoorFn
namespace Go.Proofs.YtmekcbbieacioaaGreatDoorFn
open Go.Proofs.YtmekcbbieacioaaGreatDoorAl Go.Proofs.Tryz
open Go.RowKit Go.Extern.Stop Go.Stop Go.Extern
abbrev asW (e t : Addr) (w : World) : World := ((((w.alloc (.cells #[.pointer (some t)] 88)).alloc (.cells #[.pointer (some ⟨4, 88, none⟩), .pointer (some ⟨w.heap.size, 0, none⟩), .int .u64 150] 106)).alloc (.cells #[.pointer (some ⟨4, 88, none⟩), .pointer (some ⟨w.heap.size, 0, none⟩), .int .u64 150] 106)).alloc (.cells #[.pointer (some e)] 66)).setCell t (.pointer (some e))
set_option maxHeartbeats 8000000 in
theorem as_hit (e t : Addr) (old : Value) (w : World) (hg : w.cell? ⟨0, 0, none⟩ = some (.iface 139 (.agg #[.pointer (some ⟨4, 29, none⟩)]))) (ht0 : w.cell? t = some old) (hf0 : w.frozen? t = false) :
    Calls prog 51 #[.iface 66 (.pointer (some e)), .iface 88 (.pointer (some t))] w fun ev w' => ev = .returned (.bool true) ∧ w' = asW e t w := by
  have h6 := @run_callFunc_extern prog 70 _ (fun args => ReflectliteValue.unpack (args.getD 0 (.tuple #[]))) func70 (by kernel_rfl) (by kernel_rfl) (by kernel_rfl) (by kernel_rfl)
  have h7 := @run_callFunc_extern prog 71 _ (ReflectliteValue.methodAny (ReflectliteValue.valueError "reflectlite.Value.Type" 0) (fun t _ _ _ => ReflectliteType.toType t)) func71 (by kernel_rfl) (by kernel_rfl) (by kernel_rfl) (by kernel_rfl)
  have h8 := @run_callFunc_extern prog 72 _ (ReflectliteValue.method (ReflectliteValue.valueError "reflectlite.Value.IsNil" 0) ReflectliteValue.isNil) func72 (by kernel_rfl) (by kernel_rfl) (by kernel_rfl) (by kernel_rfl)
  have h27 := @run_callFunc_extern prog 141 _ (ReflectliteType.abiMethod fun t => do pure (.int .u8 (← Rtype.kind t))) func141 (by kernel_rfl) (by kernel_rfl) (by kernel_rfl) (by kernel_rfl)
  have h37 := @run_callFunc_extern prog 154 _ (ReflectliteType.method ReflectliteType.elem) func154 (by kernel_rfl) (by kernel_rfl) (by kernel_rfl) (by kernel_rfl)
  have h38 := @run_callFunc_extern prog 155 _ (ReflectliteType.relation "Implements" ReflectliteType.implements_) func155 (by kernel_rfl) (by kernel_rfl) (by kernel_rfl) (by kernel_rfl)
  have h10 := @run_callFunc_extern prog 74 _ ReflectliteType.typeOf func74 (by kernel_rfl) (by kernel_rfl) (by kernel_rfl) (by kernel_rfl)
  have h35 := @run_callFunc_extern prog 152 _ (ReflectliteType.relation "AssignableTo" ReflectliteType.assignableTo) func152 (by kernel_rfl) (by kernel_rfl) (by kernel_rfl) (by kernel_rfl)
  have h11 := @run_callFunc_extern prog 94 _ (ReflectliteValue.method (ReflectliteValue.valueError "reflectlite.Value.Elem" 0) ReflectliteValue.elem) func94 (by kernel_rfl) (by kernel_rfl) (by kernel_rfl) (by kernel_rfl)
  have h12 := @run_callFunc_extern prog 95 _ ReflectliteValue.set func95 (by kernel_rfl) (by kernel_rfl) (by kernel_rfl) (by kernel_rfl)
  have sz : prog.types.size + Made.depth = 309 := by kernel_rfl
  have tO := rl_typeOfS
  have mA := rl_methodAssignableTo
  have a25 := rl_assignableS
  have v25 := rl_valueOfS
  have f6 := rl_valueOfP
  have f7 := rl_typeP
  have mK := rl_methodKind
  have mE := rl_methodElem
  have mI := rl_methodImplements
  rw [sz] at *
  have k27 := rl_kindP
  have k25 := rl_kindS
  have e27 := rl_elemP
  have i25 := rl_implementsS
  have n8 := rl_isNil ⟨w.heap.size, 0, none⟩ t ((w.alloc (.cells #[.pointer (some t)] 88)).alloc (.cells #[.pointer (some ⟨4, 88, none⟩), .pointer (some ⟨w.heap.size, 0, none⟩), .int .u64 150] 106)) (by simp)
  have hlt : 0 < w.heap.size := by
    rcases Nat.eq_zero_or_pos w.heap.size with h0 | h
    · simp [World.cell?, h0] at hg
    · exact h
  have hg2 : ((w.alloc (.cells #[.pointer (some t)] 88)).alloc (.cells #[.pointer (some ⟨4, 88, none⟩), .pointer (some ⟨w.heap.size, 0, none⟩), .int .u64 150] 106)).cell? ⟨0, 0, none⟩ = some (.iface 139 (.agg #[.pointer (some ⟨4, 29, none⟩)])) := by
    rw [World.cell?_alloc_lt _ _ ⟨0, 0, none⟩ (by simp), World.cell?_alloc_lt _ _ ⟨0, 0, none⟩ hlt]; exact hg
  have htl : t.block < w.heap.size := by
    rcases Nat.lt_or_ge t.block w.heap.size with h | h
    · exact h
    · simp [World.cell?, Array.getElem?_eq_none h] at ht0
  have el := rl_elemV ⟨w.heap.size, 0, none⟩ t (((w.alloc (.cells #[.pointer (some t)] 88)).alloc (.cells #[.pointer (some ⟨4, 88, none⟩), .pointer (some ⟨w.heap.size, 0, none⟩), .int .u64 150] 106)).alloc (.cells #[.pointer (some ⟨4, 88, none⟩), .pointer (some ⟨w.heap.size, 0, none⟩), .int .u64 150] 106)) (by rw [World.cell?_alloc_lt _ _ ⟨w.heap.size, 0, none⟩ (by simp; omega)]; simp)
  have st := rl_set t ⟨w.heap.size + 1 + 1 + 1, 0, none⟩ e old ((((w.alloc (.cells #[.pointer (some t)] 88)).alloc (.cells #[.pointer (some ⟨4, 88, none⟩), .pointer (some ⟨w.heap.size, 0, none⟩), .int .u64 150] 106)).alloc (.cells #[.pointer (some ⟨4, 88, none⟩), .pointer (some ⟨w.heap.size, 0, none⟩), .int .u64 150] 106)).alloc (.cells #[.pointer (some e)] 66))
    (by rw [World.cell?_alloc_at _ _ _ _ (by simp)]; rfl)
    (by rw [World.cell?_alloc_lt _ _ t (by simp; omega), World.cell?_alloc_lt _ _ t (by simp; omega), World.cell?_alloc_lt _ _ t (by simp; omega), World.cell?_alloc_lt _ _ t htl]; exact ht0)
    (by rw [World.frozen?_alloc_old _ _ t (by simp; omega), World.frozen?_alloc_old _ _ t (by simp; omega), World.frozen?_alloc_old _ _ t (by simp; omega), World.frozen?_alloc_old _ _ t (Nat.ne_of_lt htl)]; exact hf0)
  go_enter func51, ntmps51
  go_wp2
  refine wp_loop_rounds 1 ?_
  rw [rounds_succ]
  go_wp2
  go_ret
  exact ⟨rfl, rfl⟩
end Go.Proofs.YtmekcbbieacioaaGreatDoorFn
namespace Go.Proofs.YtmekcbbieacioaaGreatDoorFn
open Go.Proofs.YtmekcbbieacioaaGreatDoorAl Go.Proofs.Tryz
open Go.RowKit Go.Extern.Stop Go.Stop Go.Extern
theorem rl_typeOfC (v : Value) (w : World) : (ReflectliteType.typeOf #[.iface 49 v]).run prog w = .ok (.iface 139 (.agg #[.pointer (some ⟨4, 49, none⟩)])) w := by kernel_rfl
theorem rl_methodComparable (h : Value) (w : World) : (Go.method (prog.types.size + Made.depth) 139 (.agg #[h]) "Comparable").run prog w = .ok (153, .agg #[h]) w := by kernel_rfl
theorem rl_comparableC (w : World) : (ReflectliteType.method (fun t => do Rtype.noPackHeld "Comparable" t; pure (.bool (← typeInfo t).comparable)) #[.agg #[.pointer (some ⟨4, 49, none⟩)]]).run prog w = .ok (.bool true) w := by kernel_rfl
noncomputable def msOf (t : TypeId) : Array (String × TypeId) := match prog.underlying t with | some (.interface ms) => ms | _ => #[]
theorem rl_undE : prog.underlying 29 = some (.interface (msOf 29)) := by kernel_rfl
theorem rl_noIs (v : Value) (xT : TypeId) (w : World) : (Instr.typeAssert (.iface 66 v) xT 151 true).run prog w = .ok (.tuple #[.nilIface, .bool false]) w := by
  have h1 : prog.underlying 151 = some (.interface (msOf 151)) := by kernel_rfl
  have h2 : (prog.info? 66).map (fun i => (lacking (msOf 151) i.methods).isEmpty) = some false := by kernel_rfl
  exact run_typeAssert_lacksB h1 h2 (by kernel_rfl) v xT w
theorem rl_unw (v : Value) (xT : TypeId) (w : World) : (Instr.typeAssert (.iface 66 v) xT 146 true).run prog w = .ok (.tuple #[.iface 66 v, .bool true]) w := by
  have h1 : prog.underlying 146 = some (.interface (msOf 146)) := by kernel_rfl
  have h2 : (prog.info? 66).map (fun i => (lacking (msOf 146) i.methods).isEmpty) = some true := by kernel_rfl
  exact run_typeAssert_hasB h1 h2 v xT w
theorem rl_methodUnwrap (v : Value) (w : World) : (Go.method (prog.types.size + Made.depth) 66 v "Unwrap").run prog w = .ok (146, v) w := by kernel_rfl
theorem rl_neSC (v x : Value) (w : World) : (binOp .eql 29 (.iface 66 v) (.iface 49 x)).run prog w = .ok (.bool false) w := by
  exact run_eql_iface_types _ _ v x rl_undE (by decide) w
theorem rl_eqCC (z : Int) (w : World) : (binOp .eql 29 (.iface 49 (.int .i64 z)) (.iface 49 (.int .i64 z))).run prog w = .ok (.bool true) w := by
  have h : (binOp .eql 29 (.iface 49 (.int .i64 z)) (.iface 49 (.int .i64 z))).run prog w = .ok (.bool (z == z)) w := by kernel_rfl
  rw [h]; simp
theorem rl_nilE (u : TypeId) (x : Value) (w : World) : (binOp .eql 29 (.iface u x) .nilIface).run prog w = .ok (.bool false) w := run_eql_iface_nil w _ (by kernel_rfl) u x
end Go.Proofs.YtmekcbbieacioaaGreatDoorFn
namespace Go.Proofs.YtmekcbbieacioaaGreatDoorFn
open Go.Proofs.YtmekcbbieacioaaGreatDoorAl Go.Proofs.Tryz
open Go.RowKit Go.Extern.Stop Go.Stop Go.Extern
theorem unwrap_raw (b o : Nat) (v at0 : Value) (w : World) (h0 : w.cell? ⟨b, o, none⟩ = some at0) (h1 : w.cell? ⟨b, o + 1, none⟩ = some v) : Calls prog 146 #[.pointer (some ⟨b, o, none⟩)] w fun ev w' => ev = .returned v ∧ w' = w := by
  have hf := func146
  go_enter hf, ntmps146
  go_wp2
  go_ret
  exact ⟨rfl, rfl⟩
set_option maxHeartbeats 8000000 in
theorem is_hit (b o : Nat) (z : Int) (at0 : Value) (w : World) (h0 : w.cell? ⟨b, o, none⟩ = some at0) (h1 : w.cell? ⟨b, o + 1, none⟩ = some (.iface 49 (.int .i64 z))) :
    Calls prog 75 #[.iface 66 (.pointer (some ⟨b, o, none⟩)), .iface 49 (.int .i64 z), .bool true] w fun ev w' => ev = .returned (.bool true) ∧ w' = w := by
  have sz : prog.types.size + Made.depth = 309 := by kernel_rfl
  have mU := rl_methodUnwrap
  rw [sz] at mU
  have e1 := rl_neSC
  have e2 := rl_eqCC
  have n1 := rl_nilE
  have a1 := rl_noIs
  have a2 := rl_unw
  go_enter func75, ntmps75
  go_wp2
  refine wp_loop_rounds 2 ?_
  rw [rounds_succ]
  go_wp2_with (go_at_call 146; refine (unwrap_raw b o _ at0 _ h0 h1).mono ?_; rintro e w' ⟨rfl, rfl⟩)
  rw [rounds_succ]
  go_wp2
  go_ret
  exact ⟨rfl, rfl⟩
end Go.Proofs.YtmekcbbieacioaaGreatDoorFn
namespace Go.Proofs.YtmekcbbieacioaaGreatDoorFn
open Go.Proofs.YtmekcbbieacioaaGreatDoorAl Go.Proofs.Tryz
open Go.RowKit Go.Extern.Stop Go.Stop Go.Extern
set_option maxHeartbeats 8000000 in
set_option maxRecDepth 20000 in
theorem errIs_hit (b o : Nat) (z : Int) (at0 : Value) (w : World) (h0 : w.cell? ⟨b, o, none⟩ = some at0) (h1 : w.cell? ⟨b, o + 1, none⟩ = some (.iface 49 (.int .i64 z))) :
    Calls prog 52 #[.iface 66 (.pointer (some ⟨b, o, none⟩)), .iface 49 (.int .i64 z)] w fun ev w' => ev = .returned (.bool true) ∧ w' = w := by
  have h10 := @run_callFunc_extern prog 74 _ ReflectliteType.typeOf func74 (by kernel_rfl) (by kernel_rfl) (by kernel_rfl) (by kernel_rfl)
  have h11 := @run_callFunc_extern prog 153 _ (ReflectliteType.method (fun t => do Rtype.noPackHeld "Comparable" t; pure (.bool (← typeInfo t).comparable))) func153 (by kernel_rfl) (by kernel_rfl) (by kernel_rfl) (by kernel_rfl)
  have sz : prog.types.size + Made.depth = 309 := by kernel_rfl
  have mC := rl_methodComparable
  rw [sz] at mC
  have tO := rl_typeOfC
  have cC : ∀ w : World, (ReflectliteType.method (fun t => do
      Rtype.noPackHeld "Comparable" t
      (fun a : TypeInfo => Value.bool a.comparable) <$> typeInfo t) #[.agg #[.pointer (some ⟨4, 49, none⟩)]]).run prog w = .ok (.bool true) w := by
    intro w
    kernel_rfl
  have n1 := rl_nilE
  go_enter func52, ntmps52
  go_wp2_with (go_at_call 75; refine (is_hit b o z at0 _ h0 h1).mono ?_; rintro e w' ⟨rfl, rfl⟩)
  go_ret
  exact ⟨rfl, rfl⟩
set_option maxHeartbeats 8000000 in
set_option maxRecDepth 20000 in
theorem isLaw_raw (b o : Nat) (at0 z : Int) (w : World) (hg : w.cell? ⟨0, 0, none⟩ = some (.iface 139 (.agg #[.pointer (some ⟨4, 29, none⟩)])))
    (h0 : w.cell? ⟨b, o, none⟩ = some (.int .i64 at0)) (h1 : w.cell? ⟨b, o + 1, none⟩ = some (.iface 49 (.int .i64 z))) :
    Calls prog 27 #[.iface 66 (.pointer (some ⟨b, o, none⟩)), .int .i64 at0, .int .i64 z] w fun ev w' => ev = .returned (.bool true) ∧ w' = asW ⟨b, o, none⟩ ⟨w.heap.size, 0, none⟩ (w.alloc (.cells #[.pointer none] 66)) := by
  have lt : ∀ b off v, w.cell? ⟨b, off, none⟩ = some v → b < w.heap.size := fun b off v h => by
    rcases Nat.lt_or_ge b w.heap.size with h' | h'
    · exact h'
    · simp [World.cell?, Array.getElem?_eq_none h'] at h
  have hlt0 := lt 0 0 _ hg
  have hltb := lt b o _ h0
  have hgA : (w.alloc (.cells #[.pointer none] 66)).cell? ⟨0, 0, none⟩ = some (.iface 139 (.agg #[.pointer (some ⟨4, 29, none⟩)])) := by
    rw [World.cell?_alloc_lt _ _ ⟨0, 0, none⟩ hlt0]; exact hg
  have htA : (w.alloc (.cells #[.pointer none] 66)).cell? ⟨w.heap.size, 0, none⟩ = some (.pointer none) := by simp
  have hfA : (w.alloc (.cells #[.pointer none] 66)).frozen? ⟨w.heap.size, 0, none⟩ = false := by simp
  have old : ∀ off v, w.cell? ⟨b, off, none⟩ = some v → (asW ⟨b, o, none⟩ ⟨w.heap.size, 0, none⟩ (w.alloc (.cells #[.pointer none] 66))).cell? ⟨b, off, none⟩ = some v := fun off v h => by
    unfold asW
    rw [World.cell?_setCell_other _ _ _ _ (by intro h; have := congrArg Addr.block h; simp at this; omega)]
    rw [World.cell?_alloc_lt _ _ ⟨b, off, none⟩ (by simp; omega), World.cell?_alloc_lt _ _ ⟨b, off, none⟩ (by simp; omega), World.cell?_alloc_lt _ _ ⟨b, off, none⟩ (by simp; omega), World.cell?_alloc_lt _ _ ⟨b, off, none⟩ (by simp; omega), World.cell?_alloc_lt _ _ ⟨b, off, none⟩ hltb]; exact h
  have hs : (asW ⟨b, o, none⟩ ⟨w.heap.size, 0, none⟩ (w.alloc (.cells #[.pointer none] 66))).cell? ⟨w.heap.size, 0, none⟩ = some (.pointer (some ⟨b, o, none⟩)) := by
    refine World.cell?_setCell_same _ _ _ (u := .pointer none) ?_
    rw [World.cell?_alloc_lt _ _ ⟨w.heap.size, 0, none⟩ (by simp; omega), World.cell?_alloc_lt _ _ ⟨w.heap.size, 0, none⟩ (by simp; omega), World.cell?_alloc_lt _ _ ⟨w.heap.size, 0, none⟩ (by simp; omega), World.cell?_alloc_lt _ _ ⟨w.heap.size, 0, none⟩ (by simp)]; exact htA
  have o0 := old o _ h0
  have o1 := old (o + 1) _ h1
  have hA := as_hit ⟨b, o, none⟩ ⟨w.heap.size, 0, none⟩ (.pointer none) _ hgA htA hfA
  generalize hW : asW ⟨b, o, none⟩ ⟨w.heap.size, 0, none⟩ (w.alloc (.cells #[.pointer none] 66)) = W at *
  have e0 : ∀ W : World, (binOp .neq 29 (.iface 66 (.pointer (some ⟨b, o, none⟩))) (.iface 66 (.pointer (some ⟨b, o, none⟩)))).run prog W = .ok (.bool false) W := by
    intro W
    have hi : ∃ i, (typeInfo 66).run prog W = .ok i W ∧ i.comparable = true := ⟨(prog.info? 66).getD default, by kernel_rfl, by kernel_rfl⟩
    obtain ⟨i, i1, i2⟩ := hi
    simp only [binOp]
    simp [Op.equal, Op.maxDepth, run_equalIn_iface_same W 9998 29 66 68 i 1 (by kernel_rfl) i1 i2 rl_undS (by kernel_rfl) ⟨b, o, none⟩]
  have e2 := rl_eqCC z
  go_enter func27, ntmps27
  go_wp2_with (first | (go_at_call 51; refine hA.mono ?_; rintro e w' ⟨rfl, rfl⟩) | (go_at_call 52; refine (errIs_hit b o z _ _ o0 o1).mono ?_; rintro e w' ⟨rfl, rfl⟩))
  go_ret
  exact ⟨rfl, rfl⟩
end Go.Proofs.YtmekcbbieacioaaGreatDoorFn
namespace Go.Proofs.YtmekcbbieacioaaGreatDoorFn
open Go.Proofs.YtmekcbbieacioaaGreatDoorAl Go.Proofs.Tryz
open Go.RowKit Go.Extern.Stop Go.Stop Go.Extern
/-! ### becketlaw00.Is in the A-logic: the laid variable's block is a fact -/
def LaidE (o : Obj) : Prop := ∃ cs T fr, o = .cells cs T fr ∧ cs[0]? = some (.iface 139 (.agg #[.pointer (some ⟨4, 29, none⟩)]))
theorem asW_heap (e t : Addr) (w : World) (k : Nat) (hk : k < w.heap.size) (ht : t.block ≠ k) : (asW e t w).heap[k]? = w.heap[k]? := by
  unfold asW
  simp only [World.setCell, Array.getElem?_modify, if_neg ht]
  rw [heap_alloc_lt (by simp; omega), heap_alloc_lt (by simp; omega), heap_alloc_lt (by simp; omega), heap_alloc_lt hk]
theorem asW_size (e t : Addr) (w : World) : w.heap.size ≤ (asW e t w).heap.size := by
  unfold asW
  simp [World.setCell]
  omega
theorem Is_ok (o' : Obj) (hO : LaidE o') (at0 z : Int) : ACalls prog 27 1 [.st (.iface 66 (.sptr [.int .i64 at0, .iface 49 (.int .i64 z)])), I at0, .st (.int .i64 z)] [(0, .fact 0 o')] fun r h => r = B true ∧ h = [(0, .fact 0 o')] := by
  intro c vals hn hr hv
  cases hv with
  | cons _ v1 _ vs a1 hv =>
  cases hv with
  | cons _ v2 _ vs a2 hv =>
  cases hv with
  | cons _ v3 _ vs a3 hv =>
  cases hv
  have b1 := st_inv a1
  have b2 := st_inv a2
  have b3 := st_inv a3
  cases b1 with
  | iface _ _ v b1 =>
  cases b1 with
  | sptr b o _ hb hc =>
  cases b2
  cases b3
  obtain ⟨u1, c1, d1⟩ := hc.get 0 _ rfl
  obtain ⟨u2, c2, d2⟩ := hc.get 1 _ rfl
  cases d1
  cases d2 with
  | iface _ _ v d2 =>
  cases d2
  have hf := (hr.fact 0 0 o' rfl)
  have hg : c.w.cell? ⟨0, 0, none⟩ = some (.iface 139 (.agg #[.pointer (some ⟨4, 29, none⟩)])) := by
    obtain ⟨cs, T, fr, rfl, e⟩ := hO
    simp [World.cell?, hf.2, e]
  have hsz := asW_size ⟨b, o, none⟩ ⟨c.w.heap.size, 0, none⟩ (c.w.alloc (.cells #[.pointer none] 66))
  have hsame : ∀ k, k < c.w.heap.size → (asW ⟨b, o, none⟩ ⟨c.w.heap.size, 0, none⟩ (c.w.alloc (.cells #[.pointer none] 66))).heap[k]? = c.w.heap[k]? := fun k hk => by
    rw [asW_heap _ _ _ k (by simp; omega) (by simp; omega), heap_alloc_lt hk]
  have hz : c.w.heap.size ≤ (c.w.alloc (.cells #[.pointer none] 66)).heap.size := by simp
  have hraw := isLaw_raw b o at0 z c.w hg c1 c2
  have hos : (asW ⟨b, o, none⟩ ⟨c.w.heap.size, 0, none⟩ (c.w.alloc (.cells #[.pointer none] 66))).os = c.w.os ∧ (asW ⟨b, o, none⟩ ⟨c.w.heap.size, 0, none⟩ (c.w.alloc (.cells #[.pointer none] 66))).tape = c.w.tape ∧ (asW ⟨b, o, none⟩ ⟨c.w.heap.size, 0, none⟩ (c.w.alloc (.cells #[.pointer none] 66))).output = c.w.output := ⟨rfl, rfl, rfl⟩
  generalize asW ⟨b, o, none⟩ ⟨c.w.heap.size, 0, none⟩ (c.w.alloc (.cells #[.pointer none] 66)) = W at *
  have hgo : CGo c { c with w := W } := ⟨Nat.le_refl _, fun _ _ => rfl, ⟨fun _ h => h, fun k hk => hsame k (hr.st k hk)⟩, fun k s hs => by
    have hk : k < c.w.heap.size := by
      rcases Nat.lt_or_ge k c.w.heap.size with h' | h'
      · exact h'
      · simp [World.shape?, Array.getElem?_eq_none h'] at hs
    show W.shape? k = _
    rw [← hs]; simp only [World.shape?, hsame k hk]⟩
  have no : ∀ (id : Nat) (p : AO), Go.Proofs.YtmekcbbieacioaaGreatDoorAl.look [(0, AO.fact 0 o')] id = some p → ¬ p.real := fun id p e => by
    rw [look_cons] at e
    split at e
    · cases e; exact fun h => h
    · cases e
  refine hraw.mono fun e w' h => ?_
  obtain ⟨rfl, rfl⟩ := h
  refine ⟨B true, [(0, .fact 0 o')], { c with w := w' }, .bool true, ⟨rfl, rfl⟩, rfl, rfl, .st _ _ (.bool _), ?_, ?_⟩
  · exact ⟨hr.lt, fun id p e r => absurd r (no id p e), fun id p e r => absurd r (no id p e), fun id p e r => absurd r (no id p e), fun i j p p' e r => absurd r (no i p e), fun k hk => Nat.lt_of_lt_of_le (hr.st k hk) (Nat.le_trans hz hsz), fun id k p e => Fct.goes hgo (hr.fact id k p e)⟩
  · exact ⟨hgo, hos.1, hos.2.1, hos.2.2, Nat.le_trans hz hsz, fun k hk _ => hsame k hk, fun k hk => .inl hk, fun id p e r => absurd r (no id p e)⟩
end Go.Proofs.YtmekcbbieacioaaGreatDoorFn
namespace Go.Proofs.YtmekcbbieacioaaGreatDoorFn
open Go.Proofs.YtmekcbbieacioaaGreatDoorAl Go.Proofs.Tryz
attribute [local irreducible] IntKind.wrap CodeOk OpsL OpG ACalls thn inBlk rndR cutR WkR Wk fnR DW ExtOk partsOf
theorem b39 : HasBody prog 39 := ⟨f39, func39, Option.some_ne_none _, by decide⟩
theorem b14 : HasBody prog 14 := ⟨f14, func14, Option.some_ne_none _, by decide⟩
theorem b27 : HasBody prog 27 := ⟨f27, func27, Option.some_ne_none _, by decide⟩
theorem codeNil_ok : ACalls prog 39 0 [nilE] [] fun r h => r = I 0 ∧ h = [] := by
  refine fnC lay_ok func39 rfl rfl rfl rfl rfl ?_
  repeat' first | refine wr (by omega) ?_ | refine ln ?_ | refine stp lay_ok rfl ?_ | refine fin ?_ | refine n_thn ?_ | refine n_blk ?_ | refine e_thn ?_ | refine e_hit ?_ | refine e_miss rfl ?_ | refine r_thn ?_ | refine r_blk ?_ | refine e_rr ?_ | refine r_rr ?_ | refine e_cr ?_ | refine r_cr ?_ | refine .seq ?_ | refine reg ?_ | refine .block ?_ | refine .skip ?_ | refine .ret ?_ | refine .exit ?_ | refine cndT rfl ?_ | refine cndF rfl ?_ | refine c_dec rfl (fun hc => ?_) (fun hc => ?_) | refine c_ndec rfl (fun hc => ?_) (fun hc => ?_) | refine cnd rfl (fun hc => ?_) (fun hc => ?_) | refine gd rfl rfl rfl (fun hg => ?_) (fun hg => ?_) | refine gn rfl rfl rfl (fun hg => ?_) (fun hg => ?_)
  refine f_r [] rfl trivial rfl ⟨?_, rfl⟩
  rfl
abbrev spotV (at0 z : Int) : AV := .st (.iface 66 (.sptr [.int .i64 at0, .iface 49 (.int .i64 z)]))
theorem code_ok (n : Nat) (h1 : 1 ≤ n) (h8 : n ≤ 8) : ACalls prog 39 0 [errE n] [] fun r h => r = I n ∧ h = [] := by
  refine fnC lay_ok func39 rfl rfl rfl rfl rfl ?_
  repeat' first | refine wr (by omega) ?_ | refine ln ?_ | refine stp lay_ok rfl ?_ | refine fin ?_ | refine n_thn ?_ | refine n_blk ?_ | refine e_thn ?_ | refine e_hit ?_ | refine e_miss rfl ?_ | refine r_thn ?_ | refine r_blk ?_ | refine e_rr ?_ | refine r_rr ?_ | refine e_cr ?_ | refine r_cr ?_ | refine .seq ?_ | refine reg ?_ | refine .block ?_ | refine .skip ?_ | refine .ret ?_ | refine .exit ?_ | refine cndT rfl ?_ | refine cndF rfl ?_ | refine c_dec rfl (fun hc => ?_) (fun hc => ?_) | refine c_ndec rfl (fun hc => ?_) (fun hc => ?_) | refine cnd rfl (fun hc => ?_) (fun hc => ?_) | refine gd rfl rfl rfl (fun hg => ?_) (fun hg => ?_) | refine gn rfl rfl rfl (fun hg => ?_) (fun hg => ?_)
  refine lpR (fun k => 1 ≤ k ∧ k ≤ n) (fun k => 9 - k) (fun k => [(3, I k)]) (fun k => []) (1) [0] [] [] rfl rfl rfl (.of [] (by (repeat' first | exact trivial | refine And.intro ?_ ?_ | rfl); first | done | fail) (by (repeat' first | exact trivial | refine And.intro ?_ ?_ | rfl); first | done | fail) rfl) ?_ ?_
  · omega
  rintro k ⟨g1, g2⟩
  refine nrm rfl rfl ?_
  repeat' first | refine wr (by omega) ?_ | refine ln ?_ | refine stp lay_ok rfl ?_ | refine fin ?_ | refine n_thn ?_ | refine n_blk ?_ | refine e_thn ?_ | refine e_hit ?_ | refine e_miss rfl ?_ | refine r_thn ?_ | refine r_blk ?_ | refine e_rr ?_ | refine r_rr ?_ | refine e_cr ?_ | refine r_cr ?_ | refine .seq ?_ | refine reg ?_ | refine .block ?_ | refine .skip ?_ | refine .ret ?_ | refine .exit ?_ | refine cndT rfl ?_ | refine cndF rfl ?_ | refine c_dec rfl (fun hc => ?_) (fun hc => ?_) | refine c_ndec rfl (fun hc => ?_) (fun hc => ?_) | refine cnd rfl (fun hc => ?_) (fun hc => ?_) | refine gd rfl rfl rfl (fun hg => ?_) (fun hg => ?_) | refine gn rfl rfl rfl (fun hg => ?_) (fun hg => ?_)
  all_goals first
    | (exfalso; omega)
    | skip
  · refine f_r [] rfl trivial rfl ⟨?_, rfl⟩
    exact congrArg (fun z : Int => AV.st (.int .i64 z)) hc.symm
  · refine n_rr (k + 1) ?_ (.of [] (by (repeat' first | exact trivial | refine And.intro ?_ ?_ | rfl | exact congrArg (fun z : Int => some (AV.st (.int .i64 z))) (show (k : Int) + 1 = ((k + 1 : Nat) : Int) by omega)); first | done | fail) (by (repeat' first | exact trivial | refine And.intro ?_ ?_ | rfl | exact congrArg (fun z : Int => some (AV.st (.int .i64 z))) (show (k : Int) + 1 = ((k + 1 : Nat) : Int) by omega)); first | done | fail) rfl) ?_
    · show 9 - (k + 1) < 9 - k
      omega
    · exact ⟨by omega, by omega⟩
theorem toldSpot_ok (o' : Obj) (hO : LaidE o') (at0 z : Nat) : ACalls prog 14 1 [spotV at0 z, I z, I at0] [(0, .fact 0 o')] fun r h => r = B true ∧ h = [(0, .fact 0 o')] := by
  have hi := Is_ok o' hO at0 z
  refine fnC lay_ok func14 rfl rfl rfl rfl rfl ?_
  repeat' first | refine wr (by omega) ?_ | refine ln ?_ | refine stp lay_ok rfl ?_ | refine fin ?_ | refine n_thn ?_ | refine n_blk ?_ | refine e_thn ?_ | refine e_hit ?_ | refine e_miss rfl ?_ | refine r_thn ?_ | refine r_blk ?_ | refine e_rr ?_ | refine r_rr ?_ | refine e_cr ?_ | refine r_cr ?_ | refine .seq ?_ | refine reg ?_ | refine .block ?_ | refine .skip ?_ | refine .ret ?_ | refine .exit ?_ | refine cndT rfl ?_ | refine cndF rfl ?_ | refine c_dec rfl (fun hc => ?_) (fun hc => ?_) | refine c_ndec rfl (fun hc => ?_) (fun hc => ?_) | refine cnd rfl (fun hc => ?_) (fun hc => ?_) | ((first | refine o_none rfl ?_ | refine o_none_ ?_ | refine o_yes rfl rfl rfl ?_ | refine o_yes_ rfl rfl ?_); first | refine st_callK [0] (hi) b27 rfl rfl rfl rfl rfl (by (repeat' first | exact trivial | refine And.intro ?_ ?_ | rfl); first | done | fail) ?_) | refine gd rfl rfl rfl (fun hg => ?_) (fun hg => ?_) | refine gn rfl rfl rfl (fun hg => ?_) (fun hg => ?_)
  all_goals first
    | (exfalso; omega)
    | skip
  refine f_r [(0, .fact 0 o')] rfl (by (repeat' first | exact trivial | refine And.intro ?_ ?_ | rfl); first | done | fail) rfl ⟨?_, rfl⟩
  rfl
theorem toldCode_ok (n m : Nat) (h1 : 1 ≤ n) (h8 : n ≤ 8) : ACalls prog 14 0 [errE n, I m, I (-1)] [] fun r h => r = B (decide ((n : Int) = m)) ∧ h = [] := by
  have hi := code_ok n h1 h8
  refine fnC lay_ok func14 rfl rfl rfl rfl rfl ?_
  repeat' first | refine wr (by omega) ?_ | refine ln ?_ | refine stp lay_ok rfl ?_ | refine fin ?_ | refine n_thn ?_ | refine n_blk ?_ | refine e_thn ?_ | refine e_hit ?_ | refine e_miss rfl ?_ | refine r_thn ?_ | refine r_blk ?_ | refine e_rr ?_ | refine r_rr ?_ | refine e_cr ?_ | refine r_cr ?_ | refine .seq ?_ | refine reg ?_ | refine .block ?_ | refine .skip ?_ | refine .ret ?_ | refine .exit ?_ | refine cndT rfl ?_ | refine cndF rfl ?_ | refine c_dec rfl (fun hc => ?_) (fun hc => ?_) | refine c_ndec rfl (fun hc => ?_) (fun hc => ?_) | refine cnd rfl (fun hc => ?_) (fun hc => ?_) | ((first | refine o_none rfl ?_ | refine o_none_ ?_ | refine o_yes rfl rfl rfl ?_ | refine o_yes_ rfl rfl ?_); first | refine st_pure (hi) b39 rfl rfl rfl rfl ?_) | refine gd rfl rfl rfl (fun hg => ?_) (fun hg => ?_) | refine gn rfl rfl rfl (fun hg => ?_) (fun hg => ?_)
  refine f_r [] rfl trivial rfl ⟨?_, rfl⟩
  rfl
theorem toldNil_ok (m : Nat) : ACalls prog 14 0 [nilE, I m, I (-1)] [] fun r h => r = B (decide ((0 : Int) = m)) ∧ h = [] := by
  have hi := codeNil_ok
  refine fnC lay_ok func14 rfl rfl rfl rfl rfl ?_
  repeat' first | refine wr (by omega) ?_ | refine ln ?_ | refine stp lay_ok rfl ?_ | refine fin ?_ | refine n_thn ?_ | refine n_blk ?_ | refine e_thn ?_ | refine e_hit ?_ | refine e_miss rfl ?_ | refine r_thn ?_ | refine r_blk ?_ | refine e_rr ?_ | refine r_rr ?_ | refine e_cr ?_ | refine r_cr ?_ | refine .seq ?_ | refine reg ?_ | refine .block ?_ | refine .skip ?_ | refine .ret ?_ | refine .exit ?_ | refine cndT rfl ?_ | refine cndF rfl ?_ | refine c_dec rfl (fun hc => ?_) (fun hc => ?_) | refine c_ndec rfl (fun hc => ?_) (fun hc => ?_) | refine cnd rfl (fun hc => ?_) (fun hc => ?_) | ((first | refine o_none rfl ?_ | refine o_none_ ?_ | refine o_yes rfl rfl rfl ?_ | refine o_yes_ rfl rfl ?_); first | refine st_pure (hi) b39 rfl rfl rfl rfl ?_) | refine gd rfl rfl rfl (fun hg => ?_) (fun hg => ?_) | refine gn rfl rfl rfl (fun hg => ?_) (fun hg => ?_)
  refine f_r [] rfl trivial rfl ⟨?_, rfl⟩
  rfl
end Go.Proofs.YtmekcbbieacioaaGreatDoorFn
namespace Go.Proofs.YtmekcbbieacioaaGreatDoorFn
open Go.Proofs.YtmekcbbieacioaaGreatDoorAl Go.Proofs.Tryz
attribute [local irreducible] IntKind.wrap CodeOk OpsL OpG ACalls thn inBlk rndR cutR WkR Wk fnR DW ExtOk partsOf
theorem b29 : HasBody prog 29 := ⟨f29, func29, Option.some_ne_none _, by decide⟩
theorem b35 : HasBody prog 35 := ⟨f35, func35, Option.some_ne_none _, by decide⟩
/-! ### cuts -/
structure CV where
  mn : Int
  mx : Int
  ms : Int
def CV.ok (c : CV) : Bool := decide (1 ≤ c.mn) && decide (c.mn ≤ c.mx) && decide (c.mx ≤ 64) && decide (0 ≤ c.ms) && decide (c.ms ≤ 255)
abbrev cutE (c : CV) : AV := .st (.agg [.int .i64 c.mn, .int .i64 c.mx, .int .i64 c.ms])
theorem may3_ok (c : CV) : ACalls prog 29 0 [cutE c] [] fun r h => r = B c.ok ∧ h = [] := by
  obtain ⟨a, b, m⟩ := c
  refine fnC lay_ok func29 rfl rfl rfl rfl rfl ?_
  repeat' first | refine wr (by omega) ?_ | refine ln ?_ | refine stp lay_ok rfl ?_ | refine fin ?_ | refine n_thn ?_ | refine n_blk ?_ | refine e_thn ?_ | refine e_hit ?_ | refine e_miss rfl ?_ | refine r_thn ?_ | refine r_blk ?_ | refine e_rr ?_ | refine r_rr ?_ | refine e_cr ?_ | refine r_cr ?_ | refine .seq ?_ | refine reg ?_ | refine .block ?_ | refine .skip ?_ | refine .ret ?_ | refine .exit ?_ | refine cndT rfl ?_ | refine cndF rfl ?_ | refine c_dec rfl (fun hc => ?_) (fun hc => ?_) | refine c_ndec rfl (fun hc => ?_) (fun hc => ?_) | refine cnd rfl (fun hc => ?_) (fun hc => ?_) | refine gd rfl rfl rfl (fun hg => ?_) (fun hg => ?_) | refine gn rfl rfl rfl (fun hg => ?_) (fun hg => ?_)
  all_goals refine f_r [] rfl trivial rfl ⟨?_, rfl⟩
  all_goals simp_all [CV.ok, retOf]
  all_goals (intros; omega)
theorem mayR3_ok (c : CV) : ACalls prog 35 0 [cutE c] [] fun r h => r = B c.ok ∧ h = [] := by
  obtain ⟨a, b, m⟩ := c
  refine fnC lay_ok func35 rfl rfl rfl rfl rfl ?_
  repeat' first | refine wr (by omega) ?_ | refine ln ?_ | refine stp lay_ok rfl ?_ | refine fin ?_ | refine n_thn ?_ | refine n_blk ?_ | refine e_thn ?_ | refine e_hit ?_ | refine e_miss rfl ?_ | refine r_thn ?_ | refine r_blk ?_ | refine e_rr ?_ | refine r_rr ?_ | refine e_cr ?_ | refine r_cr ?_ | refine .seq ?_ | refine reg ?_ | refine .block ?_ | refine .skip ?_ | refine .ret ?_ | refine .exit ?_ | refine cndT rfl ?_ | refine cndF rfl ?_ | refine c_dec rfl (fun hc => ?_) (fun hc => ?_) | refine c_ndec rfl (fun hc => ?_) (fun hc => ?_) | refine cnd rfl (fun hc => ?_) (fun hc => ?_) | refine gd rfl rfl rfl (fun hg => ?_) (fun hg => ?_) | refine gn rfl rfl rfl (fun hg => ?_) (fun hg => ?_)
  all_goals refine f_r [] rfl trivial rfl ⟨?_, rfl⟩
  all_goals simp_all [CV.ok, retOf]
  all_goals (intros; omega)
end Go.Proofs.YtmekcbbieacioaaGreatDoorFn
namespace Go.Proofs.YtmekcbbieacioaaGreatDoorFn
open Go.Proofs.YtmekcbbieacioaaGreatDoorAl Go.Proofs.Tryz
theorem andI (a m : Nat) (ha : a < 2 ^ 62) (hm : m < 2 ^ 62) : binJ .and .i64 (a : Int) (m : Int) = some (.int .i64 ((a &&& m : Nat) : Int)) := by
  simp only [binJ]
  rw [show IntKind.i64.bits = 64 from rfl]
  have e : (BitVec.ofInt 64 (a : Int) &&& BitVec.ofInt 64 (m : Int)).toNat = a &&& m := by
    rw [BitVec.toNat_and, BitVec.toNat_ofInt, BitVec.toNat_ofInt]
    have h1 : ((m : Int) % ((2 ^ 64 : Nat) : Int)).toNat = m := by omega
    have h2 : ((a : Int) % ((2 ^ 64 : Nat) : Int)).toNat = a := by omega
    rw [h1, h2]
  have := Nat.and_le_right (n := a) (m := m)
  rw [e, i64wrap (by omega)]
attribute [local irreducible] IntKind.wrap CodeOk OpsL OpG ACalls thn inBlk rndR cutR WkR Wk fnR DW ExtOk partsOf
theorem b57 : HasBody prog 57 := ⟨f57, func57, Option.some_ne_none _, by decide⟩
/-! ### how long the next chunk is -/
def byteAt (s : ByteArray) (i : Nat) : Nat := (s.data[i]!).toNat
def prevAt (s : ByteArray) (i : Nat) : Nat := if i = 0 then 0 else byteAt s (i - 1)
def hitC (s : ByteArray) (mn ms : Nat) (i : Nat) : Bool := decide (mn ≤ i + 1) && decide ((31 * prevAt s i + byteAt s i) &&& ms = ms)
/-- k places are left of n. -/
def lenG (s : ByteArray) (mn ms n : Nat) : Nat → Nat
  | 0 => n
  | k + 1 => if hitC s mn ms (n - (k + 1)) = true then n - k else lenG s mn ms n k
set_option maxHeartbeats 4000000 in
theorem length_ok (s : ByteArray) (mn mx ms : Nat) (h1 : 1 ≤ mn) (h2 : mx ≤ 64) (h3 : ms ≤ 255) (hs : s.size ≤ 4000000000) :
    ACalls prog 57 0 [Sx s, .st (.agg [.int .i64 mn, .int .i64 mx, .int .i64 ms])] [] fun r h => r = I (lenG s mn ms (min s.size mx) (min s.size mx)) ∧ h = [] := by
  obtain ⟨n, hn⟩ : ∃ n, n = min s.size mx := ⟨_, rfl⟩
  rw [← hn]
  have hni : min (s.size : Int) (mx : Int) = (n : Int) := by omega
  have hns : n ≤ s.size ∧ n ≤ 64 := by omega
  generalize hK : lenG s mn ms n n = K
  refine fnC lay_ok func57 rfl rfl rfl rfl rfl ?_
  repeat' first | refine wr (by omega) ?_ | refine ln ?_ | refine stp lay_ok rfl ?_ | refine fin ?_ | refine n_thn ?_ | refine n_blk ?_ | refine e_thn ?_ | refine e_hit ?_ | refine e_miss rfl ?_ | refine r_thn ?_ | refine r_blk ?_ | refine e_rr ?_ | refine r_rr ?_ | refine e_cr ?_ | refine r_cr ?_ | refine .seq ?_ | refine reg ?_ | refine .block ?_ | refine .skip ?_ | refine .ret ?_ | refine .exit ?_ | refine cndT rfl ?_ | refine cndF rfl ?_ | refine c_dec rfl (fun hc => ?_) (fun hc => ?_) | refine c_ndec rfl (fun hc => ?_) (fun hc => ?_) | refine cnd rfl (fun hc => ?_) (fun hc => ?_) | ((first | refine o_none rfl ?_ | refine o_none_ ?_ | refine o_yes rfl rfl rfl ?_ | refine o_yes_ rfl rfl ?_); first | refine st_min rfl rfl ?_) | refine gd rfl rfl rfl (fun hg => ?_) (fun hg => ?_) | refine gn rfl rfl rfl (fun hg => ?_) (fun hg => ?_)
  rw [hni]
  refine lpR (fun (k, i, pv) => i + k = n ∧ pv = prevAt s i ∧ K = lenG s mn ms n k) (fun (k, i, pv) => k) (fun (k, i, pv) => [(5, I pv), (13, I i)]) (fun (k, i, pv) => [(0, .cells [I mn, I mx, I ms])]) ((n, 0, 0)) [0, 3, 12] [0] [] rfl rfl rfl (.of [] (by (repeat' first | exact trivial | refine And.intro ?_ ?_ | rfl); first | done | fail) (by (repeat' first | exact trivial | refine And.intro ?_ ?_ | rfl); first | done | fail) rfl) ?_ ?_
  · exact ⟨by omega, rfl, hK.symm⟩
  rintro ⟨k, i, pv⟩ ⟨g1, g2, g3⟩
  refine nrm rfl rfl ?_
  clear hK
  cases k with
  | zero =>
    rw [lenG] at g3
    subst g3
    repeat' first | refine wr (by omega) ?_ | refine ln ?_ | refine stp lay_ok rfl ?_ | refine fin ?_ | refine n_thn ?_ | refine n_blk ?_ | refine e_thn ?_ | refine e_hit ?_ | refine e_miss rfl ?_ | refine r_thn ?_ | refine r_blk ?_ | refine e_rr ?_ | refine r_rr ?_ | refine e_cr ?_ | refine r_cr ?_ | refine .seq ?_ | refine reg ?_ | refine .block ?_ | refine .skip ?_ | refine .ret ?_ | refine .exit ?_ | refine cndT rfl ?_ | refine cndF rfl ?_ | refine c_dec rfl (fun hc => ?_) (fun hc => ?_) | refine c_ndec rfl (fun hc => ?_) (fun hc => ?_) | refine cnd rfl (fun hc => ?_) (fun hc => ?_) | ((first | refine o_none rfl ?_ | refine o_none_ ?_ | refine o_yes rfl rfl rfl ?_ | refine o_yes_ rfl rfl ?_); first | refine st_min rfl rfl ?_) | refine gd rfl rfl rfl (fun hg => ?_) (fun hg => ?_) | refine gn rfl rfl rfl (fun hg => ?_) (fun hg => ?_)
    all_goals first
      | (exfalso; omega)
      | skip
    refine f_r [] rfl trivial rfl ⟨?_, rfl⟩
    exact congrArg (fun z : Int => AV.st (.int .i64 z)) hni
  | succ k =>
    have hi : n - (k + 1) = i := by omega
    have hi2 : n - k = i + 1 := by omega
    rw [lenG, hi, hi2] at g3
    have hb : s.data.toList[((i : Int)).toNat]? = some s.data[i]! := by
      rw [Int.toNat_natCast, Array.getElem?_toList, getElem!_pos s.data i (by have := hns.1; show i < s.size; omega)]
      exact Array.getElem?_eq_getElem _
    have hpv : pv < 256 := by
      subst g2
      unfold prevAt
      split
      · omega
      · exact UInt8.toNat_lt _
    have hbl : (s.data[i]!).toNat < 256 := UInt8.toNat_lt _
    have hand := andI (31 * pv + (s.data[i]!).toNat) ms (by omega) (by omega)
    rw [show ((31 * pv + (s.data[i]!).toNat : Nat) : Int) = 31 * (pv : Int) + ((s.data[i]!).toNat : Int) by omega] at hand
    have hle := Nat.and_le_right (n := 31 * pv + (s.data[i]!).toNat) (m := ms)
    have hh : hitC s mn ms i = (decide (mn ≤ i + 1) && decide ((31 * pv + (s.data[i]!).toNat) &&& ms = ms)) := by rw [g2]; rfl
    have hpn : prevAt s (i + 1) = (s.data[i]!).toNat := by unfold prevAt; rw [if_neg (by omega)]; rfl
    rw [hh] at g3
    generalize (31 * pv + (s.data[i]!).toNat) &&& ms = o at *
    generalize s.data[i]! = b at *
    repeat' first | refine wr (by omega) ?_ | refine ln ?_ | refine stp lay_ok rfl ?_ | refine fin ?_ | refine n_thn ?_ | refine n_blk ?_ | refine e_thn ?_ | refine e_hit ?_ | refine e_miss rfl ?_ | refine r_thn ?_ | refine r_blk ?_ | refine e_rr ?_ | refine r_rr ?_ | refine e_cr ?_ | refine r_cr ?_ | refine .seq ?_ | refine reg ?_ | refine .block ?_ | refine .skip ?_ | refine .ret ?_ | refine .exit ?_ | refine cndT rfl ?_ | refine cndF rfl ?_ | refine c_dec rfl (fun hc => ?_) (fun hc => ?_) | refine c_ndec rfl (fun hc => ?_) (fun hc => ?_) | refine cnd rfl (fun hc => ?_) (fun hc => ?_) | ((first | refine o_none rfl ?_ | refine o_none_ ?_ | refine o_yes rfl rfl rfl ?_ | refine o_yes_ rfl rfl ?_); first | refine st_byte b lay_ok rfl rfl rfl rfl (by omega) hb ?_ | refine st_bits rfl rfl hand ?_) | refine gd rfl rfl rfl (fun hg => ?_) (fun hg => ?_) | refine gn rfl rfl rfl (fun hg => ?_) (fun hg => ?_)
    all_goals first
      | (exfalso; omega)
      | skip
    · rw [if_pos (by simp only [Bool.and_eq_true, decide_eq_true_eq]; omega)] at g3
      refine f_r [] rfl trivial rfl ⟨?_, rfl⟩
      rw [g3]
      exact congrArg (fun z : Int => AV.st (.int .i64 z)) (show (i : Int) + 1 = ((i + 1 : Nat) : Int) by omega)
    all_goals
      rw [if_neg (by simp only [Bool.and_eq_true, decide_eq_true_eq]; omega)] at g3
      refine n_rr ((k, i + 1, b.toNat)) ?_ (.of [0] (by (repeat' first | exact trivial | refine And.intro ?_ ?_ | rfl | exact congrArg (fun z : Int => some (AV.st (.int .i64 z))) (show (i : Int) + 1 = ((i + 1 : Nat) : Int) by omega)); first | done | fail) (by (repeat' first | exact trivial | refine And.intro ?_ ?_ | rfl | exact congrArg (fun z : Int => some (AV.st (.int .i64 z))) (show (i : Int) + 1 = ((i + 1 : Nat) : Int) by omega)); first | done | fail) rfl) ?_
      · exact Nat.lt_succ_self _
      · exact ⟨by omega, hpn.symm, g3⟩
end Go.Proofs.YtmekcbbieacioaaGreatDoorFn
namespace Go.Proofs.YtmekcbbieacioaaGreatDoorFn
open Go.Proofs.YtmekcbbieacioaaGreatDoorAl Go.Proofs.Tryz
attribute [local irreducible] IntKind.wrap CodeOk OpsL OpG ACalls thn inBlk rndR cutR WkR Wk fnR DW ExtOk partsOf
theorem b31 : HasBody prog 31 := ⟨f31, func31, Option.some_ne_none _, by decide⟩
/-! ### a text in chunks -/
def CV.len (c : CV) (s : ByteArray) : Nat := lenG s c.mn.toNat c.ms.toNat (min s.size c.mx.toNat) (min s.size c.mx.toNat)
theorem lenG_le (s : ByteArray) (mn ms n : Nat) : ∀ k, k ≤ n → lenG s mn ms n k ≤ n ∧ (0 < n → 0 < lenG s mn ms n k) := by
  intro k
  induction k with
  | zero => intro _; rw [lenG]; omega
  | succ k ih =>
    intro h
    rw [lenG]
    split
    · omega
    · exact ih (by omega)
theorem CV.len_le (c : CV) (s : ByteArray) (h : c.ok = true) (hs : 0 < s.size) : 0 < c.len s ∧ c.len s ≤ s.size := by
  simp only [CV.ok, Bool.and_eq_true, decide_eq_true_eq] at h
  have := lenG_le s c.mn.toNat c.ms.toNat (min s.size c.mx.toNat) (min s.size c.mx.toNat) (Nat.le_refl _)
  unfold CV.len
  omega
theorem lengthC_ok (c : CV) (s : ByteArray) (h : c.ok = true) (hs : s.size ≤ 4000000000) : ACalls prog 57 0 [Sx s, cutE c] [] fun r h => r = I (c.len s) ∧ h = [] := by
  simp only [CV.ok, Bool.and_eq_true, decide_eq_true_eq] at h
  have := length_ok s c.mn.toNat c.mx.toNat c.ms.toNat (by omega) (by omega) (by omega) hs
  rw [show ((c.mn.toNat : Nat) : Int) = c.mn by omega, show ((c.mx.toNat : Nat) : Int) = c.mx by omega, show ((c.ms.toNat : Nat) : Int) = c.ms by omega] at this
  exact this
def CV.split (c : CV) : Nat → ByteArray → List ByteArray
  | 0, _ => []
  | f + 1, s => if s.size = 0 then [] else s.extract 0 (c.len s) :: c.split f (s.extract (c.len s) s.size)
/-- The chunks, or what is amiss. -/
def splR (c : CV) (s : ByteArray) : AV := if c.ok = false then .tuple [.st .nilsl, errE 1] else if 1024 < s.size then .tuple [.st .nilsl, errE 7] else .tuple [.st (.sl 1 ((c.split s.size s).map rowS)), nilE]
set_option maxHeartbeats 4000000 in
set_option maxRecDepth 4000 in
theorem split3_ok (c : CV) (s : ByteArray) (hs : s.size ≤ 4000000000) : ACalls prog 31 0 [Sx s, cutE c] [] fun r h => r = splR c s ∧ h = [] := by
  have hm := may3_ok c
  unfold splR
  refine fnC lay_ok func31 rfl rfl rfl rfl rfl ?_
  cases hok : c.ok with
  | false =>
    rw [hok] at hm
    repeat' first | refine wr (by omega) ?_ | refine ln ?_ | refine stp lay_ok rfl ?_ | refine fin ?_ | refine n_thn ?_ | refine n_blk ?_ | refine e_thn ?_ | refine e_hit ?_ | refine e_miss rfl ?_ | refine r_thn ?_ | refine r_blk ?_ | refine e_rr ?_ | refine r_rr ?_ | refine e_cr ?_ | refine r_cr ?_ | refine .seq ?_ | refine reg ?_ | refine .block ?_ | refine .skip ?_ | refine .ret ?_ | refine .exit ?_ | refine cndT rfl ?_ | refine cndF rfl ?_ | refine c_dec rfl (fun hc => ?_) (fun hc => ?_) | refine c_ndec rfl (fun hc => ?_) (fun hc => ?_) | refine cnd rfl (fun hc => ?_) (fun hc => ?_) | ((first | refine o_none rfl ?_ | refine o_none_ ?_ | refine o_yes rfl rfl rfl ?_ | refine o_yes_ rfl rfl ?_); first | refine st_pure (hm) b29 rfl rfl rfl rfl ?_) | refine gd rfl rfl rfl (fun hg => ?_) (fun hg => ?_) | refine gn rfl rfl rfl (fun hg => ?_) (fun hg => ?_)
    all_goals first
      | (exfalso; omega)
      | skip
    refine f_r [] rfl trivial rfl ⟨?_, rfl⟩
    rfl
  | true =>
    rw [hok] at hm
    by_cases h24 : 1024 < s.size
    · repeat' first | refine wr (by omega) ?_ | refine ln ?_ | refine stp lay_ok rfl ?_ | refine fin ?_ | refine n_thn ?_ | refine n_blk ?_ | refine e_thn ?_ | refine e_hit ?_ | refine e_miss rfl ?_ | refine r_thn ?_ | refine r_blk ?_ | refine e_rr ?_ | refine r_rr ?_ | refine e_cr ?_ | refine r_cr ?_ | refine .seq ?_ | refine reg ?_ | refine .block ?_ | refine .skip ?_ | refine .ret ?_ | refine .exit ?_ | refine cndT rfl ?_ | refine cndF rfl ?_ | refine c_dec rfl (fun hc => ?_) (fun hc => ?_) | refine c_ndec rfl (fun hc => ?_) (fun hc => ?_) | refine cnd rfl (fun hc => ?_) (fun hc => ?_) | ((first | refine o_none rfl ?_ | refine o_none_ ?_ | refine o_yes rfl rfl rfl ?_ | refine o_yes_ rfl rfl ?_); first | refine st_pure (hm) b29 rfl rfl rfl rfl ?_) | refine gd rfl rfl rfl (fun hg => ?_) (fun hg => ?_) | refine gn rfl rfl rfl (fun hg => ?_) (fun hg => ?_)
      all_goals first
        | (exfalso; omega)
        | skip
      refine f_r [] rfl trivial rfl ⟨?_, rfl⟩
      rw [if_neg (by simp), if_pos h24]
      rfl
    rw [if_neg (by simp), if_neg h24]
    repeat' first | refine wr (by omega) ?_ | refine ln ?_ | refine stp lay_ok rfl ?_ | refine fin ?_ | refine n_thn ?_ | refine n_blk ?_ | refine e_thn ?_ | refine e_hit ?_ | refine e_miss rfl ?_ | refine r_thn ?_ | refine r_blk ?_ | refine e_rr ?_ | refine r_rr ?_ | refine e_cr ?_ | refine r_cr ?_ | refine .seq ?_ | refine reg ?_ | refine .block ?_ | refine .skip ?_ | refine .ret ?_ | refine .exit ?_ | refine cndT rfl ?_ | refine cndF rfl ?_ | refine c_dec rfl (fun hc => ?_) (fun hc => ?_) | refine c_ndec rfl (fun hc => ?_) (fun hc => ?_) | refine cnd rfl (fun hc => ?_) (fun hc => ?_) | ((first | refine o_none rfl ?_ | refine o_none_ ?_ | refine o_yes rfl rfl rfl ?_ | refine o_yes_ rfl rfl ?_); first | refine st_pure (hm) b29 rfl rfl rfl rfl ?_) | refine gd rfl rfl rfl (fun hg => ?_) (fun hg => ?_) | refine gn rfl rfl rfl (fun hg => ?_) (fun hg => ?_)
    all_goals first
      | (exfalso; omega)
      | skip
    refine CodeOk.wk (Wk.nilT 1 6 rfl rfl) (Nat.le_succ _) ?_
    refine nrm rfl rfl ?_
    refine lpR (fun (f, out, u) => u.size ≤ f ∧ f ≤ 1024 ∧ out.length + f ≤ 1024 ∧ c.split s.size s = out ++ c.split f u) (fun (f, out, u) => f) (fun (f, out, u) => [(0, Sx u), (6, .lsl 2 1 0 (out.map rowS).length)]) (fun (f, out, u) => [(2, .arr 1 (out.map rowS))]) ((s.size, [], s)) [3] [] [1] rfl rfl rfl (.of [1] (by (repeat' first | exact trivial | refine And.intro ?_ ?_ | rfl); first | done | fail) (by (repeat' first | exact trivial | refine And.intro ?_ ?_ | rfl); first | done | fail) rfl) ?_ ?_
    · exact ⟨Nat.le_refl _, by omega, by simp; omega, rfl⟩
    rintro ⟨f, out, u⟩ ⟨g1, g2, g3, g4⟩
    refine nrm rfl rfl ?_
    have hmo : (List.map rowS out).length = out.length := List.length_map _
    by_cases hu : u = ⟨#[]⟩
    · have hu0 : c.split f u = [] := by
        cases f with
        | zero => rfl
        | succ f => rw [CV.split, if_pos (by rw [hu]; rfl)]
      rw [hu0, List.append_nil] at g4
      repeat' first | refine wr (by omega) ?_ | refine ln ?_ | refine stp lay_ok rfl ?_ | refine fin ?_ | refine n_thn ?_ | refine n_blk ?_ | refine e_thn ?_ | refine e_hit ?_ | refine e_miss rfl ?_ | refine r_thn ?_ | refine r_blk ?_ | refine e_rr ?_ | refine r_rr ?_ | refine e_cr ?_ | refine r_cr ?_ | refine .seq ?_ | refine reg ?_ | refine .block ?_ | refine .skip ?_ | refine .ret ?_ | refine .exit ?_ | refine cndT rfl ?_ | refine cndF rfl ?_ | refine c_dec rfl (fun hc => ?_) (fun hc => ?_) | refine c_ndec rfl (fun hc => ?_) (fun hc => ?_) | refine cnd rfl (fun hc => ?_) (fun hc => ?_) | refine gd rfl rfl rfl (fun hg => ?_) (fun hg => ?_) | refine gn rfl rfl rfl (fun hg => ?_) (fun hg => ?_)
      all_goals first
        | (exfalso; exact absurd hu (by assumption))
        | (exfalso; simp_all; done)
        | skip
      refine f_end (n0 := 0) (t'' := [(4, .st (.sl 1 (out.map rowS))), (5, nilE)]) (h'' := []) (Wk.then (Wk.frz 2 [4, 5] rfl rfl rfl (by (repeat' first | exact trivial | refine And.intro ?_ ?_ | rfl); first | done | fail) (by (repeat' first | exact trivial | refine And.intro ?_ ?_ | rfl); first | done | fail) rfl rfl) (WkR.of [] (by (repeat' first | exact trivial | refine And.intro ?_ ?_ | rfl); first | done | fail) (by (repeat' first | exact trivial | refine And.intro ?_ ?_ | rfl); first | done | fail) rfl)) rfl rfl ⟨?_, rfl⟩
      rw [g4]; rfl
    have hup : 0 < u.size := by
      rcases Nat.eq_zero_or_pos u.size with h | h
      · exact absurd (by cases u with | mk d => exact congrArg ByteArray.mk (Array.eq_empty_of_size_eq_zero h)) hu
      · exact h
    have hlen := c.len_le u hok hup
    have hlo := lengthC_ok c u hok (by omega)
    obtain ⟨f, rfl⟩ : ∃ f', f = f' + 1 := ⟨f - 1, by omega⟩
    rw [CV.split, if_neg (by omega)] at g4
    have hr : ∀ x : ByteArray, List.map rowS out ++ [[SV.str x]] = List.map rowS (out ++ [x]) := fun x => by rw [List.map_append]; rfl
    generalize c.len u = k at *
    repeat' first | refine wr (by omega) ?_ | refine ln ?_ | refine stp lay_ok rfl ?_ | refine fin ?_ | refine n_thn ?_ | refine n_blk ?_ | refine e_thn ?_ | refine e_hit ?_ | refine e_miss rfl ?_ | refine r_thn ?_ | refine r_blk ?_ | refine e_rr ?_ | refine r_rr ?_ | refine e_cr ?_ | refine r_cr ?_ | refine .seq ?_ | refine reg ?_ | refine .block ?_ | refine .skip ?_ | refine .ret ?_ | refine .exit ?_ | refine cndT rfl ?_ | refine cndF rfl ?_ | refine c_dec rfl (fun hc => ?_) (fun hc => ?_) | refine c_ndec rfl (fun hc => ?_) (fun hc => ?_) | refine cnd rfl (fun hc => ?_) (fun hc => ?_) | ((first | refine o_none rfl ?_ | refine o_none_ ?_ | refine o_yes rfl rfl rfl ?_ | refine o_yes_ rfl rfl ?_); first | refine st_pure (hlo) b57 rfl rfl rfl rfl ?_ | refine st_subS 0 k lay_ok rfl rfl rfl rfl ⟨_, _, rfl, rfl⟩ (Nat.zero_le _) (by omega) ?_ | refine st_subS k u.size lay_ok rfl rfl rfl ⟨_, _, rfl, rfl⟩ rfl (by omega) (Nat.le_refl _) ?_ | refine st_append lay_ok rfl rfl rfl rfl rfl rfl rfl rfl (.lsl rfl rfl) .sl rfl (one_s (u.extract 0 k)) (by simp only [List.length_cons, List.length_nil]; omega) (by simp only [List.length_cons, List.length_nil]; omega) ?_) | refine gd rfl rfl rfl (fun hg => ?_) (fun hg => ?_) | refine gn rfl rfl rfl (fun hg => ?_) (fun hg => ?_)
    all_goals first
      | (exfalso; simp_all; done)
      | skip
    rw [hr]
    refine n_rr ((f, out ++ [u.extract 0 k], u.extract k u.size)) ?_ (.of [3] (by (repeat' first | exact trivial | refine And.intro ?_ ?_ | rfl); first | done | fail) (by (repeat' first | exact trivial | refine And.intro ?_ ?_ | rfl); first | done | fail) rfl) ?_
    · exact Nat.lt_succ_self _
    · refine ⟨?_, by omega, by simp; omega, by rw [g4]; simp⟩
      rw [ByteArray.size_extract]; omega
end Go.Proofs.YtmekcbbieacioaaGreatDoorFn
namespace Go.Proofs.YtmekcbbieacioaaGreatDoorFn
open Go.Proofs.YtmekcbbieacioaaGreatDoorAl Go.Proofs.Tryz
attribute [local irreducible] IntKind.wrap CodeOk OpsL OpG ACalls thn inBlk rndR cutR WkR Wk fnR DW ExtOk partsOf
theorem b56 : HasBody prog 56 := ⟨f56, func56, Option.some_ne_none _, by decide⟩
theorem b30 : HasBody prog 30 := ⟨f30, func30, Option.some_ne_none _, by decide⟩
theorem b55 : HasBody prog 55 := ⟨f55, func55, Option.some_ne_none _, by decide⟩
theorem b77 : HasBody prog 77 := ⟨f77, func77, Option.some_ne_none _, by decide⟩
theorem b54 : HasBody prog 54 := ⟨f54, func54, Option.some_ne_none _, by decide⟩
theorem b12 : HasBody prog 12 := ⟨f12, func12, Option.some_ne_none _, by decide⟩
/-! ### files -/
structure FV where
  path : ByteArray
  bytes : ByteArray
def rowF (f : FV) : List SV := [.str f.path, .str f.bytes]
def clashB (a b : ByteArray) : Bool := decide (a = b) || under a b || under b a
theorem clash_ok (a b : ByteArray) (ha : a.size ≤ 4000000000 - 1) (hb : b.size ≤ 4000000000 - 1) : ACalls prog 56 0 [Sx a, Sx b] [] fun r h => r = B (clashB a b) ∧ h = [] := by
  have h1 := under_ok a b ha hb
  have h2 := under_ok b a hb ha
  unfold clashB
  refine fnC lay_ok func56 rfl rfl rfl rfl rfl ?_
  by_cases he : a = b
  · subst he
    repeat' first | refine wr (by omega) ?_ | refine ln ?_ | refine stp lay_ok rfl ?_ | refine fin ?_ | refine n_thn ?_ | refine n_blk ?_ | refine e_thn ?_ | refine e_hit ?_ | refine e_miss rfl ?_ | refine r_thn ?_ | refine r_blk ?_ | refine e_rr ?_ | refine r_rr ?_ | refine e_cr ?_ | refine r_cr ?_ | refine .seq ?_ | refine reg ?_ | refine .block ?_ | refine .skip ?_ | refine .ret ?_ | refine .exit ?_ | refine cndT rfl ?_ | refine cndF rfl ?_ | refine c_dec rfl (fun hc => ?_) (fun hc => ?_) | refine c_ndec rfl (fun hc => ?_) (fun hc => ?_) | refine cnd rfl (fun hc => ?_) (fun hc => ?_) | ((first | refine o_none rfl ?_ | refine o_none_ ?_ | refine o_yes rfl rfl rfl ?_ | refine o_yes_ rfl rfl ?_); first | refine st_pure (h1) b44 rfl rfl rfl rfl ?_ | refine st_pure (h2) b44 rfl rfl rfl rfl ?_) | refine gd rfl rfl rfl (fun hg => ?_) (fun hg => ?_) | refine gn rfl rfl rfl (fun hg => ?_) (fun hg => ?_)
    all_goals first
      | (exfalso; simp_all; done)
      | skip
    refine f_r [] rfl trivial rfl ⟨?_, rfl⟩
    simp [retOf]
  · cases hu1 : under a b <;> rw [hu1] at h1
    all_goals
      repeat' first | refine wr (by omega) ?_ | refine ln ?_ | refine stp lay_ok rfl ?_ | refine fin ?_ | refine n_thn ?_ | refine n_blk ?_ | refine e_thn ?_ | refine e_hit ?_ | refine e_miss rfl ?_ | refine r_thn ?_ | refine r_blk ?_ | refine e_rr ?_ | refine r_rr ?_ | refine e_cr ?_ | refine r_cr ?_ | refine .seq ?_ | refine reg ?_ | refine .block ?_ | refine .skip ?_ | refine .ret ?_ | refine .exit ?_ | refine cndT rfl ?_ | refine cndF rfl ?_ | refine c_dec rfl (fun hc => ?_) (fun hc => ?_) | refine c_ndec rfl (fun hc => ?_) (fun hc => ?_) | refine cnd rfl (fun hc => ?_) (fun hc => ?_) | ((first | refine o_none rfl ?_ | refine o_none_ ?_ | refine o_yes rfl rfl rfl ?_ | refine o_yes_ rfl rfl ?_); first | refine st_pure (h1) b44 rfl rfl rfl rfl ?_ | refine st_pure (h2) b44 rfl rfl rfl rfl ?_) | refine gd rfl rfl rfl (fun hg => ?_) (fun hg => ?_) | refine gn rfl rfl rfl (fun hg => ?_) (fun hg => ?_)
      all_goals first
        | (exfalso; simp_all; done)
        | skip
      refine f_r [] rfl trivial rfl ⟨?_, rfl⟩
      simp [retOf, he]
theorem file1_ok (e x : FV) (he : e.path.size ≤ 4000000000 - 1) (hx : x.path.size ≤ 4000000000 - 1) : ACalls prog 55 0 [.st (.agg (rowF x)), .st (.sptr (rowF e))] [] fun r h => r = B (clashB x.path e.path) ∧ h = [] := by
  obtain ⟨p, z⟩ := e
  obtain ⟨p', z'⟩ := x
  have h1 := clash_ok p' p hx he
  refine fnC lay_ok func55 rfl rfl rfl rfl rfl ?_
  repeat' first | refine wr (by omega) ?_ | refine ln ?_ | refine stp lay_ok rfl ?_ | refine fin ?_ | refine n_thn ?_ | refine n_blk ?_ | refine e_thn ?_ | refine e_hit ?_ | refine e_miss rfl ?_ | refine r_thn ?_ | refine r_blk ?_ | refine e_rr ?_ | refine r_rr ?_ | refine e_cr ?_ | refine r_cr ?_ | refine .seq ?_ | refine reg ?_ | refine .block ?_ | refine .skip ?_ | refine .ret ?_ | refine .exit ?_ | refine cndT rfl ?_ | refine cndF rfl ?_ | refine c_dec rfl (fun hc => ?_) (fun hc => ?_) | refine c_ndec rfl (fun hc => ?_) (fun hc => ?_) | refine cnd rfl (fun hc => ?_) (fun hc => ?_) | ((first | refine o_none rfl ?_ | refine o_none_ ?_ | refine o_yes rfl rfl rfl ?_ | refine o_yes_ rfl rfl ?_); first | refine st_pure (h1) b56 rfl rfl rfl rfl ?_) | refine gd rfl rfl rfl (fun hg => ?_) (fun hg => ?_) | refine gn rfl rfl rfl (fun hg => ?_) (fun hg => ?_)
  refine f_r [] rfl trivial rfl ⟨?_, rfl⟩; rfl
theorem idxF_ok (f : Nat) (bf : HasBody prog f) (cs : List SV) (p : FV → Bool) (l : List FV) (hl : l.length ≤ 4000000000) (hf : ∀ e ∈ l, ACalls prog f 0 [.st (.agg (rowF e)), .st (.sptr cs)] [] fun r h => r = B (p e) ∧ h = []) :
    ACalls prog 77 0 [.st (.sl 2 (l.map rowF)), .fn (.func f) [] [.st (.sptr cs)]] [] fun r h => r = I (fidx p l) ∧ h = [] := by
  refine fnC lay_ok func77 rfl rfl rfl rfl rfl ?_
  repeat' first | refine wr (by omega) ?_ | refine ln ?_ | refine stp lay_ok rfl ?_ | refine fin ?_ | refine n_thn ?_ | refine n_blk ?_ | refine e_thn ?_ | refine e_hit ?_ | refine e_miss rfl ?_ | refine r_thn ?_ | refine r_blk ?_ | refine e_rr ?_ | refine r_rr ?_ | refine e_cr ?_ | refine r_cr ?_ | refine .seq ?_ | refine reg ?_ | refine .block ?_ | refine .skip ?_ | refine .ret ?_ | refine .exit ?_ | refine cndT rfl ?_ | refine cndF rfl ?_ | refine c_dec rfl (fun hc => ?_) (fun hc => ?_) | refine c_ndec rfl (fun hc => ?_) (fun hc => ?_) | refine cnd rfl (fun hc => ?_) (fun hc => ?_) | refine gd rfl rfl rfl (fun hg => ?_) (fun hg => ?_) | refine gn rfl rfl rfl (fun hg => ?_) (fun hg => ?_)
  refine lpR (fun k => k ≤ l.length ∧ ∀ j (h : j < k), ∀ h2 : j < l.length, p l[j] = false) (fun k => l.length - k) (fun k => [(8, I k)]) (fun k => []) (0) [0, 1, 7] [] [] rfl rfl rfl (.of [] (by (repeat' first | exact trivial | refine And.intro ?_ ?_ | rfl); first | done | fail) (by (repeat' first | exact trivial | refine And.intro ?_ ?_ | rfl); first | done | fail) rfl) ?_ ?_
  · exact ⟨Nat.zero_le _, fun j h => by omega⟩
  rintro k ⟨hk, hall⟩
  refine nrm rfl rfl ?_
  repeat' first | refine wr (by omega) ?_ | refine ln ?_ | refine stp lay_ok rfl ?_ | refine fin ?_ | refine n_thn ?_ | refine n_blk ?_ | refine e_thn ?_ | refine e_hit ?_ | refine e_miss rfl ?_ | refine r_thn ?_ | refine r_blk ?_ | refine e_rr ?_ | refine r_rr ?_ | refine e_cr ?_ | refine r_cr ?_ | refine .seq ?_ | refine reg ?_ | refine .block ?_ | refine .skip ?_ | refine .ret ?_ | refine .exit ?_ | refine cndT rfl ?_ | refine cndF rfl ?_ | refine c_dec rfl (fun hc => ?_) (fun hc => ?_) | refine c_ndec rfl (fun hc => ?_) (fun hc => ?_) | refine cnd rfl (fun hc => ?_) (fun hc => ?_) | refine gd rfl rfl rfl (fun hg => ?_) (fun hg => ?_) | refine gn rfl rfl rfl (fun hg => ?_) (fun hg => ?_)
  · have hk' : k < l.length := by omega
    have hat : (l.map rowF)[((k : Nat) : Int).toNat]? = some (rowF l[k]) := by simp [hk']
    have h1 := hf l[k] (List.getElem_mem hk')
    cases hp : p l[k] with
    | true =>
      rw [hp] at h1
      repeat' first | refine wr (by omega) ?_ | refine ln ?_ | refine stp lay_ok rfl ?_ | refine fin ?_ | refine n_thn ?_ | refine n_blk ?_ | refine e_thn ?_ | refine e_hit ?_ | refine e_miss rfl ?_ | refine r_thn ?_ | refine r_blk ?_ | refine e_rr ?_ | refine r_rr ?_ | refine e_cr ?_ | refine r_cr ?_ | refine .seq ?_ | refine reg ?_ | refine .block ?_ | refine .skip ?_ | refine .ret ?_ | refine .exit ?_ | refine cndT rfl ?_ | refine cndF rfl ?_ | refine c_dec rfl (fun hc => ?_) (fun hc => ?_) | refine c_ndec rfl (fun hc => ?_) (fun hc => ?_) | refine cnd rfl (fun hc => ?_) (fun hc => ?_) | ((first | refine o_none rfl ?_ | refine o_none_ ?_ | refine o_yes rfl rfl rfl ?_ | refine o_yes_ rfl rfl ?_); first | refine st_index (rowF l[k]) lay_ok rfl rfl rfl rfl (by omega) hat ?_ | refine st_pure (h1) bf rfl rfl rfl rfl ?_) | refine gd rfl rfl rfl (fun hg => ?_) (fun hg => ?_) | refine gn rfl rfl rfl (fun hg => ?_) (fun hg => ?_)
      refine f_r [] rfl trivial rfl ⟨?_, rfl⟩
      rw [fidx_step _ l k hk' (fun j h => hall j h _) hp]; rfl
    | false =>
      rw [hp] at h1
      repeat' first | refine wr (by omega) ?_ | refine ln ?_ | refine stp lay_ok rfl ?_ | refine fin ?_ | refine n_thn ?_ | refine n_blk ?_ | refine e_thn ?_ | refine e_hit ?_ | refine e_miss rfl ?_ | refine r_thn ?_ | refine r_blk ?_ | refine e_rr ?_ | refine r_rr ?_ | refine e_cr ?_ | refine r_cr ?_ | refine .seq ?_ | refine reg ?_ | refine .block ?_ | refine .skip ?_ | refine .ret ?_ | refine .exit ?_ | refine cndT rfl ?_ | refine cndF rfl ?_ | refine c_dec rfl (fun hc => ?_) (fun hc => ?_) | refine c_ndec rfl (fun hc => ?_) (fun hc => ?_) | refine cnd rfl (fun hc => ?_) (fun hc => ?_) | ((first | refine o_none rfl ?_ | refine o_none_ ?_ | refine o_yes rfl rfl rfl ?_ | refine o_yes_ rfl rfl ?_); first | refine st_index (rowF l[k]) lay_ok rfl rfl rfl rfl (by omega) hat ?_ | refine st_pure (h1) bf rfl rfl rfl rfl ?_) | refine gd rfl rfl rfl (fun hg => ?_) (fun hg => ?_) | refine gn rfl rfl rfl (fun hg => ?_) (fun hg => ?_)
      refine n_rr (k + 1) ?_ (.of [] (by (repeat' first | exact trivial | refine And.intro ?_ ?_ | rfl); first | done | fail) (by (repeat' first | exact trivial | refine And.intro ?_ ?_ | rfl); first | done | fail) rfl) ?_
      · omega
      · refine ⟨hk', fun j h h2 => ?_⟩
        by_cases hj : j = k
        · subst hj; exact hp
        · exact hall j (by omega) h2
  · refine f_r [] rfl trivial rfl ⟨?_, rfl⟩
    rw [fidx_none _ l (fun j h => hall j (by omega) h)]; rfl
theorem conF_ok (f : Nat) (bf : HasBody prog f) (cs : List SV) (p : FV → Bool) (l : List FV) (hl : l.length ≤ 4000000000) (hf : ∀ e ∈ l, ACalls prog f 0 [.st (.agg (rowF e)), .st (.sptr cs)] [] fun r h => r = B (p e) ∧ h = []) :
    ACalls prog 54 0 [.st (.sl 2 (l.map rowF)), .fn (.func f) [] [.st (.sptr cs)]] [] fun r h => r = B (l.any p) ∧ h = [] := by
  refine fnC lay_ok func54 rfl rfl rfl rfl rfl ?_
  have h1 := idxF_ok f bf cs p l hl hf
  repeat' first | refine wr (by omega) ?_ | refine ln ?_ | refine stp lay_ok rfl ?_ | refine fin ?_ | refine n_thn ?_ | refine n_blk ?_ | refine e_thn ?_ | refine e_hit ?_ | refine e_miss rfl ?_ | refine r_thn ?_ | refine r_blk ?_ | refine e_rr ?_ | refine r_rr ?_ | refine e_cr ?_ | refine r_cr ?_ | refine .seq ?_ | refine reg ?_ | refine .block ?_ | refine .skip ?_ | refine .ret ?_ | refine .exit ?_ | refine cndT rfl ?_ | refine cndF rfl ?_ | refine c_dec rfl (fun hc => ?_) (fun hc => ?_) | refine c_ndec rfl (fun hc => ?_) (fun hc => ?_) | refine cnd rfl (fun hc => ?_) (fun hc => ?_) | ((first | refine o_none rfl ?_ | refine o_none_ ?_ | refine o_yes rfl rfl rfl ?_ | refine o_yes_ rfl rfl ?_); first | refine st_pure (h1) b77 rfl rfl rfl rfl ?_) | refine gd rfl rfl rfl (fun hg => ?_) (fun hg => ?_) | refine gn rfl rfl rfl (fun hg => ?_) (fun hg => ?_)
  refine f_r [] rfl trivial rfl ⟨?_, rfl⟩
  rw [← fidx_any]; rfl
theorem at_rowF {l : List FV} {k : Nat} (h : k < l.length) : (l.map rowF)[((k : Nat) : Int).toNat]? = some (rowF l[k]) := by simp [h]
/-- What is amiss with the file at i. -/
def fileC (l : List FV) (i : Nat) (f : FV) : Option Int :=
  if pathOk f.path then if 1024 < f.bytes.size then some 7 else if (l.take i).any (fun x => clashB x.path f.path) then some 4 else none
  else some 2
set_option maxHeartbeats 2000000 in
theorem file_ok (l : List FV) (i : Nat) (hi : i < l.length) (hl : l.length ≤ 4000000000) (hp : ∀ e ∈ l, e.path.size ≤ 4000000000 - 1) :
    ACalls prog 30 0 [.st (.sl 2 (l.map rowF)), I i] [] fun r h => r = errO (fileC l i l[i]) ∧ h = [] := by
  have hat := at_rowF hi
  have hc1 := pathCheck_ok l[i].path (hp _ (List.getElem_mem hi))
  have hu := conF_ok 55 b55 (rowF l[i]) (fun x => clashB x.path l[i].path) (l.take i) (by simp; omega) (fun x hx => file1_ok l[i] x (hp _ (List.getElem_mem hi)) (hp _ (List.mem_of_mem_take hx)))
  have hm : (List.map rowF l).length = l.length := List.length_map _
  have ht : i ≤ (l.map rowF).length := by omega
  rw [List.map_take] at hu
  generalize he : l[i] = e at *
  obtain ⟨p, z⟩ := e
  refine fnC lay_ok func30 rfl rfl rfl rfl rfl ?_
  cases hpo : pathOk p with
  | false =>
    simp only [hpo, if_true, if_false, Bool.false_eq_true] at hc1
    repeat' first | refine o_frb 0 [.str p, .str z] rfl rfl rfl (by (repeat' first | exact trivial | refine And.intro ?_ ?_ | rfl); first | done | fail) (by (repeat' first | exact trivial | refine And.intro ?_ ?_ | rfl); first | done | fail) rfl rfl ?_ | refine wr (by omega) ?_ | refine ln ?_ | refine stp lay_ok rfl ?_ | refine fin ?_ | refine n_thn ?_ | refine n_blk ?_ | refine e_thn ?_ | refine e_hit ?_ | refine e_miss rfl ?_ | refine r_thn ?_ | refine r_blk ?_ | refine e_rr ?_ | refine r_rr ?_ | refine e_cr ?_ | refine r_cr ?_ | refine .seq ?_ | refine reg ?_ | refine .block ?_ | refine .skip ?_ | refine .ret ?_ | refine .exit ?_ | refine cndT rfl ?_ | refine cndF rfl ?_ | refine c_dec rfl (fun hc => ?_) (fun hc => ?_) | refine c_ndec rfl (fun hc => ?_) (fun hc => ?_) | refine cnd rfl (fun hc => ?_) (fun hc => ?_) | ((first | refine o_none rfl ?_ | refine o_none_ ?_ | refine o_yes rfl rfl rfl ?_ | refine o_yes_ rfl rfl ?_); first | refine st_index (rowF ⟨p, z⟩) lay_ok rfl rfl rfl rfl (by omega) hat ?_ | refine st_pure (hc1) b53 rfl rfl rfl rfl ?_) | refine gd rfl rfl rfl (fun hg => ?_) (fun hg => ?_) | refine gn rfl rfl rfl (fun hg => ?_) (fun hg => ?_)
    refine f_r [] rfl trivial rfl ⟨?_, rfl⟩
    simp only [fileC, hpo]; rfl
  | true =>
    simp only [hpo, if_true, if_false, Bool.false_eq_true] at hc1
    by_cases hz : 1024 < z.size
    · repeat' first | refine o_frb 0 [.str p, .str z] rfl rfl rfl (by (repeat' first | exact trivial | refine And.intro ?_ ?_ | rfl); first | done | fail) (by (repeat' first | exact trivial | refine And.intro ?_ ?_ | rfl); first | done | fail) rfl rfl ?_ | refine wr (by omega) ?_ | refine ln ?_ | refine stp lay_ok rfl ?_ | refine fin ?_ | refine n_thn ?_ | refine n_blk ?_ | refine e_thn ?_ | refine e_hit ?_ | refine e_miss rfl ?_ | refine r_thn ?_ | refine r_blk ?_ | refine e_rr ?_ | refine r_rr ?_ | refine e_cr ?_ | refine r_cr ?_ | refine .seq ?_ | refine reg ?_ | refine .block ?_ | refine .skip ?_ | refine .ret ?_ | refine .exit ?_ | refine cndT rfl ?_ | refine cndF rfl ?_ | refine c_dec rfl (fun hc => ?_) (fun hc => ?_) | refine c_ndec rfl (fun hc => ?_) (fun hc => ?_) | refine cnd rfl (fun hc => ?_) (fun hc => ?_) | ((first | refine o_none rfl ?_ | refine o_none_ ?_ | refine o_yes rfl rfl rfl ?_ | refine o_yes_ rfl rfl ?_); first | refine st_index (rowF ⟨p, z⟩) lay_ok rfl rfl rfl rfl (by omega) hat ?_ | refine st_pure (hc1) b53 rfl rfl rfl rfl ?_) | refine gd rfl rfl rfl (fun hg => ?_) (fun hg => ?_) | refine gn rfl rfl rfl (fun hg => ?_) (fun hg => ?_)
      all_goals first
        | (exfalso; omega)
        | skip
      refine f_r [] rfl trivial rfl ⟨?_, rfl⟩
      simp only [fileC, hpo, if_true, if_pos hz]; rfl
    · cases ha : (l.take i).any (fun x => clashB x.path p) <;> simp only [ha] at hu
      all_goals
        repeat' first | refine o_frb 0 [.str p, .str z] rfl rfl rfl (by (repeat' first | exact trivial | refine And.intro ?_ ?_ | rfl); first | done | fail) (by (repeat' first | exact trivial | refine And.intro ?_ ?_ | rfl); first | done | fail) rfl rfl ?_ | refine wr (by omega) ?_ | refine ln ?_ | refine stp lay_ok rfl ?_ | refine fin ?_ | refine n_thn ?_ | refine n_blk ?_ | refine e_thn ?_ | refine e_hit ?_ | refine e_miss rfl ?_ | refine r_thn ?_ | refine r_blk ?_ | refine e_rr ?_ | refine r_rr ?_ | refine e_cr ?_ | refine r_cr ?_ | refine .seq ?_ | refine reg ?_ | refine .block ?_ | refine .skip ?_ | refine .ret ?_ | refine .exit ?_ | refine cndT rfl ?_ | refine cndF rfl ?_ | refine c_dec rfl (fun hc => ?_) (fun hc => ?_) | refine c_ndec rfl (fun hc => ?_) (fun hc => ?_) | refine cnd rfl (fun hc => ?_) (fun hc => ?_) | ((first | refine o_none rfl ?_ | refine o_none_ ?_ | refine o_yes rfl rfl rfl ?_ | refine o_yes_ rfl rfl ?_); first | refine st_index (rowF ⟨p, z⟩) lay_ok rfl rfl rfl rfl (by omega) hat ?_ | refine st_pure (hc1) b53 rfl rfl rfl rfl ?_ | refine st_subL 0 i lay_ok rfl rfl rfl rfl ⟨_, _, rfl, rfl⟩ (Nat.zero_le _) ht ?_ | refine st_pure (hu) b54 rfl rfl rfl rfl ?_) | refine gd rfl rfl rfl (fun hg => ?_) (fun hg => ?_) | refine gn rfl rfl rfl (fun hg => ?_) (fun hg => ?_)
        all_goals first
          | (exfalso; omega)
          | skip
        refine f_r [] rfl trivial rfl ⟨?_, rfl⟩
        simp only [fileC, hpo, if_true, if_neg hz, ha]; rfl
end Go.Proofs.YtmekcbbieacioaaGreatDoorFn
namespace Go.Proofs.YtmekcbbieacioaaGreatDoorFn
open Go.Proofs.YtmekcbbieacioaaGreatDoorAl Go.Proofs.Tryz
attribute [local irreducible] IntKind.wrap CodeOk OpsL OpG ACalls thn inBlk rndR cutR WkR Wk fnR DW ExtOk partsOf
/-! ### a tree is built -/
def fileE (c : CV) (f : FV) : EV := ⟨f.path, f.bytes.size, c.split f.bytes.size f.bytes⟩
def badFile (l : List FV) : Nat → Nat → Option (Nat × Int)
  | 0, _ => none
  | f + 1, i => match l[i]? with
    | none => none
    | some e => match fileC l i e with
      | some n => some (i, n)
      | none => badFile l f (i + 1)
theorem badFile_step (l : List FV) (k : Nat) (h : k < l.length) : badFile l (l.length - k) k = match fileC l k l[k] with
    | some n => some (k, n)
    | none => badFile l (l.length - (k + 1)) (k + 1) := by
  have e : l.length - k = l.length - (k + 1) + 1 := by omega
  rw [e]
  simp only [badFile, List.getElem?_eq_getElem h]
def buildC (l : List FV) (c : CV) : AV := if c.ok = false then .tuple [.st .nilsl, errE 1] else if 32 < l.length then .tuple [.st .nilsl, errE 7] else match badFile l l.length 0 with
  | none => .tuple [.st (.sl 3 ((srtE (l.map (fileE c))).map rowE)), nilE]
  | some (i, n) => .tuple [.st .nilsl, spotE i n]
theorem rowE1_one (e : EV) : ∀ row ∈ [rowE e], ∀ y ∈ row, SV.one y = true := by
  intro row hr y hy
  simp only [List.mem_singleton] at hr
  subst hr
  simp only [rowE, List.mem_cons, List.not_mem_nil, or_false] at hy
  rcases hy with rfl | rfl | rfl <;> rfl
theorem fileC_size {l : List FV} {i : Nat} {f : FV} (h : fileC l i f = none) : f.bytes.size ≤ 1024 := by
  unfold fileC at h
  split at h
  · split at h
    · cases h
    · omega
  · cases h
set_option maxHeartbeats 8000000 in
set_option maxRecDepth 4000 in
theorem build_ok (l : List FV) (c : CV) (hl : l.length ≤ 4000000000) (hp : ∀ e ∈ l, e.path.size ≤ 4000000000 - 1) (hb : ∀ e ∈ l, e.bytes.size ≤ 4000000000) :
    ACalls prog 12 0 [.st (.sl 2 (l.map rowF)), cutE c] [] fun r h => r = buildC l c ∧ h = [] := by
  have hmay := may3_ok c
  have hm : (List.map rowF l).length = l.length := List.length_map _
  unfold buildC
  refine fnC lay_ok func12 rfl rfl rfl rfl rfl ?_
  cases hok : c.ok with
  | false =>
    rw [hok] at hmay
    repeat' first | refine wr (by omega) ?_ | refine ln ?_ | refine stp lay_ok rfl ?_ | refine fin ?_ | refine n_thn ?_ | refine n_blk ?_ | refine e_thn ?_ | refine e_hit ?_ | refine e_miss rfl ?_ | refine r_thn ?_ | refine r_blk ?_ | refine e_rr ?_ | refine r_rr ?_ | refine e_cr ?_ | refine r_cr ?_ | refine .seq ?_ | refine reg ?_ | refine .block ?_ | refine .skip ?_ | refine .ret ?_ | refine .exit ?_ | refine cndT rfl ?_ | refine cndF rfl ?_ | refine c_dec rfl (fun hc => ?_) (fun hc => ?_) | refine c_ndec rfl (fun hc => ?_) (fun hc => ?_) | refine cnd rfl (fun hc => ?_) (fun hc => ?_) | ((first | refine o_none rfl ?_ | refine o_none_ ?_ | refine o_yes rfl rfl rfl ?_ | refine o_yes_ rfl rfl ?_); first | refine st_pure (hmay) b29 rfl rfl rfl rfl ?_) | refine gd rfl rfl rfl (fun hg => ?_) (fun hg => ?_) | refine gn rfl rfl rfl (fun hg => ?_) (fun hg => ?_)
    all_goals first
      | (exfalso; omega)
      | skip
    refine f_r [] rfl trivial rfl ⟨?_, rfl⟩
    rfl
  | true =>
    rw [hok] at hmay
    rw [if_neg (by simp)]
    by_cases h32 : 32 < l.length
    · rw [if_pos h32]
      repeat' first | refine wr (by omega) ?_ | refine ln ?_ | refine stp lay_ok rfl ?_ | refine fin ?_ | refine n_thn ?_ | refine n_blk ?_ | refine e_thn ?_ | refine e_hit ?_ | refine e_miss rfl ?_ | refine r_thn ?_ | refine r_blk ?_ | refine e_rr ?_ | refine r_rr ?_ | refine e_cr ?_ | refine r_cr ?_ | refine .seq ?_ | refine reg ?_ | refine .block ?_ | refine .skip ?_ | refine .ret ?_ | refine .exit ?_ | refine cndT rfl ?_ | refine cndF rfl ?_ | refine c_dec rfl (fun hc => ?_) (fun hc => ?_) | refine c_ndec rfl (fun hc => ?_) (fun hc => ?_) | refine cnd rfl (fun hc => ?_) (fun hc => ?_) | ((first | refine o_none rfl ?_ | refine o_none_ ?_ | refine o_yes rfl rfl rfl ?_ | refine o_yes_ rfl rfl ?_); first | refine st_pure (hmay) b29 rfl rfl rfl rfl ?_) | refine gd rfl rfl rfl (fun hg => ?_) (fun hg => ?_) | refine gn rfl rfl rfl (fun hg => ?_) (fun hg => ?_)
      all_goals first
        | (exfalso; omega)
        | skip
      refine f_r [] rfl trivial rfl ⟨?_, rfl⟩
      rfl
    rw [if_neg h32]
    repeat' first | refine wr (by omega) ?_ | refine ln ?_ | refine stp lay_ok rfl ?_ | refine fin ?_ | refine n_thn ?_ | refine n_blk ?_ | refine e_thn ?_ | refine e_hit ?_ | refine e_miss rfl ?_ | refine r_thn ?_ | refine r_blk ?_ | refine e_rr ?_ | refine r_rr ?_ | refine e_cr ?_ | refine r_cr ?_ | refine .seq ?_ | refine reg ?_ | refine .block ?_ | refine .skip ?_ | refine .ret ?_ | refine .exit ?_ | refine cndT rfl ?_ | refine cndF rfl ?_ | refine c_dec rfl (fun hc => ?_) (fun hc => ?_) | refine c_ndec rfl (fun hc => ?_) (fun hc => ?_) | refine cnd rfl (fun hc => ?_) (fun hc => ?_) | ((first | refine o_none rfl ?_ | refine o_none_ ?_ | refine o_yes rfl rfl rfl ?_ | refine o_yes_ rfl rfl ?_); first | refine st_pure (hmay) b29 rfl rfl rfl rfl ?_) | refine gd rfl rfl rfl (fun hg => ?_) (fun hg => ?_) | refine gn rfl rfl rfl (fun hg => ?_) (fun hg => ?_)
    all_goals first
      | (exfalso; omega)
      | skip
    refine CodeOk.wk (Wk.nilT 3 6 rfl rfl) (Nat.le_succ _) ?_
    refine nrm rfl rfl ?_
    refine lpR (fun (k, out) => k ≤ l.length ∧ badFile l l.length 0 = badFile l (l.length - k) k ∧ out = (l.take k).map (fileE c)) (fun (k, out) => l.length - k) (fun (k, out) => [(24, I k), (6, .lsl 2 3 0 (out.map rowE).length)]) (fun (k, out) => [(2, .arr 3 (out.map rowE))]) ((0, [])) [0, 3, 22, 23] [] [1] rfl rfl rfl (.of [1] (by (repeat' first | exact trivial | refine And.intro ?_ ?_ | rfl); first | done | fail) (by (repeat' first | exact trivial | refine And.intro ?_ ?_ | rfl); first | done | fail) rfl) ?_ ?_
    · exact ⟨Nat.zero_le _, rfl, rfl⟩
    rintro ⟨k, out⟩ ⟨g1, g2, g3⟩
    refine nrm rfl rfl ?_
    have hmo : (List.map rowE out).length = out.length := List.length_map _
    have hol : out.length = k := by rw [g3]; simp; omega
    by_cases hk : k < l.length
    case neg =>
      have hke : k = l.length := by omega
      subst hke
      rw [List.take_length] at g3
      rw [Nat.sub_self] at g2
      rw [g2, badFile, ← g3]
      have hs := sort_ok out (by omega)
      have hlen : out.length = (List.map rowE (srtE out)).length := by rw [List.length_map, (srtE_facts out).1.length_eq]
      rw [hmo]
      generalize srtE out = so at *
      rw [hlen] at hs ⊢
      repeat' first | refine wr (by omega) ?_ | refine ln ?_ | refine stp lay_ok rfl ?_ | refine fin ?_ | refine n_thn ?_ | refine n_blk ?_ | refine e_thn ?_ | refine e_hit ?_ | refine e_miss rfl ?_ | refine r_thn ?_ | refine r_blk ?_ | refine e_rr ?_ | refine r_rr ?_ | refine e_cr ?_ | refine r_cr ?_ | refine .seq ?_ | refine reg ?_ | refine .block ?_ | refine .skip ?_ | refine .ret ?_ | refine .exit ?_ | refine cndT rfl ?_ | refine cndF rfl ?_ | refine c_dec rfl (fun hc => ?_) (fun hc => ?_) | refine c_ndec rfl (fun hc => ?_) (fun hc => ?_) | refine cnd rfl (fun hc => ?_) (fun hc => ?_) | ((first | refine o_none rfl ?_ | refine o_none_ ?_ | refine o_yes rfl rfl rfl ?_ | refine o_yes_ rfl rfl ?_); first | refine st_callF 0 (hs) b32 rfl rfl rfl rfl rfl rfl (by (repeat' first | exact trivial | refine And.intro ?_ ?_ | rfl); first | done | fail) rfl ?_) | refine gd rfl rfl rfl (fun hg => ?_) (fun hg => ?_) | refine gn rfl rfl rfl (fun hg => ?_) (fun hg => ?_)
      all_goals first
        | (exfalso; omega)
        | skip
      refine f_end (n0 := 0) (t'' := [(4, .st (.sl 3 (so.map rowE))), (5, nilE)]) (h'' := []) (Wk.then (Wk.frz 2 [4, 5] rfl rfl rfl (by (repeat' first | exact trivial | refine And.intro ?_ ?_ | rfl); first | done | fail) (by (repeat' first | exact trivial | refine And.intro ?_ ?_ | rfl); first | done | fail) rfl rfl) (WkR.of [] (by (repeat' first | exact trivial | refine And.intro ?_ ?_ | rfl); first | done | fail) (by (repeat' first | exact trivial | refine And.intro ?_ ?_ | rfl); first | done | fail) rfl)) rfl rfl ⟨?_, rfl⟩
      rfl
    have hat := at_rowF hk
    have hf := file_ok l k hk hl hp
    have hst := badFile_step l k hk
    have hbk := hb _ (List.getElem_mem hk)
    have htk : (l.take (k + 1)).map (fileE c) = out ++ [fileE c l[k]] := by
      rw [g3, List.take_succ_eq_append_getElem hk, List.map_append]; rfl
    generalize he : l[k] = e at *
    have hsp := split3_ok c e.bytes hbk
    have hr : List.map rowE out ++ [rowE (fileE c e)] = List.map rowE (out ++ [fileE c e]) := by rw [List.map_append]; rfl
    cases hx : fileC l k e with
    | some n =>
      rw [hx] at hf hst
      rw [hst] at g2
      rw [g2]
      obtain ⟨p, z⟩ := e
      repeat' first | refine o_frb 4 [.int .i64 k, .iface 49 (.int .i64 n)] rfl rfl rfl (by (repeat' first | exact trivial | refine And.intro ?_ ?_ | rfl); first | done | fail) (by (repeat' first | exact trivial | refine And.intro ?_ ?_ | rfl); first | done | fail) rfl rfl ?_ | refine wr (by omega) ?_ | refine ln ?_ | refine stp lay_ok rfl ?_ | refine fin ?_ | refine n_thn ?_ | refine n_blk ?_ | refine e_thn ?_ | refine e_hit ?_ | refine e_miss rfl ?_ | refine r_thn ?_ | refine r_blk ?_ | refine e_rr ?_ | refine r_rr ?_ | refine e_cr ?_ | refine r_cr ?_ | refine .seq ?_ | refine reg ?_ | refine .block ?_ | refine .skip ?_ | refine .ret ?_ | refine .exit ?_ | refine cndT rfl ?_ | refine cndF rfl ?_ | refine c_dec rfl (fun hc => ?_) (fun hc => ?_) | refine c_ndec rfl (fun hc => ?_) (fun hc => ?_) | refine cnd rfl (fun hc => ?_) (fun hc => ?_) | ((first | refine o_none rfl ?_ | refine o_none_ ?_ | refine o_yes rfl rfl rfl ?_ | refine o_yes_ rfl rfl ?_); first | refine st_index (rowF ⟨p, z⟩) lay_ok rfl rfl rfl rfl (by omega) hat ?_ | refine st_pure (hf) b30 rfl rfl rfl rfl ?_) | refine gd rfl rfl rfl (fun hg => ?_) (fun hg => ?_) | refine gn rfl rfl rfl (fun hg => ?_) (fun hg => ?_)
      all_goals first
        | (exfalso; omega)
        | skip
      refine f_r [] rfl trivial rfl ⟨?_, rfl⟩
      rfl
    | none =>
      have hz := fileC_size hx
      rw [hx] at hf hst
      rw [hst] at g2
      rw [splR, hok, if_neg (by simp), if_neg (by omega)] at hsp
      obtain ⟨p, z⟩ := e
      repeat' first | refine wr (by omega) ?_ | refine ln ?_ | refine stp lay_ok rfl ?_ | refine fin ?_ | refine n_thn ?_ | refine n_blk ?_ | refine e_thn ?_ | refine e_hit ?_ | refine e_miss rfl ?_ | refine r_thn ?_ | refine r_blk ?_ | refine e_rr ?_ | refine r_rr ?_ | refine e_cr ?_ | refine r_cr ?_ | refine .seq ?_ | refine reg ?_ | refine .block ?_ | refine .skip ?_ | refine .ret ?_ | refine .exit ?_ | refine cndT rfl ?_ | refine cndF rfl ?_ | refine c_dec rfl (fun hc => ?_) (fun hc => ?_) | refine c_ndec rfl (fun hc => ?_) (fun hc => ?_) | refine cnd rfl (fun hc => ?_) (fun hc => ?_) | ((first | refine o_none rfl ?_ | refine o_none_ ?_ | refine o_yes rfl rfl rfl ?_ | refine o_yes_ rfl rfl ?_); first | refine st_index (rowF ⟨p, z⟩) lay_ok rfl rfl rfl rfl (by omega) hat ?_ | refine st_pure (hf) b30 rfl rfl rfl rfl ?_ | refine st_pure (hsp) b31 rfl rfl rfl rfl ?_ | refine st_append lay_ok rfl rfl rfl rfl rfl rfl rfl rfl (.lsl rfl rfl) (.sl (rows := [rowE (fileE c ⟨p, z⟩)])) rfl (rowE1_one (fileE c ⟨p, z⟩)) (by simp only [List.length_cons, List.length_nil]; omega) (by simp only [List.length_cons, List.length_nil]; omega) ?_) | refine gd rfl rfl rfl (fun hg => ?_) (fun hg => ?_) | refine gn rfl rfl rfl (fun hg => ?_) (fun hg => ?_)
      all_goals first
        | (exfalso; omega)
        | skip
      rw [hr]
      refine n_rr ((k + 1, out ++ [fileE c ⟨p, z⟩])) ?_ (.of [4] (by (repeat' first | exact trivial | refine And.intro ?_ ?_ | rfl); first | done | fail) (by (repeat' first | exact trivial | refine And.intro ?_ ?_ | rfl); first | done | fail) rfl) ?_
      · show l.length - (k + 1) < l.length - k
        omega
      · exact ⟨hk, g2, htk.symm⟩
end Go.Proofs.YtmekcbbieacioaaGreatDoorFn
namespace Go.Proofs.YtmekcbbieacioaaGreatDoorFn
open Go.Proofs.YtmekcbbieacioaaGreatDoorAl Go.Proofs.Tryz
attribute [local irreducible] IntKind.wrap CodeOk OpsL OpG ACalls thn inBlk rndR cutR WkR Wk fnR DW ExtOk partsOf
theorem b10 : HasBody prog 10 := ⟨f10, func10, Option.some_ne_none _, by decide⟩
theorem b11 : HasBody prog 11 := ⟨f11, func11, Option.some_ne_none _, by decide⟩
/-! ### the head of the statements -/
def fA : FV := ⟨⟨#[97]⟩, ⟨#[120, 121, 122]⟩⟩
def cA : CV := ⟨2, 2, 0⟩
def eA : EV := ⟨⟨#[97]⟩, 3, [⟨#[120, 121]⟩, ⟨#[122]⟩]⟩
theorem buildA : buildC [fA] cA = .tuple [.st (.sl 3 [rowE eA]), nilE] := by
  have h1 : badFile [fA] 1 0 = none := by kernel_rfl
  have h2 : fileE cA fA = eA := by kernel_rfl
  have h3 : srtE [fileE cA fA] = [fileE cA fA] := List.perm_singleton.1 (srtE_facts _).1
  unfold buildC
  rw [if_neg (by decide), if_neg (by decide)]
  show (match badFile [fA] 1 0 with
    | none => AV.tuple [.st (.sl 3 ((srtE [fileE cA fA]).map rowE)), nilE]
    | some (i, n) => .tuple [.st .nilsl, spotE i n]) = _
  rw [h1, h3, h2]
  rfl
theorem checkA : treeC [⟨⟨#[]⟩, 0, []⟩] = spotE 0 2 := by kernel_rfl
set_option maxHeartbeats 4000000 in
theorem up_ok (o' : Obj) (hO : LaidE o') : ACalls prog 10 1 [] [(0, .fact 0 o')] fun r h => r = B true ∧ h = [(0, .fact 0 o')] := by
  have hb := build_ok [fA] cA (by decide) (by simp [fA]; decide) (by simp [fA]; decide)
  rw [buildA] at hb
  have hc := treeCheck_ok [⟨⟨#[]⟩, 0, []⟩] (by decide) (by simp; decide) (by simp)
  rw [checkA] at hc
  have hi := Is_ok o' hO 0 2
  have r1 : (rowE eA) = [.str ⟨#[97]⟩, .int .i64 3, .sl 1 [rowS ⟨#[120, 121]⟩, rowS ⟨#[122]⟩]] := rfl
  rw [r1] at hb
  refine fnC lay_ok func10 rfl rfl rfl rfl rfl ?_
  repeat' first | refine wr (by omega) ?_ | refine ln ?_ | refine stp lay_ok rfl ?_ | refine fin ?_ | refine n_thn ?_ | refine n_blk ?_ | refine e_thn ?_ | refine e_hit ?_ | refine e_miss rfl ?_ | refine r_thn ?_ | refine r_blk ?_ | refine e_rr ?_ | refine r_rr ?_ | refine e_cr ?_ | refine r_cr ?_ | refine .seq ?_ | refine reg ?_ | refine .block ?_ | refine .skip ?_ | refine .ret ?_ | refine .exit ?_ | refine cndT rfl ?_ | refine cndF rfl ?_ | refine c_dec rfl (fun hc => ?_) (fun hc => ?_) | refine c_ndec rfl (fun hc => ?_) (fun hc => ?_) | refine cnd rfl (fun hc => ?_) (fun hc => ?_) | ((first | refine o_none rfl ?_ | refine o_none_ ?_ | refine o_yes rfl rfl rfl ?_ | refine o_yes_ rfl rfl ?_); first | refine st_pure (hb) b12 rfl rfl rfl rfl ?_ | refine st_pureL (hc) b17 rfl (by (repeat' first | exact AVLeL.nil | refine AVLeL.cons ?_ ?_ | exact AVLe.refl _ | refine AVLe.st ?_ | exact SLe.refl _ | exact SLe.nil _ | exact SLe.sl0 _ | refine SLe.agg ?_ | refine SLe.sl ?_ | refine SLe.iface ?_ | exact SLeL.nil | refine SLeL.cons ?_ ?_ | exact RLe.nil' | refine RLe.cons' rfl ?_ ?_); first | done | fail) rfl rfl rfl ?_ | refine st_callK [0] (hi) b27 rfl rfl rfl rfl rfl (by (repeat' first | exact trivial | refine And.intro ?_ ?_ | rfl); first | done | fail) ?_ | refine st_index [.str ⟨#[97]⟩, .int .i64 3, .sl 1 [rowS ⟨#[120, 121]⟩, rowS ⟨#[122]⟩]] lay_ok rfl rfl rfl rfl (by omega) rfl ?_ | refine st_index (rowS ⟨#[122]⟩) lay_ok rfl rfl rfl rfl (by omega) rfl ?_) | refine gd rfl rfl rfl (fun hg => ?_) (fun hg => ?_) | refine gn rfl rfl rfl (fun hg => ?_) (fun hg => ?_)
  refine f_r [(0, .fact 0 o')] rfl (by (repeat' first | exact trivial | refine And.intro ?_ ?_ | rfl); first | done | fail) rfl ⟨?_, rfl⟩
  rfl
def fewB (f : FV) : Bool := decide (f.path.size ≤ 2000) && decide (f.bytes.size ≤ 3000)
theorem few_ok (l : List FV) (hl : l.length ≤ 140737488351232) : ACalls prog 11 0 [.st (.sl 2 (l.map rowF))] [] fun r h => r = B (decide (l.length ≤ 100) && l.all fewB) ∧ h = [] := by
  have hm : (List.map rowF l).length = l.length := List.length_map _
  refine fnC lay_ok func11 rfl rfl rfl rfl rfl ?_
  by_cases h100 : l.length ≤ 100
  case neg =>
    repeat' first | refine wr (by omega) ?_ | refine ln ?_ | refine stp lay_ok rfl ?_ | refine fin ?_ | refine n_thn ?_ | refine n_blk ?_ | refine e_thn ?_ | refine e_hit ?_ | refine e_miss rfl ?_ | refine r_thn ?_ | refine r_blk ?_ | refine e_rr ?_ | refine r_rr ?_ | refine e_cr ?_ | refine r_cr ?_ | refine .seq ?_ | refine reg ?_ | refine .block ?_ | refine .skip ?_ | refine .ret ?_ | refine .exit ?_ | refine cndT rfl ?_ | refine cndF rfl ?_ | refine c_dec rfl (fun hc => ?_) (fun hc => ?_) | refine c_ndec rfl (fun hc => ?_) (fun hc => ?_) | refine cnd rfl (fun hc => ?_) (fun hc => ?_) | refine gd rfl rfl rfl (fun hg => ?_) (fun hg => ?_) | refine gn rfl rfl rfl (fun hg => ?_) (fun hg => ?_)
    all_goals first
      | (exfalso; omega)
      | skip
    refine f_r [] rfl trivial rfl ⟨?_, rfl⟩
    simp [retOf, h100]
  repeat' first | refine wr (by omega) ?_ | refine ln ?_ | refine stp lay_ok rfl ?_ | refine fin ?_ | refine n_thn ?_ | refine n_blk ?_ | refine e_thn ?_ | refine e_hit ?_ | refine e_miss rfl ?_ | refine r_thn ?_ | refine r_blk ?_ | refine e_rr ?_ | refine r_rr ?_ | refine e_cr ?_ | refine r_cr ?_ | refine .seq ?_ | refine reg ?_ | refine .block ?_ | refine .skip ?_ | refine .ret ?_ | refine .exit ?_ | refine cndT rfl ?_ | refine cndF rfl ?_ | refine c_dec rfl (fun hc => ?_) (fun hc => ?_) | refine c_ndec rfl (fun hc => ?_) (fun hc => ?_) | refine cnd rfl (fun hc => ?_) (fun hc => ?_) | refine gd rfl rfl rfl (fun hg => ?_) (fun hg => ?_) | refine gn rfl rfl rfl (fun hg => ?_) (fun hg => ?_)
  all_goals first
    | (exfalso; omega)
    | skip
  refine lpR (fun k => k ≤ l.length ∧ (l.take k).all fewB = true) (fun k => l.length - k) (fun k => [(3, I k)]) (fun k => []) (0) [0] [] [] rfl rfl rfl (.of [] (by (repeat' first | exact trivial | refine And.intro ?_ ?_ | rfl); first | done | fail) (by (repeat' first | exact trivial | refine And.intro ?_ ?_ | rfl); first | done | fail) rfl) ?_ ?_
  · exact ⟨Nat.zero_le _, rfl⟩
  rintro k ⟨g1, g2⟩
  refine nrm rfl rfl ?_
  by_cases hk : k < l.length
  case neg =>
    have hke : k = l.length := by omega
    subst hke
    rw [List.take_length] at g2
    repeat' first | refine wr (by omega) ?_ | refine ln ?_ | refine stp lay_ok rfl ?_ | refine fin ?_ | refine n_thn ?_ | refine n_blk ?_ | refine e_thn ?_ | refine e_hit ?_ | refine e_miss rfl ?_ | refine r_thn ?_ | refine r_blk ?_ | refine e_rr ?_ | refine r_rr ?_ | refine e_cr ?_ | refine r_cr ?_ | refine .seq ?_ | refine reg ?_ | refine .block ?_ | refine .skip ?_ | refine .ret ?_ | refine .exit ?_ | refine cndT rfl ?_ | refine cndF rfl ?_ | refine c_dec rfl (fun hc => ?_) (fun hc => ?_) | refine c_ndec rfl (fun hc => ?_) (fun hc => ?_) | refine cnd rfl (fun hc => ?_) (fun hc => ?_) | refine gd rfl rfl rfl (fun hg => ?_) (fun hg => ?_) | refine gn rfl rfl rfl (fun hg => ?_) (fun hg => ?_)
    all_goals first
      | (exfalso; omega)
      | skip
    refine f_r [] rfl trivial rfl ⟨?_, rfl⟩
    rw [g2]
    simp [retOf, h100]
  have hat := at_rowF hk
  have htk : (l.take (k + 1)).all fewB = ((l.take k).all fewB && fewB l[k]) := by
    rw [List.take_succ_eq_append_getElem hk, List.all_append]; simp
  have hno : fewB l[k] = false → l.all fewB = false := fun h => by
    cases h' : l.all fewB with
    | false => rfl
    | true => rw [List.all_eq_true.1 h' _ (List.getElem_mem hk)] at h; cases h
  generalize l[k] = e at *
  obtain ⟨p, z⟩ := e
  repeat' first | refine wr (by omega) ?_ | refine ln ?_ | refine stp lay_ok rfl ?_ | refine fin ?_ | refine n_thn ?_ | refine n_blk ?_ | refine e_thn ?_ | refine e_hit ?_ | refine e_miss rfl ?_ | refine r_thn ?_ | refine r_blk ?_ | refine e_rr ?_ | refine r_rr ?_ | refine e_cr ?_ | refine r_cr ?_ | refine .seq ?_ | refine reg ?_ | refine .block ?_ | refine .skip ?_ | refine .ret ?_ | refine .exit ?_ | refine cndT rfl ?_ | refine cndF rfl ?_ | refine c_dec rfl (fun hc => ?_) (fun hc => ?_) | refine c_ndec rfl (fun hc => ?_) (fun hc => ?_) | refine cnd rfl (fun hc => ?_) (fun hc => ?_) | ((first | refine o_none rfl ?_ | refine o_none_ ?_ | refine o_yes rfl rfl rfl ?_ | refine o_yes_ rfl rfl ?_); first | refine st_index (rowF ⟨p, z⟩) lay_ok rfl rfl rfl rfl (by omega) hat ?_) | refine gd rfl rfl rfl (fun hg => ?_) (fun hg => ?_) | refine gn rfl rfl rfl (fun hg => ?_) (fun hg => ?_)
  all_goals first
    | (exfalso; omega)
    | skip
  · simp only at hg
    refine f_r [] rfl trivial rfl ⟨?_, rfl⟩
    rw [hno (by simp [fewB]; omega)]
    simp [retOf]
  · simp only at hg hc
    refine f_r [] rfl trivial rfl ⟨?_, rfl⟩
    rw [hno (by simp [fewB]; omega)]
    simp [retOf]
  · simp only at hg hc
    refine n_rr (k + 1) ?_ (.of [] (by (repeat' first | exact trivial | refine And.intro ?_ ?_ | rfl | exact congrArg (fun z : Int => some (AV.st (.int .i64 z))) (show (k : Int) + 1 = ((k + 1 : Nat) : Int) by omega)); first | done | fail) (by (repeat' first | exact trivial | refine And.intro ?_ ?_ | rfl | exact congrArg (fun z : Int => some (AV.st (.int .i64 z))) (show (k : Int) + 1 = ((k + 1 : Nat) : Int) by omega)); first | done | fail) rfl) ?_
    · omega
    · refine ⟨hk, ?_⟩
      rw [htk, g2]
      simp [fewB]; omega
end Go.Proofs.YtmekcbbieacioaaGreatDoorFn
