/- The law TreeLost: for every input it says true: without one of its chunks a tree is not restored, but told at the first entry that has it. No condition. -/
import Derived.Test.YtmekcbbieacioaaGreatDoorP4
import Derived.Test.YtmekcbbieacioaaGreatDoorAlZn
import Derived.KernelRfl
import Derived.Test.YtmekcbbieacioaaGreatDoorRows
import Derived.Test.YtmekcbbieacioaaGreatDoorTie
import Derived.Test.YtmekcbbieacioaaGreatDoorCards
import Derived.Lay
import Derived.LaidMore
import Derived.LaidHandle
import Derived.LaidOnce
import Derived.FnData
import Derived.Test.YtmekcbbieacioaaGreatDoorAlZr
set_option linter.all false
namespace Go.Proofs.YtmekcbbieacioaaGreatDoorFn
open Go.Proofs.YtmekcbbieacioaaGreatDoorAl Go.Proofs.Tryz
attribute [local irreducible] IntKind.wrap CodeOk OpsL OpG ACalls thn inBlk rndR cutR WkR Wk fnR DW ExtOk partsOf
theorem b8 : HasBody prog 8 := ⟨f8, func8, Option.some_ne_none _, by decide⟩
/-! ### without a chunk -/
def allK (T : List EV) : List ByteArray := T.flatMap (·.keys)
theorem allK_take {T : List EV} {k : Nat} (h : k < T.length) : allK (T.take (k + 1)) = allK (T.take k) ++ T[k].keys := by
  unfold allK
  rw [List.take_succ_eq_append_getElem h, List.flatMap_append]; simp
theorem allK_len (T : List EV) (n : Nat) (h : ∀ e ∈ T, e.keys.length ≤ n) : (allK T).length ≤ T.length * n := by
  induction T with
  | nil => simp [allK]
  | cons e r ih =>
    have h1 := ih (fun x hx => h x (List.mem_cons_of_mem _ hx))
    have h2 := h e List.mem_cons_self
    have e1 : allK (e :: r) = e.keys ++ allK r := by unfold allK; rw [List.flatMap_cons]
    rw [e1, List.length_append, List.length_cons, Nat.add_mul]
    omega
def restL (A : List ByteArray) (g : ByteArray) : List ByteArray := A.filter fun x => !decide (x = g)
theorem restL_take {A : List ByteArray} {k : Nat} (g : ByteArray) (h : k < A.length) : restL (A.take (k + 1)) g = restL (A.take k) g ++ (if A[k] = g then [] else [A[k]]) := by
  unfold restL
  rw [List.take_succ_eq_append_getElem h, List.filter_append]
  congr 1
  by_cases hg : A[k] = g
  · rw [if_pos hg]; simp [List.filter_cons, hg]
  · rw [if_neg hg]; simp [List.filter_cons, hg]
theorem memB_rest (A : List ByteArray) (g x : ByteArray) (hx : memB x A = true) : (!memB x (restL A g)) = decide (g = x) := by
  have hA := memB_iff.1 hx
  by_cases hg : g = x
  · subst hg
    rw [decide_eq_true rfl]
    cases h : memB g (restL A g) with
    | false => rfl
    | true =>
      have := memB_iff.1 h
      unfold restL at this
      have := (List.mem_filter.1 this).2
      simp at this
  · rw [decide_eq_false hg]
    have : memB x (restL A g) = true := memB_iff.2 (by
      unfold restL
      exact List.mem_filter.2 ⟨hA, by simp; exact fun h => hg h.symm⟩)
    rw [this]; rfl
theorem lost_mem {T : List EV} {g : ByteArray} {e : EV} (he : e ∈ T) : lostB (restL (allK T) g) e = memB g e.keys := by
  unfold lostB memB
  rw [Bool.eq_iff_iff, List.any_eq_true, List.any_eq_true]
  have hin : ∀ k ∈ e.keys, memB k (allK T) = true := fun k hk => memB_iff.2 (List.mem_flatMap.2 ⟨e, he, hk⟩)
  constructor
  · rintro ⟨k, hk, h⟩
    refine ⟨k, hk, ?_⟩
    rw [← memB_rest (allK T) g k (hin k hk)]; exact h
  · rintro ⟨k, hk, h⟩
    refine ⟨k, hk, ?_⟩
    have := memB_rest (allK T) g k (hin k hk)
    unfold memB at this
    rw [this]; exact h
theorem lostAt_first (cs : List ByteArray) (p : EV → Bool) : ∀ (T : List EV) (i : Nat), (∀ e ∈ T, lostB cs e = p e) → (∃ e ∈ T, p e = true) → ∃ w, ∃ h : w < T.length, lostAt cs T i = some (i + w) ∧ p T[w] = true ∧ ∀ j (hj : j < w), p (T[j]'(by omega)) = false
  | [], i, _, ⟨e, h, _⟩ => by cases h
  | e :: r, i, h1, h2 => by
    unfold lostAt
    rw [h1 e List.mem_cons_self]
    cases hp : p e with
    | true => exact ⟨0, by simp, by simp, by simpa using hp, fun j hj => by omega⟩
    | false =>
      rw [if_neg (by simp)]
      obtain ⟨x, hx, hpx⟩ := h2
      rcases List.mem_cons.1 hx with rfl | hx
      · rw [hp] at hpx; cases hpx
      obtain ⟨w, hw, e1, e2, e3⟩ := lostAt_first cs p r (i + 1) (fun e he => h1 e (List.mem_cons_of_mem _ he)) ⟨x, hx, hpx⟩
      refine ⟨w + 1, by simp; omega, by rw [e1]; congr 1; omega, by simpa using e2, fun j hj => ?_⟩
      cases j with
      | zero => simpa using hp
      | succ j => simpa using e3 j (by omega)
theorem rem_nat (m : Int) (n : Nat) (hm : 0 ≤ m) (hn : 0 < n) : ∃ g : Nat, g < n ∧ divI .rem .i64 m (n : Int) = some (.int .i64 (g : Int)) := by
  obtain ⟨k, rfl⟩ : ∃ k : Nat, m = k := ⟨m.toNat, by omega⟩
  refine ⟨k % n, Nat.mod_lt _ hn, ?_⟩
  simp only [divI]
  rfl
set_option maxHeartbeats 4000000 in
theorem lost_few (o' : Obj) (l : List FV) (c : CV) (z : Int) (hu : ACalls prog 10 1 [] [(0, .fact 0 o')] fun r h => r = B true ∧ h = [(0, .fact 0 o')])
    (hf : ACalls prog 11 0 [.st (.sl 2 (l.map rowF))] [] fun r h => r = B false ∧ h = []) :
    ACalls prog 8 1 [.st (.sl 2 (l.map rowF)), cutE c, I z] [(0, .fact 0 o')] fun r h => r = B true ∧ h = [(0, .fact 0 o')] := by
  refine fnC lay_ok func8 rfl rfl rfl rfl rfl ?_
  repeat' first | refine wr (by omega) ?_ | refine ln ?_ | refine stp lay_ok rfl ?_ | refine fin ?_ | refine n_thn ?_ | refine n_blk ?_ | refine e_thn ?_ | refine e_hit ?_ | refine e_miss rfl ?_ | refine r_thn ?_ | refine r_blk ?_ | refine e_rr ?_ | refine r_rr ?_ | refine e_cr ?_ | refine r_cr ?_ | refine .seq ?_ | refine reg ?_ | refine .block ?_ | refine .skip ?_ | refine .ret ?_ | refine .exit ?_ | refine cndT rfl ?_ | refine cndF rfl ?_ | refine c_dec rfl (fun hc => ?_) (fun hc => ?_) | refine c_ndec rfl (fun hc => ?_) (fun hc => ?_) | refine cnd rfl (fun hc => ?_) (fun hc => ?_) | ((first | refine o_none rfl ?_ | refine o_none_ ?_ | refine o_yes rfl rfl rfl ?_ | refine o_yes_ rfl rfl ?_); first | refine st_callK [0] (hu) b10 rfl rfl rfl rfl rfl (by (repeat' first | exact trivial | refine And.intro ?_ ?_ | rfl); first | done | fail) ?_ | refine st_pure (hf) b11 rfl rfl rfl rfl ?_) | refine gd rfl rfl rfl (fun hg => ?_) (fun hg => ?_) | refine gn rfl rfl rfl (fun hg => ?_) (fun hg => ?_)
  refine f_r [(0, .fact 0 o')] rfl (by (repeat' first | exact trivial | refine And.intro ?_ ?_ | rfl); first | done | fail) rfl ⟨?_, rfl⟩
  rfl
set_option maxHeartbeats 4000000 in
theorem lost_err (o' : Obj) (l : List FV) (c : CV) (z : Int) (E : AV) (hE : IsErr E) (hu : ACalls prog 10 1 [] [(0, .fact 0 o')] fun r h => r = B true ∧ h = [(0, .fact 0 o')])
    (hf : ACalls prog 11 0 [.st (.sl 2 (l.map rowF))] [] fun r h => r = B true ∧ h = [])
    (h1 : ACalls prog 12 0 [.st (.sl 2 (l.map rowF)), cutE c] [] fun r h => r = .tuple [.st .nilsl, E] ∧ h = []) :
    ACalls prog 8 1 [.st (.sl 2 (l.map rowF)), cutE c, I z] [(0, .fact 0 o')] fun r h => r = B true ∧ h = [(0, .fact 0 o')] := by
  refine fnC lay_ok func8 rfl rfl rfl rfl rfl ?_
  rcases hE with ⟨n, rfl⟩ | ⟨i, n, rfl⟩
  all_goals
    repeat' first | refine wr (by omega) ?_ | refine ln ?_ | refine stp lay_ok rfl ?_ | refine fin ?_ | refine n_thn ?_ | refine n_blk ?_ | refine e_thn ?_ | refine e_hit ?_ | refine e_miss rfl ?_ | refine r_thn ?_ | refine r_blk ?_ | refine e_rr ?_ | refine r_rr ?_ | refine e_cr ?_ | refine r_cr ?_ | refine .seq ?_ | refine reg ?_ | refine .block ?_ | refine .skip ?_ | refine .ret ?_ | refine .exit ?_ | refine cndT rfl ?_ | refine cndF rfl ?_ | refine c_dec rfl (fun hc => ?_) (fun hc => ?_) | refine c_ndec rfl (fun hc => ?_) (fun hc => ?_) | refine cnd rfl (fun hc => ?_) (fun hc => ?_) | ((first | refine o_none rfl ?_ | refine o_none_ ?_ | refine o_yes rfl rfl rfl ?_ | refine o_yes_ rfl rfl ?_); first | refine st_callK [0] (hu) b10 rfl rfl rfl rfl rfl (by (repeat' first | exact trivial | refine And.intro ?_ ?_ | rfl); first | done | fail) ?_ | refine st_pure (hf) b11 rfl rfl rfl rfl ?_ | refine st_pure (h1) b12 rfl rfl rfl rfl ?_) | refine gd rfl rfl rfl (fun hg => ?_) (fun hg => ?_) | refine gn rfl rfl rfl (fun hg => ?_) (fun hg => ?_)
    refine f_r [(0, .fact 0 o')] rfl (by (repeat' first | exact trivial | refine And.intro ?_ ?_ | rfl); first | done | fail) rfl ⟨?_, rfl⟩
    rfl
set_option maxHeartbeats 8000000 in
set_option maxRecDepth 4000 in
theorem lost_ok (o' : Obj) (hO : LaidE o') (l : List FV) (c : CV) (z : Int) (hz : -9223372036854775808 ≤ z ∧ z ≤ 9223372036854775807) (T : List EV) (hT : T.length ≤ 32) (hTk : ∀ e ∈ T, e.keys.length ≤ 1024) (hTp : ∀ e ∈ T, e.path.size ≤ 2000) (hTb : badFrom T T.length 0 = none)
    (hu : ACalls prog 10 1 [] [(0, .fact 0 o')] fun r h => r = B true ∧ h = [(0, .fact 0 o')])
    (hf : ACalls prog 11 0 [.st (.sl 2 (l.map rowF))] [] fun r h => r = B true ∧ h = [])
    (h1 : ACalls prog 12 0 [.st (.sl 2 (l.map rowF)), cutE c] [] fun r h => r = .tuple [.st (.sl 3 (T.map rowE)), nilE] ∧ h = []) :
    ACalls prog 8 1 [.st (.sl 2 (l.map rowF)), cutE c, I z] [(0, .fact 0 o')] fun r h => r = B true ∧ h = [(0, .fact 0 o')] := by
  have hmT : (List.map rowE T).length = T.length := List.length_map _
  have hAl := allK_len T 1024 hTk
  refine fnC lay_ok func8 rfl rfl rfl rfl rfl ?_
  repeat' first | refine wr (by omega) ?_ | refine ln ?_ | refine stp lay_ok rfl ?_ | refine fin ?_ | refine n_thn ?_ | refine n_blk ?_ | refine e_thn ?_ | refine e_hit ?_ | refine e_miss rfl ?_ | refine r_thn ?_ | refine r_blk ?_ | refine e_rr ?_ | refine r_rr ?_ | refine e_cr ?_ | refine r_cr ?_ | refine .seq ?_ | refine reg ?_ | refine .block ?_ | refine .skip ?_ | refine .ret ?_ | refine .exit ?_ | refine cndT rfl ?_ | refine cndF rfl ?_ | refine c_dec rfl (fun hc => ?_) (fun hc => ?_) | refine c_ndec rfl (fun hc => ?_) (fun hc => ?_) | refine cnd rfl (fun hc => ?_) (fun hc => ?_) | ((first | refine o_none rfl ?_ | refine o_none_ ?_ | refine o_yes rfl rfl rfl ?_ | refine o_yes_ rfl rfl ?_); first | refine st_callK [0] (hu) b10 rfl rfl rfl rfl rfl (by (repeat' first | exact trivial | refine And.intro ?_ ?_ | rfl); first | done | fail) ?_ | refine st_pure (hf) b11 rfl rfl rfl rfl ?_ | refine st_pure (h1) b12 rfl rfl rfl rfl ?_) | refine gd rfl rfl rfl (fun hg => ?_) (fun hg => ?_) | refine gn rfl rfl rfl (fun hg => ?_) (fun hg => ?_)
  refine CodeOk.wk (Wk.nilT 1 11 rfl rfl) (Nat.le_succ _) ?_
  refine nrm rfl rfl ?_
  refine lpR (fun (i, A) => i ≤ T.length ∧ A = allK (T.take i) ∧ A.length ≤ i * 1024) (fun (i, A) => T.length - i) (fun (i, A) => [(12, I i), (11, .lsl 3 1 0 (A.map rowS).length)]) (fun (i, A) => [(3, .arr 1 (A.map rowS))]) ((0, [])) [2, 7, 9] [] [2] rfl rfl rfl (.of [2] (by (repeat' first | exact trivial | refine And.intro ?_ ?_ | rfl); first | done | fail) (by (repeat' first | exact trivial | refine And.intro ?_ ?_ | rfl); first | done | fail) rfl) ?_ ?_
  · exact ⟨Nat.zero_le _, rfl, by simp⟩
  rintro ⟨i, A⟩ ⟨g1, g2, g3⟩
  refine nrm rfl rfl ?_
  have hmA : (List.map rowS A).length = A.length := List.length_map _
  by_cases hi : i < T.length
  · have hat := at_rowE hi
    have htk := allK_take hi
    have hkk := hTk _ (List.getElem_mem hi)
    rw [← g2] at htk
    generalize T[i] = e at *
    obtain ⟨p, q, ks⟩ := e
    simp only at htk hkk
    have hmk : (List.map rowS ks).length = ks.length := List.length_map _
    have hr : List.map rowS A ++ List.map rowS ks = List.map rowS (A ++ ks) := by rw [List.map_append]
    repeat' first | refine wr (by omega) ?_ | refine ln ?_ | refine stp lay_ok rfl ?_ | refine fin ?_ | refine n_thn ?_ | refine n_blk ?_ | refine e_thn ?_ | refine e_hit ?_ | refine e_miss rfl ?_ | refine r_thn ?_ | refine r_blk ?_ | refine e_rr ?_ | refine r_rr ?_ | refine e_cr ?_ | refine r_cr ?_ | refine .seq ?_ | refine reg ?_ | refine .block ?_ | refine .skip ?_ | refine .ret ?_ | refine .exit ?_ | refine cndT rfl ?_ | refine cndF rfl ?_ | refine c_dec rfl (fun hc => ?_) (fun hc => ?_) | refine c_ndec rfl (fun hc => ?_) (fun hc => ?_) | refine cnd rfl (fun hc => ?_) (fun hc => ?_) | ((first | refine o_none rfl ?_ | refine o_none_ ?_ | refine o_yes rfl rfl rfl ?_ | refine o_yes_ rfl rfl ?_); first | refine st_index (rowE ⟨p, q, ks⟩) lay_ok rfl rfl rfl rfl (by omega) hat ?_ | refine st_append lay_ok rfl rfl rfl rfl rfl rfl rfl rfl (.lsl rfl rfl) .sl rfl rowS_one (by simp only [List.length_map]; omega) (by simp only [List.length_map]; omega) ?_) | refine gd rfl rfl rfl (fun hg => ?_) (fun hg => ?_) | refine gn rfl rfl rfl (fun hg => ?_) (fun hg => ?_)
    all_goals first
      | (exfalso; omega)
      | skip
    rw [hr]
    refine n_rr ((i + 1, A ++ ks)) ?_ (.of [4] (by (repeat' first | exact trivial | refine And.intro ?_ ?_ | rfl | exact congrArg (fun z : Int => some (AV.st (.int .i64 z))) (show (i : Int) + 1 = ((i + 1 : Nat) : Int) by omega)); first | done | fail) (by (repeat' first | exact trivial | refine And.intro ?_ ?_ | rfl | exact congrArg (fun z : Int => some (AV.st (.int .i64 z))) (show (i : Int) + 1 = ((i + 1 : Nat) : Int) by omega)); first | done | fail) rfl) ?_
    · show T.length - (i + 1) < T.length - i; omega
    · exact ⟨hi, htk.symm, by simp; omega⟩
  have hie : i = T.length := by omega
  subst hie
  rw [List.take_length] at g2
  have hr1 : z < 0 → 0 < A.length → ∃ g : Nat, g < A.length ∧ divI .rem .i64 (0 - (z + 1)) (A.length : Int) = some (.int .i64 (g : Int)) := fun h h2 => rem_nat _ _ (by omega) h2
  have hr2 : 0 ≤ z → 0 < A.length → ∃ g : Nat, g < A.length ∧ divI .rem .i64 z (A.length : Int) = some (.int .i64 (g : Int)) := fun h h2 => rem_nat _ _ h h2
  have hloc : ∀ g (h : g < A.length), ∃ w, ∃ hw : w < T.length, lostAt (restL A A[g]) T 0 = some w ∧ memB A[g] T[w].keys = true ∧ ∀ j (hj : j < w), memB A[g] (T[j]'(by omega)).keys = false := fun g h => by
    subst g2
    obtain ⟨e, he, hke⟩ := List.mem_flatMap.1 (List.getElem_mem h)
    obtain ⟨w, hw, e1, e2, e3⟩ := lostAt_first (restL (allK T) (allK T)[g]) (fun e => memB (allK T)[g] e.keys) T 0 (fun e he => lost_mem he) ⟨e, he, memB_iff.2 hke⟩
    exact ⟨w, hw, by rw [e1, Nat.zero_add], e2, e3⟩
  repeat' first | refine wr (by omega) ?_ | refine ln ?_ | refine stp lay_ok rfl ?_ | refine fin ?_ | refine n_thn ?_ | refine n_blk ?_ | refine e_thn ?_ | refine e_hit ?_ | refine e_miss rfl ?_ | refine r_thn ?_ | refine r_blk ?_ | refine e_rr ?_ | refine r_rr ?_ | refine e_cr ?_ | refine r_cr ?_ | refine .seq ?_ | refine reg ?_ | refine .block ?_ | refine .skip ?_ | refine .ret ?_ | refine .exit ?_ | refine cndT rfl ?_ | refine cndF rfl ?_ | refine c_dec rfl (fun hc => ?_) (fun hc => ?_) | refine c_ndec rfl (fun hc => ?_) (fun hc => ?_) | refine cnd rfl (fun hc => ?_) (fun hc => ?_) | refine gd rfl rfl rfl (fun hg => ?_) (fun hg => ?_) | refine gn rfl rfl rfl (fun hg => ?_) (fun hg => ?_)
  all_goals first
    | (exfalso; omega)
    | skip
  · refine f_r [(0, .fact 0 o')] rfl (by (repeat' first | exact trivial | refine And.intro ?_ ?_ | rfl); first | done | fail) rfl ⟨?_, rfl⟩
    rfl
  all_goals
    obtain ⟨g, hgl, hrem⟩ : ∃ g : Nat, g < A.length ∧ _ := by first | exact hr1 (by omega) (by omega) | exact hr2 (by omega) (by omega)
    have hga : (List.map rowS A)[0 + ((g : Nat) : Int).toNat]? = some (rowS A[g]) := by rw [Nat.zero_add]; exact at_rowS hgl
    obtain ⟨w, hw, hl1, hl2, hl3⟩ := hloc g hgl
    clear hr1 hr2 hloc
    generalize A[g] = gk at *
    repeat' first | refine wr (by omega) ?_ | refine ln ?_ | refine stp lay_ok rfl ?_ | refine fin ?_ | refine n_thn ?_ | refine n_blk ?_ | refine e_thn ?_ | refine e_hit ?_ | refine e_miss rfl ?_ | refine r_thn ?_ | refine r_blk ?_ | refine e_rr ?_ | refine r_rr ?_ | refine e_cr ?_ | refine r_cr ?_ | refine .seq ?_ | refine reg ?_ | refine .block ?_ | refine .skip ?_ | refine .ret ?_ | refine .exit ?_ | refine cndT rfl ?_ | refine cndF rfl ?_ | refine c_dec rfl (fun hc => ?_) (fun hc => ?_) | refine c_ndec rfl (fun hc => ?_) (fun hc => ?_) | refine cnd rfl (fun hc => ?_) (fun hc => ?_) | ((first | refine o_none rfl ?_ | refine o_none_ ?_ | refine o_yes rfl rfl rfl ?_ | refine o_yes_ rfl rfl ?_); first | refine st_div rfl rfl hrem (by omega) ?_ | refine st_indexL lay_ok rfl rfl rfl rfl (by omega) (by omega) ?_ | refine st_loadE (rowS gk) lay_ok rfl rfl rfl hga rfl rfl rfl ?_) | refine gd rfl rfl rfl (fun hg => ?_) (fun hg => ?_) | refine gn rfl rfl rfl (fun hg => ?_) (fun hg => ?_)
    all_goals first
      | (exfalso; omega)
      | skip
    refine CodeOk.wk (Wk.frz 3 [ 7, 9, 11, 13, 14, 15] rfl rfl rfl (by (repeat' first | exact trivial | refine And.intro ?_ ?_ | rfl); first | done | fail) (by (repeat' first | exact trivial | refine And.intro ?_ ?_ | rfl); first | done | fail) rfl rfl) (Nat.le_refl _) ?_; refine nrm rfl rfl ?_
    refine CodeOk.wk (Wk.nilT 1 14 rfl rfl) (Nat.le_succ _) ?_
    refine nrm rfl rfl ?_
    refine lpR (fun (i, R) => i ≤ A.length ∧ R = restL (A.take i) gk ∧ R.length ≤ i) (fun (i, R) => A.length - i) (fun (i, R) => [(15, I i), (14, .lsl 5 1 0 (R.map rowS).length)]) (fun (i, R) => [(5, .arr 1 (R.map rowS))]) ((0, [])) [7, 9, 11, 13] [] [4] rfl rfl rfl (.of [4] (by (repeat' first | exact trivial | refine And.intro ?_ ?_ | rfl); first | done | fail) (by (repeat' first | exact trivial | refine And.intro ?_ ?_ | rfl); first | done | fail) rfl) ?_ ?_
    · exact ⟨Nat.zero_le _, rfl, Nat.le_refl _⟩
    rintro ⟨i, R⟩ ⟨q1, q2, q3⟩
    refine nrm rfl rfl ?_
    have hmR : (List.map rowS R).length = R.length := List.length_map _
    by_cases hia : i < A.length
    · have hat := at_rowS hia
      have htk := restL_take gk hia
      rw [← q2] at htk
      generalize A[i] = a at *
      have hr : List.map rowS R ++ [[SV.str a]] = List.map rowS (R ++ [a]) := by rw [List.map_append]; rfl
      by_cases hag : a = gk
      · rw [if_pos hag, List.append_nil] at htk
        repeat' first | refine wr (by omega) ?_ | refine ln ?_ | refine stp lay_ok rfl ?_ | refine fin ?_ | refine n_thn ?_ | refine n_blk ?_ | refine e_thn ?_ | refine e_hit ?_ | refine e_miss rfl ?_ | refine r_thn ?_ | refine r_blk ?_ | refine e_rr ?_ | refine r_rr ?_ | refine e_cr ?_ | refine r_cr ?_ | refine .seq ?_ | refine reg ?_ | refine .block ?_ | refine .skip ?_ | refine .ret ?_ | refine .exit ?_ | refine cndT rfl ?_ | refine cndF rfl ?_ | refine c_dec rfl (fun hc => ?_) (fun hc => ?_) | refine c_ndec rfl (fun hc => ?_) (fun hc => ?_) | refine cnd rfl (fun hc => ?_) (fun hc => ?_) | ((first | refine o_none rfl ?_ | refine o_none_ ?_ | refine o_yes rfl rfl rfl ?_ | refine o_yes_ rfl rfl ?_); first | refine st_index (rowS a) lay_ok rfl rfl rfl rfl (by omega) hat ?_) | refine gd rfl rfl rfl (fun hg => ?_) (fun hg => ?_) | refine gn rfl rfl rfl (fun hg => ?_) (fun hg => ?_)
        all_goals first
          | (exfalso; omega)
          | (exfalso; contradiction)
          | skip
        refine n_rr ((i + 1, R)) ?_ (.of [5] (by (repeat' first | exact trivial | refine And.intro ?_ ?_ | rfl | exact congrArg (fun z : Int => some (AV.st (.int .i64 z))) (show (i : Int) + 1 = ((i + 1 : Nat) : Int) by omega)); first | done | fail) (by (repeat' first | exact trivial | refine And.intro ?_ ?_ | rfl | exact congrArg (fun z : Int => some (AV.st (.int .i64 z))) (show (i : Int) + 1 = ((i + 1 : Nat) : Int) by omega)); first | done | fail) rfl) ?_
        · show A.length - (i + 1) < A.length - i; omega
        · exact ⟨hia, htk.symm, by omega⟩
      · rw [if_neg hag] at htk
        repeat' first | refine wr (by omega) ?_ | refine ln ?_ | refine stp lay_ok rfl ?_ | refine fin ?_ | refine n_thn ?_ | refine n_blk ?_ | refine e_thn ?_ | refine e_hit ?_ | refine e_miss rfl ?_ | refine r_thn ?_ | refine r_blk ?_ | refine e_rr ?_ | refine r_rr ?_ | refine e_cr ?_ | refine r_cr ?_ | refine .seq ?_ | refine reg ?_ | refine .block ?_ | refine .skip ?_ | refine .ret ?_ | refine .exit ?_ | refine cndT rfl ?_ | refine cndF rfl ?_ | refine c_dec rfl (fun hc => ?_) (fun hc => ?_) | refine c_ndec rfl (fun hc => ?_) (fun hc => ?_) | refine cnd rfl (fun hc => ?_) (fun hc => ?_) | ((first | refine o_none rfl ?_ | refine o_none_ ?_ | refine o_yes rfl rfl rfl ?_ | refine o_yes_ rfl rfl ?_); first | refine st_index (rowS a) lay_ok rfl rfl rfl rfl (by omega) hat ?_ | refine st_append lay_ok rfl rfl rfl rfl rfl rfl rfl rfl (.lsl rfl rfl) .sl rfl (rowS_one (b := [a])) (by simp only [List.length_cons, List.length_nil]; omega) (by simp only [List.length_cons, List.length_nil]; omega) ?_) | refine gd rfl rfl rfl (fun hg => ?_) (fun hg => ?_) | refine gn rfl rfl rfl (fun hg => ?_) (fun hg => ?_)
        all_goals first
          | (exfalso; omega)
          | (exfalso; contradiction)
          | skip
        rw [hr]
        refine n_rr ((i + 1, R ++ [a])) ?_ (.of [6] (by (repeat' first | exact trivial | refine And.intro ?_ ?_ | rfl | exact congrArg (fun z : Int => some (AV.st (.int .i64 z))) (show (i : Int) + 1 = ((i + 1 : Nat) : Int) by omega)); first | done | fail) (by (repeat' first | exact trivial | refine And.intro ?_ ?_ | rfl | exact congrArg (fun z : Int => some (AV.st (.int .i64 z))) (show (i : Int) + 1 = ((i + 1 : Nat) : Int) by omega)); first | done | fail) rfl) ?_
        · show A.length - (i + 1) < A.length - i; omega
        · exact ⟨hia, htk.symm, by simp; omega⟩
    have hia' : i = A.length := by omega
    subst hia'
    rw [List.take_length] at q2
    rw [← q2] at hl1
    have hres := restore_ok T R (by omega) (fun e he => by have := hTp e he; omega) (fun e he => by have := hTk e he; omega) (by omega)
    unfold restR at hres
    rw [if_neg (by omega), hTb] at hres
    simp only [hl1] at hres
    have hi3 := Is_ok o' hO w 3
    repeat' first | refine wr (by omega) ?_ | refine ln ?_ | refine stp lay_ok rfl ?_ | refine fin ?_ | refine n_thn ?_ | refine n_blk ?_ | refine e_thn ?_ | refine e_hit ?_ | refine e_miss rfl ?_ | refine r_thn ?_ | refine r_blk ?_ | refine e_rr ?_ | refine r_rr ?_ | refine e_cr ?_ | refine r_cr ?_ | refine .seq ?_ | refine reg ?_ | refine .block ?_ | refine .skip ?_ | refine .ret ?_ | refine .exit ?_ | refine cndT rfl ?_ | refine cndF rfl ?_ | refine c_dec rfl (fun hc => ?_) (fun hc => ?_) | refine c_ndec rfl (fun hc => ?_) (fun hc => ?_) | refine cnd rfl (fun hc => ?_) (fun hc => ?_) | refine gd rfl rfl rfl (fun hg => ?_) (fun hg => ?_) | refine gn rfl rfl rfl (fun hg => ?_) (fun hg => ?_)
    all_goals first
      | (exfalso; omega)
      | skip
    refine OpsL.wk (Wk.frz 5 [ 84, 83, 7, 9, 13] rfl rfl rfl (by (repeat' first | exact trivial | refine And.intro ?_ ?_ | rfl); first | done | fail) (by (repeat' first | exact trivial | refine And.intro ?_ ?_ | rfl); first | done | fail) rfl rfl) (Nat.le_refl _) ?_; refine nrmO rfl rfl ?_
    repeat' first | refine wr (by omega) ?_ | refine ln ?_ | refine stp lay_ok rfl ?_ | refine fin ?_ | refine n_thn ?_ | refine n_blk ?_ | refine e_thn ?_ | refine e_hit ?_ | refine e_miss rfl ?_ | refine r_thn ?_ | refine r_blk ?_ | refine e_rr ?_ | refine r_rr ?_ | refine e_cr ?_ | refine r_cr ?_ | refine .seq ?_ | refine reg ?_ | refine .block ?_ | refine .skip ?_ | refine .ret ?_ | refine .exit ?_ | refine cndT rfl ?_ | refine cndF rfl ?_ | refine c_dec rfl (fun hc => ?_) (fun hc => ?_) | refine c_ndec rfl (fun hc => ?_) (fun hc => ?_) | refine cnd rfl (fun hc => ?_) (fun hc => ?_) | ((first | refine o_none rfl ?_ | refine o_none_ ?_ | refine o_yes rfl rfl rfl ?_ | refine o_yes_ rfl rfl ?_); first | refine st_pure (hres) b23 rfl rfl rfl rfl ?_) | refine gd rfl rfl rfl (fun hg => ?_) (fun hg => ?_) | refine gn rfl rfl rfl (fun hg => ?_) (fun hg => ?_)
    refine lpR (fun j => j ≤ w) (fun j => w - j) (fun j => [(18, I j)]) (fun j => []) (0) [7, 9, 13, 16, 17] [] [] rfl rfl rfl (.of [] (by (repeat' first | exact trivial | refine And.intro ?_ ?_ | rfl); first | done | fail) (by (repeat' first | exact trivial | refine And.intro ?_ ?_ | rfl); first | done | fail) rfl) ?_ ?_
    · exact Nat.zero_le _
    rintro j hjw
    refine nrm rfl rfl ?_
    have hjT : j < T.length := by omega
    have hat := at_rowE hjT
    have hhas := has_ok T[j].keys gk (by have := hTk _ (List.getElem_mem hjT); omega)
    by_cases hj : j < w
    · rw [hl3 j hj] at hhas
      generalize T[j] = e at *
      obtain ⟨p, q, ks⟩ := e
      simp only at hhas
      repeat' first | refine wr (by omega) ?_ | refine ln ?_ | refine stp lay_ok rfl ?_ | refine fin ?_ | refine n_thn ?_ | refine n_blk ?_ | refine e_thn ?_ | refine e_hit ?_ | refine e_miss rfl ?_ | refine r_thn ?_ | refine r_blk ?_ | refine e_rr ?_ | refine r_rr ?_ | refine e_cr ?_ | refine r_cr ?_ | refine .seq ?_ | refine reg ?_ | refine .block ?_ | refine .skip ?_ | refine .ret ?_ | refine .exit ?_ | refine cndT rfl ?_ | refine cndF rfl ?_ | refine c_dec rfl (fun hc => ?_) (fun hc => ?_) | refine c_ndec rfl (fun hc => ?_) (fun hc => ?_) | refine cnd rfl (fun hc => ?_) (fun hc => ?_) | ((first | refine o_none rfl ?_ | refine o_none_ ?_ | refine o_yes rfl rfl rfl ?_ | refine o_yes_ rfl rfl ?_); first | refine st_index (rowE ⟨p, q, ks⟩) lay_ok rfl rfl rfl rfl (by omega) hat ?_ | refine st_pure (hhas) b26 rfl rfl rfl rfl ?_) | refine gd rfl rfl rfl (fun hg => ?_) (fun hg => ?_) | refine gn rfl rfl rfl (fun hg => ?_) (fun hg => ?_)
      refine n_rr (j + 1) ?_ (.of [] (by (repeat' first | exact trivial | refine And.intro ?_ ?_ | rfl | exact congrArg (fun z : Int => some (AV.st (.int .i64 z))) (show (j : Int) + 1 = ((j + 1 : Nat) : Int) by omega)); first | done | fail) (by (repeat' first | exact trivial | refine And.intro ?_ ?_ | rfl | exact congrArg (fun z : Int => some (AV.st (.int .i64 z))) (show (j : Int) + 1 = ((j + 1 : Nat) : Int) by omega)); first | done | fail) rfl) ?_
      · omega
      · omega
    · have hjw' : j = w := by omega
      subst hjw'
      rw [hl2] at hhas
      generalize T[j] = e at *
      obtain ⟨p, q, ks⟩ := e
      simp only at hhas
      repeat' first | refine wr (by omega) ?_ | refine ln ?_ | refine stp lay_ok rfl ?_ | refine fin ?_ | refine n_thn ?_ | refine n_blk ?_ | refine e_thn ?_ | refine e_hit ?_ | refine e_miss rfl ?_ | refine r_thn ?_ | refine r_blk ?_ | refine e_rr ?_ | refine r_rr ?_ | refine e_cr ?_ | refine r_cr ?_ | refine .seq ?_ | refine reg ?_ | refine .block ?_ | refine .skip ?_ | refine .ret ?_ | refine .exit ?_ | refine cndT rfl ?_ | refine cndF rfl ?_ | refine c_dec rfl (fun hc => ?_) (fun hc => ?_) | refine c_ndec rfl (fun hc => ?_) (fun hc => ?_) | refine cnd rfl (fun hc => ?_) (fun hc => ?_) | ((first | refine o_none rfl ?_ | refine o_none_ ?_ | refine o_yes rfl rfl rfl ?_ | refine o_yes_ rfl rfl ?_); first | refine st_index (rowE ⟨p, q, ks⟩) lay_ok rfl rfl rfl rfl (by omega) hat ?_ | refine st_pure (hhas) b26 rfl rfl rfl rfl ?_ | refine st_callK [0] (hi3) b27 rfl rfl rfl rfl rfl (by (repeat' first | exact trivial | refine And.intro ?_ ?_ | rfl); first | done | fail) ?_) | refine gd rfl rfl rfl (fun hg => ?_) (fun hg => ?_) | refine gn rfl rfl rfl (fun hg => ?_) (fun hg => ?_)
      refine f_r [(0, .fact 0 o')] rfl (by (repeat' first | exact trivial | refine And.intro ?_ ?_ | rfl); first | done | fail) rfl ⟨?_, rfl⟩
      rfl
theorem i64_wf {n : Int} (h : (Lit.int .i64 n).wf = true) : -9223372036854775808 ≤ n ∧ n ≤ 9223372036854775807 := by
  simpa [Lit.wf, IntKind.min, IntKind.max, IntKind.signed, IntKind.bits] using h
theorem srt_paths (l : List FV) (c : CV) (n : Nat) (h : ∀ e ∈ l, e.path.size ≤ n) : ∀ e ∈ srtE (l.map (fileE c)), e.path.size ≤ n := fun e he => by
  obtain ⟨f, hf, rfl⟩ := List.mem_map.1 ((srtE_facts (l.map (fileE c))).1.mem_iff.1 he)
  exact h f hf
theorem srt_keys (l : List FV) (c : CV) (hb : badFile l l.length 0 = none) : ∀ e ∈ srtE (l.map (fileE c)), e.keys.length ≤ 1024 := fun e he => by
  obtain ⟨f, hf, rfl⟩ := List.mem_map.1 ((srtE_facts (l.map (fileE c))).1.mem_iff.1 he)
  obtain ⟨i, hi, rfl⟩ := List.getElem_of_mem hf
  have := (fileC_good (badFile_none l l.length 0 hb i (Nat.zero_le _) (by omega) hi)).2.1
  exact Nat.le_trans (c.split_len _ _) this
theorem lawLost_ok (o' : Obj) (hO : LaidE o') (l : List FV) (c : CV) (z : Int) (hl : l.length ≤ 140737488351232) (hz : -9223372036854775808 ≤ z ∧ z ≤ 9223372036854775807) :
    ACalls prog 8 1 [.st (.sl 2 (l.map rowF)), cutE c, I z] [(0, .fact 0 o')] fun r h => r = B true ∧ h = [(0, .fact 0 o')] := by
  have hu := up_ok o' hO
  have hf := few_ok l hl
  cases hfe : decide (l.length ≤ 100) && l.all fewB with
  | false =>
    rw [hfe] at hf
    exact lost_few o' l c z hu hf
  | true =>
    rw [hfe] at hf
    simp only [Bool.and_eq_true, decide_eq_true_eq] at hfe
    obtain ⟨h100, hall⟩ := hfe
    have hbd := few_bounds hall
    have h1 := build_ok l c (by omega) (fun e he => by have := hbd e he; omega) (fun e he => by have := hbd e he; omega)
    unfold buildC at h1
    by_cases hok : c.ok = false
    · rw [if_pos hok] at h1
      exact lost_err o' l c z _ (.inl ⟨_, rfl⟩) hu hf h1
    rw [if_neg hok] at h1
    by_cases h32 : 32 < l.length
    · rw [if_pos h32] at h1
      exact lost_err o' l c z _ (.inl ⟨_, rfl⟩) hu hf h1
    rw [if_neg h32] at h1
    cases hbf : badFile l l.length 0 with
    | some x =>
      obtain ⟨i, n⟩ := x
      rw [hbf] at h1
      exact lost_err o' l c z _ (.inr ⟨_, _, rfl⟩) hu hf h1
    | none =>
      rw [hbf] at h1
      simp only at h1
      have hokt : c.ok = true := by
        cases h : c.ok with
        | true => rfl
        | false => exact absurd h hok
      exact lost_ok o' hO l c z hz _ (by rw [(srtE_facts (l.map (fileE c))).1.length_eq, List.length_map]; omega) (srt_keys l c hbf) (srt_paths l c 2000 fun e he => (hbd e he).1) (built_tree l c hokt hbf) hu hf h1
end Go.Proofs.YtmekcbbieacioaaGreatDoorFn
namespace Go.Proofs.YtmekcbbieacioaaGreatDoorFn
open Go.Proofs.YtmekcbbieacioaaGreatDoorAl Go.Proofs.Tryz Go.ChangeAt Go.RowKit
/-! ### what arguments of the laws' types read as -/
abbrev ΦI (xs : List SV) : Prop := ∃ n, xs = [.int .i64 n] ∧ (Lit.int .i64 n).wf = true
theorem rdI : Rd prog 3 ΦI := rd_int underlying3
abbrev ΦU8 (xs : List SV) : Prop := ∃ n, xs = [.int .u8 n] ∧ (Lit.int .u8 n).wf = true
theorem rdU8 : Rd prog 5 ΦU8 := rd_int underlying5
abbrev ΦB (xs : List SV) : Prop := ∃ b, xs = [.bool b]
theorem rdB : Rd prog 4 ΦB := rd_bool underlying4
abbrev ΦS (xs : List SV) : Prop := ∃ s : ByteArray, xs = [.str s] ∧ s.size ≤ reachBytes
theorem rdS : Rd prog 9 ΦS := rd_str underlying9
abbrev ΦL (sz bytes : Nat) (Φ : List SV → Prop) (xs : List SV) : Prop := ∃ rows, xs = [.sl sz rows] ∧ (∀ row ∈ rows, Φ row) ∧ rows.length * bytes ≤ reachBytes
theorem rdLB : Rd prog 131 (ΦL 1 1 ΦU8) := rd_slice underlying131 (by kernel_rfl) (by kernel_rfl) rfl rdU8
theorem rdLS : Rd prog 39 (ΦL 1 16 ΦS) := rd_slice underlying39 (by kernel_rfl) (by kernel_rfl) rfl rdS
theorem cI : prog.cellsOf 3 = 1 := by kernel_rfl
theorem cB : prog.cellsOf 4 = 1 := by kernel_rfl
theorem cS : prog.cellsOf 9 = 1 := by kernel_rfl
theorem cLS : prog.cellsOf 39 = 1 := by kernel_rfl
theorem cE : prog.cellsOf 41 = 3 := by kernel_rfl
theorem cLE : prog.cellsOf 27 = 1 := by kernel_rfl
abbrev ΦE : List SV → Prop := Pieces [ΦS, ΦI, ΦL 1 16 ΦS]
theorem rdE : Rd prog 41 ΦE := rd_struct underlying41 ⟨rfl, rdS, by rw [cS], rdI, by rw [cI, cS], rdLS, by rw [cE, cI, cS, cLS]; rfl⟩
theorem rdLE : Rd prog 27 (ΦL 3 48 ΦE) := rd_slice underlying27 (by kernel_rfl) (by kernel_rfl) rfl rdE
/-- What is true of whatever a reader of memory brings: sizes that memory has room for. -/
def EV.inMem (e : EV) : Prop := e.path.size ≤ reachBytes ∧ e.keys.length * 16 ≤ reachBytes ∧ ∀ k ∈ e.keys, k.size ≤ reachBytes
theorem ofSs {rows : List (List SV)} (h : ∀ row ∈ rows, ΦS row) : ∃ l : List ByteArray, rows = l.map rowS ∧ ∀ s ∈ l, s.size ≤ reachBytes :=
  rows_map (f := rowS) (Ok := fun s => s.size ≤ reachBytes) h
theorem ofE {xs : List SV} (h : ΦE xs) : ∃ e : EV, xs = rowE e ∧ e.inMem := by
  obtain ⟨_, _, rfl, ⟨p, rfl, hp⟩, _, _, rfl, ⟨z, rfl, _⟩, _, _, rfl, ⟨rows, rfl, hr, hl⟩, rfl⟩ := h
  obtain ⟨l, rfl, hs⟩ := ofSs hr
  exact ⟨⟨p, z, l⟩, rfl, hp, by simpa using hl, hs⟩
/-! ### files and cuts -/
theorem cF : prog.cellsOf 58 = 2 := by kernel_rfl
abbrev ΦF : List SV → Prop := Pieces [ΦS, ΦS]
theorem rdF : Rd prog 58 ΦF := rd_struct underlying58 ⟨rfl, rdS, by rw [cS], rdS, by rw [cF, cS]; rfl⟩
theorem rdLF : Rd prog 22 (ΦL 2 32 ΦF) := rd_slice underlying22 (by kernel_rfl) (by kernel_rfl) rfl rdF
theorem cC : prog.cellsOf 24 = 3 := by kernel_rfl
abbrev ΦC : List SV → Prop := Pieces [ΦI, ΦI, ΦI]
theorem rdC : Rd prog 24 ΦC := rd_struct underlying24 ⟨rfl, rdI, by rw [cI], rdI, by rw [cI], rdI, by rw [cC, cI]; rfl⟩
end Go.Proofs.YtmekcbbieacioaaGreatDoorFn
namespace Go.Proofs.YtmekcbbieacioaaGreatDoorFn
open Go.Proofs.YtmekcbbieacioaaGreatDoorAl Go.Proofs.Tryz Go.ChangeAt Go.RowKit
/-! ### what files and cuts read as -/
def FV.inMem (e : FV) : Prop := e.path.size ≤ reachBytes ∧ e.bytes.size ≤ reachBytes
theorem ofF {xs : List SV} (h : ΦF xs) : ∃ e : FV, xs = rowF e ∧ e.inMem := by
  obtain ⟨_, _, rfl, ⟨p, rfl, hp⟩, _, _, rfl, ⟨z, rfl, hz⟩, rfl⟩ := h
  exact ⟨⟨p, z⟩, rfl, hp, hz⟩
theorem ofC {xs : List SV} (h : ΦC xs) : ∃ c : CV, xs = [.int .i64 c.mn, .int .i64 c.mx, .int .i64 c.ms] := by
  obtain ⟨_, _, rfl, ⟨a, rfl, _⟩, _, _, rfl, ⟨b, rfl, _⟩, _, _, rfl, ⟨m, rfl, _⟩, rfl⟩ := h
  exact ⟨⟨a, b, m⟩, rfl⟩
end Go.Proofs.YtmekcbbieacioaaGreatDoorFn
namespace Go.Proofs.YtmekcbbieacioaaGreatDoor
open Go.Proofs.YtmekcbbieacioaaGreatDoorAl Go.ChangeAt Go.RowKit
open Go.Proofs.YtmekcbbieacioaaGreatDoorFn
theorem own : ownKnob Tryz.prog.godebug = none := by kernel_rfl
theorem laidOut : laidOutB Tryz.prog = true := by kernel_rfl
def pars : List Par := [⟨22, false, ΦL 2 32 ΦF⟩, ⟨24, true, ΦC⟩, ⟨3, false, ΦI⟩]
theorem pars_ok : ParsOk Tryz.prog pars :=
  ⟨rdLF, ⟨_, Tryz.underlying22, rfl⟩, by kernel_rfl, of_decide_eq_true (by kernel_rfl),
   rdC, ⟨_, Tryz.underlying24, rfl⟩, by kernel_rfl, of_decide_eq_true (by kernel_rfl),
   rdI, ⟨_, Tryz.underlying3, rfl⟩, by kernel_rfl, of_decide_eq_true (by kernel_rfl), trivial⟩
theorem law_ok : LawOkF Tryz.prog 8 pars LaidE := by
  rintro svs ⟨_, _, rfl, ⟨r0, h0, hr0, hl0⟩, _, _, rfl, ⟨xs1, rfl, hp1⟩, _, _, rfl, ⟨x2, h2, hm2⟩, rfl⟩ o hO
  cases h0
  obtain ⟨x0, rfl, hm0⟩ := rows_map (f := rowF) (Ok := FV.inMem) (fun row hm => ofF (hr0 row hm))
  simp only [List.length_map] at hl0
  obtain ⟨x1, rfl⟩ := ofC hp1
  cases h2
  have hreach : reachBytes ≤ 140737488351232 := by decide
  exact lawLost_ok o hO x0 x1 x2 (by omega) (i64_wf hm2)
theorem hE (W : World) (h : laidMetH Tryz.prog Rows.treeLostRow.laid W) : ∃ o, W.heap[0]? = some o ∧ LaidE o := by
  have h' : laidMet Tryz.prog [("unicode/utf8.acceptRanges", Rows.laid_unicode_utf8_acceptRanges), ("unicode/utf8.first", Rows.laid_unicode_utf8_first)] W ∧ handlesMet Tryz.prog [("errors.errorType", Rows.laid_errors_errorType)] W := h
  obtain ⟨name, u, ty, e1, e2, e3, e4, e5⟩ := h'.2 _ (List.mem_singleton.2 rfl)
  have en : name = [101, 114, 114, 111, 114] := (Option.some.inj e1).symm
  subst en
  obtain rfl := Option.some.inj ((show (Tryz.prog.cutTypes.find? (·.1 == "internal/reflectlite.rtype")).map (·.2) = some 139 by kernel_rfl).symm.trans e2)
  have hm : ty ∈ (List.range Tryz.prog.types.size).filter fun t => Tryz.prog.rowNamed t [101, 114, 114, 111, 114] := List.mem_filter.2 ⟨List.mem_range.2 e3, e4⟩
  rw [show ((List.range Tryz.prog.types.size).filter fun t => Tryz.prog.rowNamed t [101, 114, 114, 111, 114]) = [29] by kernel_rfl] at hm
  obtain rfl := List.mem_singleton.1 hm
  rw [show typeHandle Tryz.prog 29 = .pointer (some ⟨4, 29, none⟩) by kernel_rfl] at e5
  have hc := World.var?_cell (show Tryz.prog.globalNamed "errors.errorType" = some 0 by kernel_rfl) e5 0
  unfold World.cell? at hc
  split at hc
  · rename_i c T fr ho
    exact ⟨_, ho, c, T, fr, rfl, by simpa using hc⟩
  · cases hc
def plain : List (String × DataW Unit) := [("unicode/utf8.acceptRanges", Rows.laid_unicode_utf8_acceptRanges), ("unicode/utf8.first", Rows.laid_unicode_utf8_first)]
noncomputable def w0 (os : Os) : World := { World.holding Tryz.prog os ⟨#[], #[], []⟩ with heap := (World.holding Tryz.prog os ⟨#[], #[], []⟩).heap.modify 0 fun
  | .cells _ t fr => .cells #[.iface 139 (.agg #[.pointer (some ⟨4, 29, none⟩)])] t fr
  | o => o }
noncomputable def w1 (os : Os) : World := (w0 os).layVars Tryz.prog plain
theorem plain_met (os : Os) : laidMet Tryz.prog plain (w1 os) := by
  have e1 : (plain.filter fun x => (plain.map (·.1)).contains x.1) = plain := List.filter_eq_self.2 fun x hx => List.contains_iff_mem.2 (List.mem_map.2 ⟨x, hx, rfl⟩)
  have e2 : (plain.filter fun x => !(plain.map (·.1)).contains x.1) = [] := List.filter_eq_nil_iff.2 fun x hx => by rw [List.contains_iff_mem.2 (List.mem_map.2 ⟨x, hx, rfl⟩)]; simp
  exact laidMet_layVars (w0 := w0 os) (plain.map (·.1)) [] (by rw [e1]; rfl) (by rw [e1]; kernel_rfl) (by rw [e1]; kernel_rfl) (by rw [e2]; exact LaidIn.none)
theorem door_met (os : Os) (args : Array Value) : laidMetH Tryz.prog Rows.treeLostRow.laid ((w1 os).forCall (fun _ _ => 0) ⟨#[], args, []⟩).memory :=
  laidMetH_of_parts (show laidMet Tryz.prog plain _ from (plain_met os).of_heap (by simp [World.memory, World.forCall, Input.heap])) (by kernel_rfl)
set_option maxRecDepth 100000 in
theorem law_lift (os : Os) (started : os.Started) (H : Type) (enc : TypeId × Value → H) :
    ReturnsInHanded {} Tryz.checked os 8 .any (fun w args => (Rows.treeLostSpec.pre enc Tryz.prog Tryz.f8 [] false w args ∧ laidMetH Tryz.prog Rows.treeLostRow.laid w) ∧ sizedMet enc Tryz.prog Tryz.f8 (OpenSpec.ofChange Rows.treeLostSpec) false w args) (Rows.treeLostSpec.post enc Tryz.prog Tryz.f8 false true false false) :=
  law_liftedF (C := Tryz.checked) (ps := pars) own started (by kernel_rfl) Tryz.func8
    (ChangeSpec.witness_shaped (enc := enc) (C := Tryz.checked) (os := os) (X := fun w _ => laidMetH Tryz.prog Rows.treeLostRow.laid w) false (w1 os) #[.slice none 0 0, .agg #[.int .i64 0, .int .i64 0, .int .i64 0], .int .i64 0] 8 (World.layVars_os _ _ _)
      (World.shaped_of_ZipB (by kernel_rfl) (by kernel_rfl)) (by kernel_rfl) (by kernel_rfl) (by kernel_rfl) (door_met os _))
    laidOut rfl rfl Tryz.underlying4 rfl
    (fun ds hds => by
      match ds, hds with
      | [_, _, _], _ => rfl) pars_ok LaidE hE law_ok
theorem law_over : Rows.treeLostRow.holds Tryz.pinned (OpenSpec.ofChange Rows.treeLostSpec) :=
  OpenClaim.holds_of_wide 8 Tryz.f8 rfl rfl rfl rfl rfl rfl rfl ⟨rfl, rfl, rfl, rfl, rfl⟩ rfl rfl rfl rfl rfl (by kernel_rfl) Tryz.func8 (by kernel_rfl)
    (of_decide_eq_true (by kernel_rfl)) (by unfold Func.isWrapper; first | (rw [if_pos (by decide +kernel)]; kernel_rfl) | (rw [if_neg (by decide +kernel)]; exact ⟨rfl, rfl⟩))
    (fun os started H enc _ => law_lift os started H enc)
theorem TreeLost_holds : Rows.TreeLostCardSaid :=
  Claim7.holds_tied_plain_at .later [] [.data, .handle, .pinned] true Rows.treeLostCard.stood.harness Rows.treeLostCard.stood.looks law_over (fun _ h => by cases h) (by kernel_rfl) (fun _ h => by cases h) treeLost_row_tie rfl ⟨rfl, rfl⟩ (by kernel_rfl) rfl
    (fun f fn hf hfn => by
      obtain rfl : f = 8 := Option.some.inj ((show Tryz.prog.funcNamed "becket/becketlaw04.TreeLost" = some 8 by kernel_rfl).symm.trans hf) |>.symm
      obtain rfl : fn = Tryz.f8 := (Option.some.inj (Tryz.func8.symm.trans hfn)).symm
      exact ⟨by kernel_rfl, fun j t ht => by
        have hm : t ∈ ([22, 24, 3] : List Nat) := by
          have e := Array.mem_of_getElem? ht
          rw [Tryz.params8] at e
          simpa using e
        have hall : (([22, 24, 3] : List Nat).all fun u => !Tryz.prog.wantsStandIn u) = true := by kernel_rfl
        exact (show Tryz.prog.wantsStandIn t = false by simpa using List.all_eq_true.1 hall t hm)⟩)
    (by kernel_rfl)
#print axioms TreeLost_holds
end Go.Proofs.YtmekcbbieacioaaGreatDoor
