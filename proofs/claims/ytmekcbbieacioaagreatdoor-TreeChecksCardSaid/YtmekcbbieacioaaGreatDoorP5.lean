/- The law TreeChecks: for every input it says true: whether any entries are a tree, or what is amiss first, and where; what is at any path, and under any. No condition. -/
import Derived.Test.YtmekcbbieacioaaGreatDoorP4
import Derived.Test.YtmekcbbieacioaaGreatDoorRows
import Derived.Test.YtmekcbbieacioaaGreatDoorTie
import Derived.Test.YtmekcbbieacioaaGreatDoorCards
import Derived.Lay
import Derived.LaidMore
import Derived.LaidHandle
import Derived.LaidOnce
import Derived.FnData
import Derived.Test.YtmekcbbieacioaaGreatDoorAlZr
set_option linter.all false
namespace Go.Proofs.YtmekcbbieacioaaGreatDoorFn
open Go.Proofs.YtmekcbbieacioaaGreatDoorAl Go.Proofs.Tryz
attribute [local irreducible] IntKind.wrap CodeOk OpsL OpG ACalls thn inBlk rndR cutR WkR Wk fnR DW ExtOk partsOf
theorem b4 : HasBody prog 4 := ⟨f4, func4, Option.some_ne_none _, by decide⟩
theorem short_bounds {l : List EV} (h : shortE l = true) : l.length ≤ 100 ∧ ∀ e ∈ l, e.path.size ≤ 2000 ∧ e.keys.length ≤ 1200 := by
  unfold shortE at h
  rw [Bool.and_eq_true, decide_eq_true_eq] at h
  refine ⟨h.1, fun e he => ?_⟩
  have := List.all_eq_true.1 h.2 e he
  unfold shortV at this
  simp only [Bool.and_eq_true, decide_eq_true_eq] at this
  exact this.1
set_option maxHeartbeats 4000000 in
theorem checks_long (o' : Obj) (l : List EV) (t : ByteArray) (hu : ACalls prog 10 1 [] [(0, .fact 0 o')] fun r h => r = B true ∧ h = [(0, .fact 0 o')])
    (hs : ACalls prog 16 0 [.st (.sl 3 (l.map rowE))] [] fun r h => r = B (shortE l) ∧ h = []) (h : shortE l = false ∨ 2000 < t.size) (ht : t.size ≤ 140737488351232) :
    ACalls prog 4 1 [.st (.sl 3 (l.map rowE)), Sx t] [(0, .fact 0 o')] fun r h => r = B true ∧ h = [(0, .fact 0 o')] := by
  refine fnC lay_ok func4 rfl rfl rfl rfl rfl ?_
  cases hse : shortE l with
  | false =>
    rw [hse] at hs
    repeat' first | refine wr (by omega) ?_ | refine ln ?_ | refine stp lay_ok rfl ?_ | refine fin ?_ | refine n_thn ?_ | refine n_blk ?_ | refine e_thn ?_ | refine e_hit ?_ | refine e_miss rfl ?_ | refine r_thn ?_ | refine r_blk ?_ | refine e_rr ?_ | refine r_rr ?_ | refine e_cr ?_ | refine r_cr ?_ | refine .seq ?_ | refine reg ?_ | refine .block ?_ | refine .skip ?_ | refine .ret ?_ | refine .exit ?_ | refine cndT rfl ?_ | refine cndF rfl ?_ | refine c_dec rfl (fun hc => ?_) (fun hc => ?_) | refine c_ndec rfl (fun hc => ?_) (fun hc => ?_) | refine cnd rfl (fun hc => ?_) (fun hc => ?_) | ((first | refine o_none rfl ?_ | refine o_none_ ?_ | refine o_yes rfl rfl rfl ?_ | refine o_yes_ rfl rfl ?_); first | refine st_callK [0] (hu) b10 rfl rfl rfl rfl rfl (by (repeat' first | exact trivial | refine And.intro ?_ ?_ | rfl); first | done | fail) ?_ | refine st_pure (hs) b16 rfl rfl rfl rfl ?_) | refine gd rfl rfl rfl (fun hg => ?_) (fun hg => ?_) | refine gn rfl rfl rfl (fun hg => ?_) (fun hg => ?_) | refine dwr (by omega) ?_ | refine dwl ?_ | refine dws lay_ok rfl rfl rfl rfl rfl rfl rfl ?_ | refine dwu lay_ok rfl rfl rfl rfl rfl rfl rfl rfl rfl ?_ | refine dw_end ?_ | refine dw_skip rfl rfl rfl ?_ | refine dwn lay_ok rfl rfl rfl rfl rfl ?_ | refine dwb rfl rfl rfl rfl rfl (by (first | refine st_callK [0] (hu) b10 rfl rfl rfl rfl rfl (by (repeat' first | exact trivial | refine And.intro ?_ ?_ | rfl); first | done | fail) ?_ | refine st_pure (hs) b16 rfl rfl rfl rfl ?_); exact fin rfl) rfl rfl ?_ | refine dwg rfl rfl rfl rfl rfl (by (first | refine st_callK [0] (hu) b10 rfl rfl rfl rfl rfl (by (repeat' first | exact trivial | refine And.intro ?_ ?_ | rfl); first | done | fail) ?_ | refine st_pure (hs) b16 rfl rfl rfl rfl ?_); exact fin rfl) rfl rfl rfl rfl rfl ?_ | refine dw_dec rfl rfl rfl (fun hg => ?_) (fun hg => ?_) | refine dw_ndec rfl rfl rfl (fun hg => ?_) (fun hg => ?_)
    refine f_r [(0, .fact 0 o')] rfl (by (repeat' first | exact trivial | refine And.intro ?_ ?_ | rfl); first | done | fail) rfl ⟨?_, rfl⟩
    rfl
  | true =>
    have h2 : 2000 < t.size := by
      rcases h with h | h
      · rw [hse] at h; cases h
      · exact h
    rw [hse] at hs
    repeat' first | refine wr (by omega) ?_ | refine ln ?_ | refine stp lay_ok rfl ?_ | refine fin ?_ | refine n_thn ?_ | refine n_blk ?_ | refine e_thn ?_ | refine e_hit ?_ | refine e_miss rfl ?_ | refine r_thn ?_ | refine r_blk ?_ | refine e_rr ?_ | refine r_rr ?_ | refine e_cr ?_ | refine r_cr ?_ | refine .seq ?_ | refine reg ?_ | refine .block ?_ | refine .skip ?_ | refine .ret ?_ | refine .exit ?_ | refine cndT rfl ?_ | refine cndF rfl ?_ | refine c_dec rfl (fun hc => ?_) (fun hc => ?_) | refine c_ndec rfl (fun hc => ?_) (fun hc => ?_) | refine cnd rfl (fun hc => ?_) (fun hc => ?_) | ((first | refine o_none rfl ?_ | refine o_none_ ?_ | refine o_yes rfl rfl rfl ?_ | refine o_yes_ rfl rfl ?_); first | refine st_callK [0] (hu) b10 rfl rfl rfl rfl rfl (by (repeat' first | exact trivial | refine And.intro ?_ ?_ | rfl); first | done | fail) ?_ | refine st_pure (hs) b16 rfl rfl rfl rfl ?_) | refine gd rfl rfl rfl (fun hg => ?_) (fun hg => ?_) | refine gn rfl rfl rfl (fun hg => ?_) (fun hg => ?_) | refine dwr (by omega) ?_ | refine dwl ?_ | refine dws lay_ok rfl rfl rfl rfl rfl rfl rfl ?_ | refine dwu lay_ok rfl rfl rfl rfl rfl rfl rfl rfl rfl ?_ | refine dw_end ?_ | refine dw_skip rfl rfl rfl ?_ | refine dwn lay_ok rfl rfl rfl rfl rfl ?_ | refine dwb rfl rfl rfl rfl rfl (by (first | refine st_callK [0] (hu) b10 rfl rfl rfl rfl rfl (by (repeat' first | exact trivial | refine And.intro ?_ ?_ | rfl); first | done | fail) ?_ | refine st_pure (hs) b16 rfl rfl rfl rfl ?_); exact fin rfl) rfl rfl ?_ | refine dwg rfl rfl rfl rfl rfl (by (first | refine st_callK [0] (hu) b10 rfl rfl rfl rfl rfl (by (repeat' first | exact trivial | refine And.intro ?_ ?_ | rfl); first | done | fail) ?_ | refine st_pure (hs) b16 rfl rfl rfl rfl ?_); exact fin rfl) rfl rfl rfl rfl rfl ?_ | refine dw_dec rfl rfl rfl (fun hg => ?_) (fun hg => ?_) | refine dw_ndec rfl rfl rfl (fun hg => ?_) (fun hg => ?_)
    all_goals first
      | (exfalso; omega)
      | skip
    refine f_r [(0, .fact 0 o')] rfl (by (repeat' first | exact trivial | refine And.intro ?_ ?_ | rfl); first | done | fail) rfl ⟨?_, rfl⟩
    rfl
set_option maxHeartbeats 4000000 in
theorem checks_big (o' : Obj) (l : List EV) (t : ByteArray) (hu : ACalls prog 10 1 [] [(0, .fact 0 o')] fun r h => r = B true ∧ h = [(0, .fact 0 o')])
    (hs : ACalls prog 16 0 [.st (.sl 3 (l.map rowE))] [] fun r h => r = B true ∧ h = []) (ht : t.size ≤ 2000)
    (hck : ACalls prog 17 0 [.st (.sl 3 (l.map rowE))] [] fun r h => r = errE 7 ∧ h = [])
    (hf : ACalls prog 18 0 [.st (.sl 3 (l.map rowE)), Sx t] [] fun r h => r = .tuple [.st (.agg zE), errE 7] ∧ h = [])
    (hb : ACalls prog 19 0 [.st (.sl 3 (l.map rowE)), Sx t] [] fun r h => r = .st .nilsl ∧ h = [])
    (hr : ACalls prog 20 0 [.st (.sl 3 (l.map rowE))] [] fun r h => r = .tuple [I 7, I (-1)] ∧ h = []) :
    ACalls prog 4 1 [.st (.sl 3 (l.map rowE)), Sx t] [(0, .fact 0 o')] fun r h => r = B true ∧ h = [(0, .fact 0 o')] := by
  have htold : ACalls prog 14 0 [errE 7, I 7, I (-1)] [] fun r h => r = B true ∧ h = [] := toldCode_ok 7 7 (by decide) (by decide)
  have hz := same4_ok zV zV (by decide) (by decide)
  rw [decide_eq_true rfl] at hz
  refine fnC lay_ok func4 rfl rfl rfl rfl rfl ?_
  repeat' first | refine wr (by omega) ?_ | refine ln ?_ | refine stp lay_ok rfl ?_ | refine fin ?_ | refine n_thn ?_ | refine n_blk ?_ | refine e_thn ?_ | refine e_hit ?_ | refine e_miss rfl ?_ | refine r_thn ?_ | refine r_blk ?_ | refine e_rr ?_ | refine r_rr ?_ | refine e_cr ?_ | refine r_cr ?_ | refine .seq ?_ | refine reg ?_ | refine .block ?_ | refine .skip ?_ | refine .ret ?_ | refine .exit ?_ | refine cndT rfl ?_ | refine cndF rfl ?_ | refine c_dec rfl (fun hc => ?_) (fun hc => ?_) | refine c_ndec rfl (fun hc => ?_) (fun hc => ?_) | refine cnd rfl (fun hc => ?_) (fun hc => ?_) | ((first | refine o_none rfl ?_ | refine o_none_ ?_ | refine o_yes rfl rfl rfl ?_ | refine o_yes_ rfl rfl ?_); first | refine st_callK [0] (hu) b10 rfl rfl rfl rfl rfl (by (repeat' first | exact trivial | refine And.intro ?_ ?_ | rfl); first | done | fail) ?_ | refine st_pure (hs) b16 rfl rfl rfl rfl ?_ | refine st_pure (hck) b17 rfl rfl rfl rfl ?_ | refine st_pure (hf) b18 rfl rfl rfl rfl ?_ | refine st_pure (hb) b19 rfl rfl rfl rfl ?_ | refine st_pure (hr) b20 rfl rfl rfl rfl ?_ | refine st_pure (htold) b14 rfl rfl rfl rfl ?_ | refine st_pureL (hz) b21 rfl (by (repeat' first | exact AVLeL.nil | refine AVLeL.cons ?_ ?_ | exact AVLe.refl _ | refine AVLe.st ?_ | exact SLe.refl _ | exact SLe.nil _ | exact SLe.sl0 _ | refine SLe.agg ?_ | refine SLe.sl ?_ | refine SLe.iface ?_ | exact SLeL.nil | refine SLeL.cons ?_ ?_ | exact RLe.nil' | refine RLe.cons' rfl ?_ ?_); first | done | fail) rfl rfl rfl ?_) | refine gd rfl rfl rfl (fun hg => ?_) (fun hg => ?_) | refine gn rfl rfl rfl (fun hg => ?_) (fun hg => ?_) | refine dwr (by omega) ?_ | refine dwl ?_ | refine dws lay_ok rfl rfl rfl rfl rfl rfl rfl ?_ | refine dwu lay_ok rfl rfl rfl rfl rfl rfl rfl rfl rfl ?_ | refine dw_end ?_ | refine dw_skip rfl rfl rfl ?_ | refine dwn lay_ok rfl rfl rfl rfl rfl ?_ | refine dwb rfl rfl rfl rfl rfl (by (first | refine st_callK [0] (hu) b10 rfl rfl rfl rfl rfl (by (repeat' first | exact trivial | refine And.intro ?_ ?_ | rfl); first | done | fail) ?_ | refine st_pure (hs) b16 rfl rfl rfl rfl ?_ | refine st_pure (hck) b17 rfl rfl rfl rfl ?_ | refine st_pure (hf) b18 rfl rfl rfl rfl ?_ | refine st_pure (hb) b19 rfl rfl rfl rfl ?_ | refine st_pure (hr) b20 rfl rfl rfl rfl ?_ | refine st_pure (htold) b14 rfl rfl rfl rfl ?_ | refine st_pureL (hz) b21 rfl (by (repeat' first | exact AVLeL.nil | refine AVLeL.cons ?_ ?_ | exact AVLe.refl _ | refine AVLe.st ?_ | exact SLe.refl _ | exact SLe.nil _ | exact SLe.sl0 _ | refine SLe.agg ?_ | refine SLe.sl ?_ | refine SLe.iface ?_ | exact SLeL.nil | refine SLeL.cons ?_ ?_ | exact RLe.nil' | refine RLe.cons' rfl ?_ ?_); first | done | fail) rfl rfl rfl ?_); exact fin rfl) rfl rfl ?_ | refine dwg rfl rfl rfl rfl rfl (by (first | refine st_callK [0] (hu) b10 rfl rfl rfl rfl rfl (by (repeat' first | exact trivial | refine And.intro ?_ ?_ | rfl); first | done | fail) ?_ | refine st_pure (hs) b16 rfl rfl rfl rfl ?_ | refine st_pure (hck) b17 rfl rfl rfl rfl ?_ | refine st_pure (hf) b18 rfl rfl rfl rfl ?_ | refine st_pure (hb) b19 rfl rfl rfl rfl ?_ | refine st_pure (hr) b20 rfl rfl rfl rfl ?_ | refine st_pure (htold) b14 rfl rfl rfl rfl ?_ | refine st_pureL (hz) b21 rfl (by (repeat' first | exact AVLeL.nil | refine AVLeL.cons ?_ ?_ | exact AVLe.refl _ | refine AVLe.st ?_ | exact SLe.refl _ | exact SLe.nil _ | exact SLe.sl0 _ | refine SLe.agg ?_ | refine SLe.sl ?_ | refine SLe.iface ?_ | exact SLeL.nil | refine SLeL.cons ?_ ?_ | exact RLe.nil' | refine RLe.cons' rfl ?_ ?_); first | done | fail) rfl rfl rfl ?_); exact fin rfl) rfl rfl rfl rfl rfl ?_ | refine dw_dec rfl rfl rfl (fun hg => ?_) (fun hg => ?_) | refine dw_ndec rfl rfl rfl (fun hg => ?_) (fun hg => ?_)
  all_goals first
    | (exfalso; omega)
    | (exfalso; contradiction)
    | skip
  refine f_r [(0, .fact 0 o')] rfl (by (repeat' first | exact trivial | refine And.intro ?_ ?_ | rfl); first | done | fail) rfl ⟨?_, rfl⟩
  rfl
set_option maxHeartbeats 4000000 in
theorem checks_bad (o' : Obj) (l : List EV) (t : ByteArray) (i : Nat) (n : Int) (hn : n ≠ 0) (hu : ACalls prog 10 1 [] [(0, .fact 0 o')] fun r h => r = B true ∧ h = [(0, .fact 0 o')])
    (hs : ACalls prog 16 0 [.st (.sl 3 (l.map rowE))] [] fun r h => r = B true ∧ h = []) (ht : t.size ≤ 2000)
    (hck : ACalls prog 17 0 [.st (.sl 3 (l.map rowE))] [] fun r h => r = spotE i n ∧ h = [])
    (hf : ACalls prog 18 0 [.st (.sl 3 (l.map rowE)), Sx t] [] fun r h => r = .tuple [.st (.agg zE), spotE i n] ∧ h = [])
    (hb : ACalls prog 19 0 [.st (.sl 3 (l.map rowE)), Sx t] [] fun r h => r = .st .nilsl ∧ h = [])
    (hr : ACalls prog 20 0 [.st (.sl 3 (l.map rowE))] [] fun r h => r = .tuple [I n, I i] ∧ h = [])
    (htold : ACalls prog 14 1 [spotE i n, I n, I i] [(0, .fact 0 o')] fun r h => r = B true ∧ h = [(0, .fact 0 o')]) :
    ACalls prog 4 1 [.st (.sl 3 (l.map rowE)), Sx t] [(0, .fact 0 o')] fun r h => r = B true ∧ h = [(0, .fact 0 o')] := by
  have hz := same4_ok zV zV (by decide) (by decide)
  rw [decide_eq_true rfl] at hz
  refine fnC lay_ok func4 rfl rfl rfl rfl rfl ?_
  repeat' first | refine wr (by omega) ?_ | refine ln ?_ | refine stp lay_ok rfl ?_ | refine fin ?_ | refine n_thn ?_ | refine n_blk ?_ | refine e_thn ?_ | refine e_hit ?_ | refine e_miss rfl ?_ | refine r_thn ?_ | refine r_blk ?_ | refine e_rr ?_ | refine r_rr ?_ | refine e_cr ?_ | refine r_cr ?_ | refine .seq ?_ | refine reg ?_ | refine .block ?_ | refine .skip ?_ | refine .ret ?_ | refine .exit ?_ | refine cndT rfl ?_ | refine cndF rfl ?_ | refine c_dec rfl (fun hc => ?_) (fun hc => ?_) | refine c_ndec rfl (fun hc => ?_) (fun hc => ?_) | refine cnd rfl (fun hc => ?_) (fun hc => ?_) | ((first | refine o_none rfl ?_ | refine o_none_ ?_ | refine o_yes rfl rfl rfl ?_ | refine o_yes_ rfl rfl ?_); first | refine st_callK [0] (hu) b10 rfl rfl rfl rfl rfl (by (repeat' first | exact trivial | refine And.intro ?_ ?_ | rfl); first | done | fail) ?_ | refine st_pure (hs) b16 rfl rfl rfl rfl ?_ | refine st_pure (hck) b17 rfl rfl rfl rfl ?_ | refine st_pure (hf) b18 rfl rfl rfl rfl ?_ | refine st_pure (hb) b19 rfl rfl rfl rfl ?_ | refine st_pure (hr) b20 rfl rfl rfl rfl ?_ | refine st_callK [0] (htold) b14 rfl rfl rfl rfl rfl (by (repeat' first | exact trivial | refine And.intro ?_ ?_ | rfl); first | done | fail) ?_ | refine st_pureL (hz) b21 rfl (by (repeat' first | exact AVLeL.nil | refine AVLeL.cons ?_ ?_ | exact AVLe.refl _ | refine AVLe.st ?_ | exact SLe.refl _ | exact SLe.nil _ | exact SLe.sl0 _ | refine SLe.agg ?_ | refine SLe.sl ?_ | refine SLe.iface ?_ | exact SLeL.nil | refine SLeL.cons ?_ ?_ | exact RLe.nil' | refine RLe.cons' rfl ?_ ?_); first | done | fail) rfl rfl rfl ?_) | refine gd rfl rfl rfl (fun hg => ?_) (fun hg => ?_) | refine gn rfl rfl rfl (fun hg => ?_) (fun hg => ?_) | refine dwr (by omega) ?_ | refine dwl ?_ | refine dws lay_ok rfl rfl rfl rfl rfl rfl rfl ?_ | refine dwu lay_ok rfl rfl rfl rfl rfl rfl rfl rfl rfl ?_ | refine dw_end ?_ | refine dw_skip rfl rfl rfl ?_ | refine dwn lay_ok rfl rfl rfl rfl rfl ?_ | refine dwb rfl rfl rfl rfl rfl (by (first | refine st_callK [0] (hu) b10 rfl rfl rfl rfl rfl (by (repeat' first | exact trivial | refine And.intro ?_ ?_ | rfl); first | done | fail) ?_ | refine st_pure (hs) b16 rfl rfl rfl rfl ?_ | refine st_pure (hck) b17 rfl rfl rfl rfl ?_ | refine st_pure (hf) b18 rfl rfl rfl rfl ?_ | refine st_pure (hb) b19 rfl rfl rfl rfl ?_ | refine st_pure (hr) b20 rfl rfl rfl rfl ?_ | refine st_callK [0] (htold) b14 rfl rfl rfl rfl rfl (by (repeat' first | exact trivial | refine And.intro ?_ ?_ | rfl); first | done | fail) ?_ | refine st_pureL (hz) b21 rfl (by (repeat' first | exact AVLeL.nil | refine AVLeL.cons ?_ ?_ | exact AVLe.refl _ | refine AVLe.st ?_ | exact SLe.refl _ | exact SLe.nil _ | exact SLe.sl0 _ | refine SLe.agg ?_ | refine SLe.sl ?_ | refine SLe.iface ?_ | exact SLeL.nil | refine SLeL.cons ?_ ?_ | exact RLe.nil' | refine RLe.cons' rfl ?_ ?_); first | done | fail) rfl rfl rfl ?_); exact fin rfl) rfl rfl ?_ | refine dwg rfl rfl rfl rfl rfl (by (first | refine st_callK [0] (hu) b10 rfl rfl rfl rfl rfl (by (repeat' first | exact trivial | refine And.intro ?_ ?_ | rfl); first | done | fail) ?_ | refine st_pure (hs) b16 rfl rfl rfl rfl ?_ | refine st_pure (hck) b17 rfl rfl rfl rfl ?_ | refine st_pure (hf) b18 rfl rfl rfl rfl ?_ | refine st_pure (hb) b19 rfl rfl rfl rfl ?_ | refine st_pure (hr) b20 rfl rfl rfl rfl ?_ | refine st_callK [0] (htold) b14 rfl rfl rfl rfl rfl (by (repeat' first | exact trivial | refine And.intro ?_ ?_ | rfl); first | done | fail) ?_ | refine st_pureL (hz) b21 rfl (by (repeat' first | exact AVLeL.nil | refine AVLeL.cons ?_ ?_ | exact AVLe.refl _ | refine AVLe.st ?_ | exact SLe.refl _ | exact SLe.nil _ | exact SLe.sl0 _ | refine SLe.agg ?_ | refine SLe.sl ?_ | refine SLe.iface ?_ | exact SLeL.nil | refine SLeL.cons ?_ ?_ | exact RLe.nil' | refine RLe.cons' rfl ?_ ?_); first | done | fail) rfl rfl rfl ?_); exact fin rfl) rfl rfl rfl rfl rfl ?_ | refine dw_dec rfl rfl rfl (fun hg => ?_) (fun hg => ?_) | refine dw_ndec rfl rfl rfl (fun hg => ?_) (fun hg => ?_)
  all_goals first
    | (exfalso; omega)
    | (exfalso; contradiction)
    | skip
  refine f_r [(0, .fact 0 o')] rfl (by (repeat' first | exact trivial | refine And.intro ?_ ?_ | rfl); first | done | fail) rfl ⟨?_, rfl⟩
  rfl
def FoundAs (l : List EV) (t : ByteArray) (k : Nat) (fo : Int) : Prop := (fo = -1 ∧ ∀ i (h : i < l.length), i < k → l[i].path ≠ t) ∨ ∃ j, ∃ h : j < l.length, j < k ∧ fo = j ∧ l[j].path = t
theorem belL_take {l : List EV} {k : Nat} (t : ByteArray) (hk : k < l.length) : belL' (l.take (k + 1)) t = belL' (l.take k) t ++ (if belP t l[k] = true then [l[k].path] else []) := by
  rw [List.take_succ_eq_append_getElem hk]
  unfold belL'
  rw [List.filter_append, List.map_append]
  congr 1
  cases hbp : belP t l[k] <;> simp [hbp]
theorem belP_text {t : ByteArray} {e : EV} (hp : pathOk e.path = true) : belP t e = true ↔ t = ⟨#[]⟩ ∨ (e.path.size > t.size + 1 ∧ e.path.extract 0 (t.size + 1) = t ++ slash) := by
  unfold belP
  rw [Bool.or_eq_true, decide_eq_true_eq, ← textU_iff hp]; rfl
set_option maxHeartbeats 8000000 in
set_option maxRecDepth 4000 in
theorem checks_miss (o' : Obj) (l : List EV) (t : ByteArray) (hA : ∀ i (h : i < l.length), l[i].path ≠ t) (hu : ACalls prog 10 1 [] [(0, .fact 0 o')] fun r h => r = B true ∧ h = [(0, .fact 0 o')])
    (hs : ACalls prog 16 0 [.st (.sl 3 (l.map rowE))] [] fun r h => r = B true ∧ h = []) (ht : t.size ≤ 2000) (hl : l.length ≤ 32) (hks : ∀ e ∈ l, e.keys.length ≤ 4000000000) (hpo : ∀ i (h : i < l.length), pathOk l[i].path = true)
    (hck : ACalls prog 17 0 [.st (.sl 3 (l.map rowE))] [] fun r h => r = nilE ∧ h = [])
    (hf : ACalls prog 18 0 [.st (.sl 3 (l.map rowE)), Sx t] [] fun r h => r = .tuple [.st (.agg zE), errE 3] ∧ h = [])
    (hb : ACalls prog 19 0 [.st (.sl 3 (l.map rowE)), Sx t] [] fun r h => r = .st (.sl 1 ((belL' l t).map rowS)) ∧ h = [])
    (hr : ACalls prog 20 0 [.st (.sl 3 (l.map rowE))] [] fun r h => r = .tuple [I 0, I (-1)] ∧ h = []) :
    ACalls prog 4 1 [.st (.sl 3 (l.map rowE)), Sx t] [(0, .fact 0 o')] fun r h => r = B true ∧ h = [(0, .fact 0 o')] := by
  have htold : ACalls prog 14 0 [nilE, I 0, I (-1)] [] fun r h => r = B true ∧ h = [] := toldNil_ok 0
  have hm : (List.map rowE l).length = l.length := List.length_map _
  have hcat : t.size + slash.size ≤ 9223372036854775807 := by
    have : slash.size = 1 := rfl
    omega
  have hz := same4_ok zV zV (by decide) (by decide)
  rw [decide_eq_true rfl] at hz
  refine fnC lay_ok func4 rfl rfl rfl rfl rfl ?_
  repeat' first | refine wr (by omega) ?_ | refine ln ?_ | refine stp lay_ok rfl ?_ | refine fin ?_ | refine n_thn ?_ | refine n_blk ?_ | refine e_thn ?_ | refine e_hit ?_ | refine e_miss rfl ?_ | refine r_thn ?_ | refine r_blk ?_ | refine e_rr ?_ | refine r_rr ?_ | refine e_cr ?_ | refine r_cr ?_ | refine .seq ?_ | refine reg ?_ | refine .block ?_ | refine .skip ?_ | refine .ret ?_ | refine .exit ?_ | refine cndT rfl ?_ | refine cndF rfl ?_ | refine c_dec rfl (fun hc => ?_) (fun hc => ?_) | refine c_ndec rfl (fun hc => ?_) (fun hc => ?_) | refine cnd rfl (fun hc => ?_) (fun hc => ?_) | ((first | refine o_none rfl ?_ | refine o_none_ ?_ | refine o_yes rfl rfl rfl ?_ | refine o_yes_ rfl rfl ?_); first | refine st_callK [0] (hu) b10 rfl rfl rfl rfl rfl (by (repeat' first | exact trivial | refine And.intro ?_ ?_ | rfl); first | done | fail) ?_ | refine st_pure (hs) b16 rfl rfl rfl rfl ?_ | refine st_pure (hck) b17 rfl rfl rfl rfl ?_ | refine st_pure (hf) b18 rfl rfl rfl rfl ?_ | refine st_pure (hb) b19 rfl rfl rfl rfl ?_ | refine st_pure (hr) b20 rfl rfl rfl rfl ?_ | refine st_pure (htold) b14 rfl rfl rfl rfl ?_) | refine gd rfl rfl rfl (fun hg => ?_) (fun hg => ?_) | refine gn rfl rfl rfl (fun hg => ?_) (fun hg => ?_) | refine dwr (by omega) ?_ | refine dwl ?_ | refine dws lay_ok rfl rfl rfl rfl rfl rfl rfl ?_ | refine dwu lay_ok rfl rfl rfl rfl rfl rfl rfl rfl rfl ?_ | refine dw_end ?_ | refine dw_skip rfl rfl rfl ?_ | refine dwn lay_ok rfl rfl rfl rfl rfl ?_ | refine dwb rfl rfl rfl rfl rfl (by (first | refine st_callK [0] (hu) b10 rfl rfl rfl rfl rfl (by (repeat' first | exact trivial | refine And.intro ?_ ?_ | rfl); first | done | fail) ?_ | refine st_pure (hs) b16 rfl rfl rfl rfl ?_ | refine st_pure (hck) b17 rfl rfl rfl rfl ?_ | refine st_pure (hf) b18 rfl rfl rfl rfl ?_ | refine st_pure (hb) b19 rfl rfl rfl rfl ?_ | refine st_pure (hr) b20 rfl rfl rfl rfl ?_ | refine st_pure (htold) b14 rfl rfl rfl rfl ?_); exact fin rfl) rfl rfl ?_ | refine dwg rfl rfl rfl rfl rfl (by (first | refine st_callK [0] (hu) b10 rfl rfl rfl rfl rfl (by (repeat' first | exact trivial | refine And.intro ?_ ?_ | rfl); first | done | fail) ?_ | refine st_pure (hs) b16 rfl rfl rfl rfl ?_ | refine st_pure (hck) b17 rfl rfl rfl rfl ?_ | refine st_pure (hf) b18 rfl rfl rfl rfl ?_ | refine st_pure (hb) b19 rfl rfl rfl rfl ?_ | refine st_pure (hr) b20 rfl rfl rfl rfl ?_ | refine st_pure (htold) b14 rfl rfl rfl rfl ?_); exact fin rfl) rfl rfl rfl rfl rfl ?_ | refine dw_dec rfl rfl rfl (fun hg => ?_) (fun hg => ?_) | refine dw_ndec rfl rfl rfl (fun hg => ?_) (fun hg => ?_)
  all_goals first
    | (exfalso; omega)
    | skip
  refine CodeOk.wk (Wk.nilT 1 14 rfl rfl) (Nat.le_succ _) ?_
  refine nrm rfl rfl ?_
  refine lpR (fun (k, fo, out) => k ≤ l.length ∧ out = belL' (l.take k) t ∧ out.length ≤ k ∧ FoundAs l t k fo) (fun (k, fo, out) => l.length - k) (fun (k, fo, out) => [(15, I k), (13, I fo), (14, .lsl 3 1 0 (out.map rowS).length)]) (fun (k, fo, out) => [(3, .arr 1 (out.map rowS))]) ((0, -1, [])) [0, 1, 5, 8, 9, 10] [] [2] rfl rfl rfl (.of [2] (by (repeat' first | exact trivial | refine And.intro ?_ ?_ | rfl); first | done | fail) (by (repeat' first | exact trivial | refine And.intro ?_ ?_ | rfl); first | done | fail) rfl) ?_ ?_
  · exact ⟨Nat.zero_le _, rfl, Nat.le_refl _, .inl ⟨rfl, fun i _ h => by omega⟩⟩
  rintro ⟨k, fo, out⟩ ⟨g1, g2, g3, g4⟩
  refine nrm rfl rfl ?_
  have hmo : (List.map rowS out).length = out.length := List.length_map _
  by_cases hk : k < l.length
  case neg =>
    have hke : k = l.length := by omega
    subst hke
    rw [List.take_length] at g2
    have hsm := same3_ok (belL' l t) out (by rw [← g2]; omega) (by omega)
    rw [decide_eq_true g2.symm] at hsm
    rw [← g2] at hb
    rcases g4 with ⟨rfl, _⟩ | ⟨j, h1, h2, h3, h4⟩
    · repeat' first | refine wr (by omega) ?_ | refine ln ?_ | refine stp lay_ok rfl ?_ | refine fin ?_ | refine n_thn ?_ | refine n_blk ?_ | refine e_thn ?_ | refine e_hit ?_ | refine e_miss rfl ?_ | refine r_thn ?_ | refine r_blk ?_ | refine e_rr ?_ | refine r_rr ?_ | refine e_cr ?_ | refine r_cr ?_ | refine .seq ?_ | refine reg ?_ | refine .block ?_ | refine .skip ?_ | refine .ret ?_ | refine .exit ?_ | refine cndT rfl ?_ | refine cndF rfl ?_ | refine c_dec rfl (fun hc => ?_) (fun hc => ?_) | refine c_ndec rfl (fun hc => ?_) (fun hc => ?_) | refine cnd rfl (fun hc => ?_) (fun hc => ?_) | refine gd rfl rfl rfl (fun hg => ?_) (fun hg => ?_) | refine gn rfl rfl rfl (fun hg => ?_) (fun hg => ?_) | refine dwr (by omega) ?_ | refine dwl ?_ | refine dws lay_ok rfl rfl rfl rfl rfl rfl rfl ?_ | refine dwu lay_ok rfl rfl rfl rfl rfl rfl rfl rfl rfl ?_ | refine dw_end ?_ | refine dw_skip rfl rfl rfl ?_ | refine dwn lay_ok rfl rfl rfl rfl rfl ?_ | refine dw_dec rfl rfl rfl (fun hg => ?_) (fun hg => ?_) | refine dw_ndec rfl rfl rfl (fun hg => ?_) (fun hg => ?_)
      all_goals first
        | (exfalso; omega)
        | skip
      repeat' first | refine wr (by omega) ?_ | refine ln ?_ | refine stp lay_ok rfl ?_ | refine fin ?_ | refine n_thn ?_ | refine n_blk ?_ | refine e_thn ?_ | refine e_hit ?_ | refine e_miss rfl ?_ | refine r_thn ?_ | refine r_blk ?_ | refine e_rr ?_ | refine r_rr ?_ | refine e_cr ?_ | refine r_cr ?_ | refine .seq ?_ | refine reg ?_ | refine .block ?_ | refine .skip ?_ | refine .ret ?_ | refine .exit ?_ | refine cndT rfl ?_ | refine cndF rfl ?_ | refine c_dec rfl (fun hc => ?_) (fun hc => ?_) | refine c_ndec rfl (fun hc => ?_) (fun hc => ?_) | refine cnd rfl (fun hc => ?_) (fun hc => ?_) | ((first | refine o_none rfl ?_ | refine o_none_ ?_ | refine o_yes rfl rfl rfl ?_ | refine o_yes_ rfl rfl ?_); first | refine st_borrow (hsm) b22 rfl rfl (by (repeat' first | refine Borrow.cons' rfl ?_ ?_ | exact Borrow.nil' rfl | exact trivial | exact rfl | refine And.intro ?_ ?_); first | done | fail) rfl ?_ | refine st_errEq lay_ok rfl rfl rfl rfl rfl rfl rfl ?_ | refine st_pureL (hz) b21 rfl (by (repeat' first | exact AVLeL.nil | refine AVLeL.cons ?_ ?_ | exact AVLe.refl _ | refine AVLe.st ?_ | exact SLe.refl _ | exact SLe.nil _ | exact SLe.sl0 _ | refine SLe.agg ?_ | refine SLe.sl ?_ | refine SLe.iface ?_ | exact SLeL.nil | refine SLeL.cons ?_ ?_ | exact RLe.nil' | refine RLe.cons' rfl ?_ ?_); first | done | fail) rfl rfl rfl ?_) | refine gd rfl rfl rfl (fun hg => ?_) (fun hg => ?_) | refine gn rfl rfl rfl (fun hg => ?_) (fun hg => ?_) | refine dwr (by omega) ?_ | refine dwl ?_ | refine dws lay_ok rfl rfl rfl rfl rfl rfl rfl ?_ | refine dwu lay_ok rfl rfl rfl rfl rfl rfl rfl rfl rfl ?_ | refine dw_end ?_ | refine dw_skip rfl rfl rfl ?_ | refine dwn lay_ok rfl rfl rfl rfl rfl ?_ | refine dwb rfl rfl rfl rfl rfl (by (first | refine st_borrow (hsm) b22 rfl rfl (by (repeat' first | refine Borrow.cons' rfl ?_ ?_ | exact Borrow.nil' rfl | exact trivial | exact rfl | refine And.intro ?_ ?_); first | done | fail) rfl ?_ | refine st_errEq lay_ok rfl rfl rfl rfl rfl rfl rfl ?_ | refine st_pureL (hz) b21 rfl (by (repeat' first | exact AVLeL.nil | refine AVLeL.cons ?_ ?_ | exact AVLe.refl _ | refine AVLe.st ?_ | exact SLe.refl _ | exact SLe.nil _ | exact SLe.sl0 _ | refine SLe.agg ?_ | refine SLe.sl ?_ | refine SLe.iface ?_ | exact SLeL.nil | refine SLeL.cons ?_ ?_ | exact RLe.nil' | refine RLe.cons' rfl ?_ ?_); first | done | fail) rfl rfl rfl ?_); exact fin rfl) rfl rfl ?_ | refine dwg rfl rfl rfl rfl rfl (by (first | refine st_borrow (hsm) b22 rfl rfl (by (repeat' first | refine Borrow.cons' rfl ?_ ?_ | exact Borrow.nil' rfl | exact trivial | exact rfl | refine And.intro ?_ ?_); first | done | fail) rfl ?_ | refine st_errEq lay_ok rfl rfl rfl rfl rfl rfl rfl ?_ | refine st_pureL (hz) b21 rfl (by (repeat' first | exact AVLeL.nil | refine AVLeL.cons ?_ ?_ | exact AVLe.refl _ | refine AVLe.st ?_ | exact SLe.refl _ | exact SLe.nil _ | exact SLe.sl0 _ | refine SLe.agg ?_ | refine SLe.sl ?_ | refine SLe.iface ?_ | exact SLeL.nil | refine SLeL.cons ?_ ?_ | exact RLe.nil' | refine RLe.cons' rfl ?_ ?_); first | done | fail) rfl rfl rfl ?_); exact fin rfl) rfl rfl rfl rfl rfl ?_ | refine dw_dec rfl rfl rfl (fun hg => ?_) (fun hg => ?_) | refine dw_ndec rfl rfl rfl (fun hg => ?_) (fun hg => ?_)
      all_goals first
        | (exfalso; omega)
        | skip
      refine f_r [(0, .fact 0 o')] rfl (by (repeat' first | exact trivial | refine And.intro ?_ ?_ | rfl); first | done | fail) rfl ⟨?_, rfl⟩
      rfl
    · exact absurd h4 (hA j h1)
  have hat := at_rowE hk
  have htk := belL_take t hk
  have hbt := belP_text (t := t) (hpo k hk)
  rw [← g2] at htk
  have hfo1 : l[k].path = t → FoundAs l t (k + 1) k := fun h => .inr ⟨k, hk, Nat.lt_succ_self _, rfl, h⟩
  have hfo2 : l[k].path ≠ t → FoundAs l t (k + 1) fo := fun h => by
    rcases g4 with ⟨h1, h2⟩ | ⟨j, h1, h2, h3, h4⟩
    · refine .inl ⟨h1, fun i hi hik => ?_⟩
      by_cases hik' : i = k
      · subst hik'; exact h
      · exact h2 i hi (by omega)
    · exact .inr ⟨j, h1, by omega, h3, h4⟩
  clear hA hu hs hck hf hb hr htold hz hpo
  generalize l[k] = e at *
  obtain ⟨p, z, ks⟩ := e
  simp only at hbt hfo1 hfo2 htk
  have hr1 : List.map rowS out ++ [[SV.str p]] = List.map rowS (out ++ [p]) := by rw [List.map_append]; rfl
  cases hbb : belP t ⟨p, z, ks⟩ <;> rw [hbb] at hbt htk
  · rw [if_neg (by simp), List.append_nil] at htk
    have hn : ¬ (t = ⟨#[]⟩ ∨ (p.size > t.size + 1 ∧ p.extract 0 (t.size + 1) = t ++ slash)) := fun h => by simpa using hbt.2 h
    have hn1 : ¬ t = ⟨#[]⟩ := fun h => hn (.inl h)
    have hn2 : p.size > t.size + 1 → p.extract 0 (t.size + 1) = t ++ (⟨#[47]⟩ : ByteArray) → False := fun h1 h2 => hn (.inr ⟨h1, h2⟩)
    clear hbt hn
    by_cases hpt : p = t
    · have hfn := hfo1 hpt
      repeat' first | refine wr (by omega) ?_ | refine ln ?_ | refine stp lay_ok rfl ?_ | refine fin ?_ | refine n_thn ?_ | refine n_blk ?_ | refine e_thn ?_ | refine e_hit ?_ | refine e_miss rfl ?_ | refine r_thn ?_ | refine r_blk ?_ | refine e_rr ?_ | refine r_rr ?_ | refine e_cr ?_ | refine r_cr ?_ | refine .seq ?_ | refine reg ?_ | refine .block ?_ | refine .skip ?_ | refine .ret ?_ | refine .exit ?_ | refine cndT rfl ?_ | refine cndF rfl ?_ | refine c_dec rfl (fun hc => ?_) (fun hc => ?_) | refine c_ndec rfl (fun hc => ?_) (fun hc => ?_) | refine cnd rfl (fun hc => ?_) (fun hc => ?_) | ((first | refine o_none rfl ?_ | refine o_none_ ?_ | refine o_yes rfl rfl rfl ?_ | refine o_yes_ rfl rfl ?_); first | refine st_index (rowE ⟨p, z, ks⟩) lay_ok rfl rfl rfl rfl (by omega) hat ?_ | refine st_subS 0 (t.size + 1) lay_ok rfl rfl rfl rfl ⟨_, _, rfl, by omega⟩ (Nat.zero_le _) (by omega) ?_ | refine st_cat rfl rfl hcat ?_) | refine gd rfl rfl rfl (fun hg => ?_) (fun hg => ?_) | refine gn rfl rfl rfl (fun hg => ?_) (fun hg => ?_) | refine dwr (by omega) ?_ | refine dwl ?_ | refine dws lay_ok rfl rfl rfl rfl rfl rfl rfl ?_ | refine dwu lay_ok rfl rfl rfl rfl rfl rfl rfl rfl rfl ?_ | refine dw_end ?_ | refine dw_skip rfl rfl rfl ?_ | refine dwn lay_ok rfl rfl rfl rfl rfl ?_ | refine dwb rfl rfl rfl rfl rfl (by (first | refine st_index (rowE ⟨p, z, ks⟩) lay_ok rfl rfl rfl rfl (by omega) hat ?_ | refine st_subS 0 (t.size + 1) lay_ok rfl rfl rfl rfl ⟨_, _, rfl, by omega⟩ (Nat.zero_le _) (by omega) ?_ | refine st_cat rfl rfl hcat ?_); exact fin rfl) rfl rfl ?_ | refine dwg rfl rfl rfl rfl rfl (by (first | refine st_index (rowE ⟨p, z, ks⟩) lay_ok rfl rfl rfl rfl (by omega) hat ?_ | refine st_subS 0 (t.size + 1) lay_ok rfl rfl rfl rfl ⟨_, _, rfl, by omega⟩ (Nat.zero_le _) (by omega) ?_ | refine st_cat rfl rfl hcat ?_); exact fin rfl) rfl rfl rfl rfl rfl ?_ | refine dw_dec rfl rfl rfl (fun hg => ?_) (fun hg => ?_) | refine dw_ndec rfl rfl rfl (fun hg => ?_) (fun hg => ?_)
      all_goals first
        | (exfalso; omega)
        | (exfalso; contradiction)
        | (exfalso; simp only at *; first | omega | contradiction | exact hn2 (by omega) (by assumption))
        | skip
      all_goals
        refine n_rr ((k + 1, (k : Int), out)) ?_ (.of [3] (by (repeat' first | exact trivial | refine And.intro ?_ ?_ | rfl | exact congrArg (fun z : Int => some (AV.st (.int .i64 z))) (show (k : Int) + 1 = ((k + 1 : Nat) : Int) by omega)); first | done | fail) (by (repeat' first | exact trivial | refine And.intro ?_ ?_ | rfl | exact congrArg (fun z : Int => some (AV.st (.int .i64 z))) (show (k : Int) + 1 = ((k + 1 : Nat) : Int) by omega)); first | done | fail) rfl) ?_
        · show l.length - (k + 1) < l.length - k; omega
        · exact ⟨hk, htk.symm, by omega, hfn⟩
    · have hfn := hfo2 hpt
      repeat' first | refine wr (by omega) ?_ | refine ln ?_ | refine stp lay_ok rfl ?_ | refine fin ?_ | refine n_thn ?_ | refine n_blk ?_ | refine e_thn ?_ | refine e_hit ?_ | refine e_miss rfl ?_ | refine r_thn ?_ | refine r_blk ?_ | refine e_rr ?_ | refine r_rr ?_ | refine e_cr ?_ | refine r_cr ?_ | refine .seq ?_ | refine reg ?_ | refine .block ?_ | refine .skip ?_ | refine .ret ?_ | refine .exit ?_ | refine cndT rfl ?_ | refine cndF rfl ?_ | refine c_dec rfl (fun hc => ?_) (fun hc => ?_) | refine c_ndec rfl (fun hc => ?_) (fun hc => ?_) | refine cnd rfl (fun hc => ?_) (fun hc => ?_) | ((first | refine o_none rfl ?_ | refine o_none_ ?_ | refine o_yes rfl rfl rfl ?_ | refine o_yes_ rfl rfl ?_); first | refine st_index (rowE ⟨p, z, ks⟩) lay_ok rfl rfl rfl rfl (by omega) hat ?_ | refine st_subS 0 (t.size + 1) lay_ok rfl rfl rfl rfl ⟨_, _, rfl, by omega⟩ (Nat.zero_le _) (by omega) ?_ | refine st_cat rfl rfl hcat ?_) | refine gd rfl rfl rfl (fun hg => ?_) (fun hg => ?_) | refine gn rfl rfl rfl (fun hg => ?_) (fun hg => ?_) | refine dwr (by omega) ?_ | refine dwl ?_ | refine dws lay_ok rfl rfl rfl rfl rfl rfl rfl ?_ | refine dwu lay_ok rfl rfl rfl rfl rfl rfl rfl rfl rfl ?_ | refine dw_end ?_ | refine dw_skip rfl rfl rfl ?_ | refine dwn lay_ok rfl rfl rfl rfl rfl ?_ | refine dwb rfl rfl rfl rfl rfl (by (first | refine st_index (rowE ⟨p, z, ks⟩) lay_ok rfl rfl rfl rfl (by omega) hat ?_ | refine st_subS 0 (t.size + 1) lay_ok rfl rfl rfl rfl ⟨_, _, rfl, by omega⟩ (Nat.zero_le _) (by omega) ?_ | refine st_cat rfl rfl hcat ?_); exact fin rfl) rfl rfl ?_ | refine dwg rfl rfl rfl rfl rfl (by (first | refine st_index (rowE ⟨p, z, ks⟩) lay_ok rfl rfl rfl rfl (by omega) hat ?_ | refine st_subS 0 (t.size + 1) lay_ok rfl rfl rfl rfl ⟨_, _, rfl, by omega⟩ (Nat.zero_le _) (by omega) ?_ | refine st_cat rfl rfl hcat ?_); exact fin rfl) rfl rfl rfl rfl rfl ?_ | refine dw_dec rfl rfl rfl (fun hg => ?_) (fun hg => ?_) | refine dw_ndec rfl rfl rfl (fun hg => ?_) (fun hg => ?_)
      all_goals first
        | (exfalso; omega)
        | (exfalso; contradiction)
        | (exfalso; simp only at *; first | omega | contradiction | exact hn2 (by omega) (by assumption))
        | skip
      all_goals
        refine n_rr ((k + 1, fo, out)) ?_ (.of [3] (by (repeat' first | exact trivial | refine And.intro ?_ ?_ | rfl | exact congrArg (fun z : Int => some (AV.st (.int .i64 z))) (show (k : Int) + 1 = ((k + 1 : Nat) : Int) by omega)); first | done | fail) (by (repeat' first | exact trivial | refine And.intro ?_ ?_ | rfl | exact congrArg (fun z : Int => some (AV.st (.int .i64 z))) (show (k : Int) + 1 = ((k + 1 : Nat) : Int) by omega)); first | done | fail) rfl) ?_
        · show l.length - (k + 1) < l.length - k; omega
        · exact ⟨hk, htk.symm, by omega, hfn⟩
  · rw [if_pos rfl] at htk
    have hn := hbt.1 rfl
    clear hbt
    have hn1 : ¬ t = ⟨#[]⟩ → ¬ p.size > t.size + 1 → False := fun h1 h2 => by rcases hn with h | h; exact h1 h; exact h2 h.1
    have hn2 : ¬ t = ⟨#[]⟩ → ¬ p.extract 0 (t.size + 1) = t ++ (⟨#[47]⟩ : ByteArray) → False := fun h1 h2 => by rcases hn with h | h; exact h1 h; exact h2 h.2
    clear hn
    by_cases hpt : p = t
    · have hfn := hfo1 hpt
      repeat' first | refine wr (by omega) ?_ | refine ln ?_ | refine stp lay_ok rfl ?_ | refine fin ?_ | refine n_thn ?_ | refine n_blk ?_ | refine e_thn ?_ | refine e_hit ?_ | refine e_miss rfl ?_ | refine r_thn ?_ | refine r_blk ?_ | refine e_rr ?_ | refine r_rr ?_ | refine e_cr ?_ | refine r_cr ?_ | refine .seq ?_ | refine reg ?_ | refine .block ?_ | refine .skip ?_ | refine .ret ?_ | refine .exit ?_ | refine cndT rfl ?_ | refine cndF rfl ?_ | refine c_dec rfl (fun hc => ?_) (fun hc => ?_) | refine c_ndec rfl (fun hc => ?_) (fun hc => ?_) | refine cnd rfl (fun hc => ?_) (fun hc => ?_) | ((first | refine o_none rfl ?_ | refine o_none_ ?_ | refine o_yes rfl rfl rfl ?_ | refine o_yes_ rfl rfl ?_); first | refine st_index (rowE ⟨p, z, ks⟩) lay_ok rfl rfl rfl rfl (by omega) hat ?_ | refine st_subS 0 (t.size + 1) lay_ok rfl rfl rfl rfl ⟨_, _, rfl, by omega⟩ (Nat.zero_le _) (by omega) ?_ | refine st_cat rfl rfl hcat ?_ | refine st_append lay_ok rfl rfl rfl rfl rfl rfl rfl rfl (.lsl rfl rfl) .sl rfl (rowS_one (b := [p])) (by simp only [List.length_cons, List.length_nil]; omega) (by simp only [List.length_cons, List.length_nil]; omega) ?_) | refine gd rfl rfl rfl (fun hg => ?_) (fun hg => ?_) | refine gn rfl rfl rfl (fun hg => ?_) (fun hg => ?_) | refine dwr (by omega) ?_ | refine dwl ?_ | refine dws lay_ok rfl rfl rfl rfl rfl rfl rfl ?_ | refine dwu lay_ok rfl rfl rfl rfl rfl rfl rfl rfl rfl ?_ | refine dw_end ?_ | refine dw_skip rfl rfl rfl ?_ | refine dwn lay_ok rfl rfl rfl rfl rfl ?_ | refine dwb rfl rfl rfl rfl rfl (by (first | refine st_index (rowE ⟨p, z, ks⟩) lay_ok rfl rfl rfl rfl (by omega) hat ?_ | refine st_subS 0 (t.size + 1) lay_ok rfl rfl rfl rfl ⟨_, _, rfl, by omega⟩ (Nat.zero_le _) (by omega) ?_ | refine st_cat rfl rfl hcat ?_ | refine st_append lay_ok rfl rfl rfl rfl rfl rfl rfl rfl (.lsl rfl rfl) .sl rfl (rowS_one (b := [p])) (by simp only [List.length_cons, List.length_nil]; omega) (by simp only [List.length_cons, List.length_nil]; omega) ?_); exact fin rfl) rfl rfl ?_ | refine dwg rfl rfl rfl rfl rfl (by (first | refine st_index (rowE ⟨p, z, ks⟩) lay_ok rfl rfl rfl rfl (by omega) hat ?_ | refine st_subS 0 (t.size + 1) lay_ok rfl rfl rfl rfl ⟨_, _, rfl, by omega⟩ (Nat.zero_le _) (by omega) ?_ | refine st_cat rfl rfl hcat ?_ | refine st_append lay_ok rfl rfl rfl rfl rfl rfl rfl rfl (.lsl rfl rfl) .sl rfl (rowS_one (b := [p])) (by simp only [List.length_cons, List.length_nil]; omega) (by simp only [List.length_cons, List.length_nil]; omega) ?_); exact fin rfl) rfl rfl rfl rfl rfl ?_ | refine dw_dec rfl rfl rfl (fun hg => ?_) (fun hg => ?_) | refine dw_ndec rfl rfl rfl (fun hg => ?_) (fun hg => ?_)
      all_goals first
        | (exfalso; omega)
        | (exfalso; contradiction)
        | (exfalso; simp only at *; first | omega | contradiction | exact hn1 (by assumption) (by omega) | exact hn2 (by assumption) (by assumption))
        | skip
      all_goals
        rw [hr1]
        refine n_rr ((k + 1, (k : Int), out ++ [p])) ?_ (.of [4] (by (repeat' first | exact trivial | refine And.intro ?_ ?_ | rfl | exact congrArg (fun z : Int => some (AV.st (.int .i64 z))) (show (k : Int) + 1 = ((k + 1 : Nat) : Int) by omega)); first | done | fail) (by (repeat' first | exact trivial | refine And.intro ?_ ?_ | rfl | exact congrArg (fun z : Int => some (AV.st (.int .i64 z))) (show (k : Int) + 1 = ((k + 1 : Nat) : Int) by omega)); first | done | fail) rfl) ?_
        · show l.length - (k + 1) < l.length - k; omega
        · exact ⟨hk, htk.symm, by simp; omega, hfn⟩
    · have hfn := hfo2 hpt
      repeat' first | refine wr (by omega) ?_ | refine ln ?_ | refine stp lay_ok rfl ?_ | refine fin ?_ | refine n_thn ?_ | refine n_blk ?_ | refine e_thn ?_ | refine e_hit ?_ | refine e_miss rfl ?_ | refine r_thn ?_ | refine r_blk ?_ | refine e_rr ?_ | refine r_rr ?_ | refine e_cr ?_ | refine r_cr ?_ | refine .seq ?_ | refine reg ?_ | refine .block ?_ | refine .skip ?_ | refine .ret ?_ | refine .exit ?_ | refine cndT rfl ?_ | refine cndF rfl ?_ | refine c_dec rfl (fun hc => ?_) (fun hc => ?_) | refine c_ndec rfl (fun hc => ?_) (fun hc => ?_) | refine cnd rfl (fun hc => ?_) (fun hc => ?_) | ((first | refine o_none rfl ?_ | refine o_none_ ?_ | refine o_yes rfl rfl rfl ?_ | refine o_yes_ rfl rfl ?_); first | refine st_index (rowE ⟨p, z, ks⟩) lay_ok rfl rfl rfl rfl (by omega) hat ?_ | refine st_subS 0 (t.size + 1) lay_ok rfl rfl rfl rfl ⟨_, _, rfl, by omega⟩ (Nat.zero_le _) (by omega) ?_ | refine st_cat rfl rfl hcat ?_ | refine st_append lay_ok rfl rfl rfl rfl rfl rfl rfl rfl (.lsl rfl rfl) .sl rfl (rowS_one (b := [p])) (by simp only [List.length_cons, List.length_nil]; omega) (by simp only [List.length_cons, List.length_nil]; omega) ?_) | refine gd rfl rfl rfl (fun hg => ?_) (fun hg => ?_) | refine gn rfl rfl rfl (fun hg => ?_) (fun hg => ?_) | refine dwr (by omega) ?_ | refine dwl ?_ | refine dws lay_ok rfl rfl rfl rfl rfl rfl rfl ?_ | refine dwu lay_ok rfl rfl rfl rfl rfl rfl rfl rfl rfl ?_ | refine dw_end ?_ | refine dw_skip rfl rfl rfl ?_ | refine dwn lay_ok rfl rfl rfl rfl rfl ?_ | refine dwb rfl rfl rfl rfl rfl (by (first | refine st_index (rowE ⟨p, z, ks⟩) lay_ok rfl rfl rfl rfl (by omega) hat ?_ | refine st_subS 0 (t.size + 1) lay_ok rfl rfl rfl rfl ⟨_, _, rfl, by omega⟩ (Nat.zero_le _) (by omega) ?_ | refine st_cat rfl rfl hcat ?_ | refine st_append lay_ok rfl rfl rfl rfl rfl rfl rfl rfl (.lsl rfl rfl) .sl rfl (rowS_one (b := [p])) (by simp only [List.length_cons, List.length_nil]; omega) (by simp only [List.length_cons, List.length_nil]; omega) ?_); exact fin rfl) rfl rfl ?_ | refine dwg rfl rfl rfl rfl rfl (by (first | refine st_index (rowE ⟨p, z, ks⟩) lay_ok rfl rfl rfl rfl (by omega) hat ?_ | refine st_subS 0 (t.size + 1) lay_ok rfl rfl rfl rfl ⟨_, _, rfl, by omega⟩ (Nat.zero_le _) (by omega) ?_ | refine st_cat rfl rfl hcat ?_ | refine st_append lay_ok rfl rfl rfl rfl rfl rfl rfl rfl (.lsl rfl rfl) .sl rfl (rowS_one (b := [p])) (by simp only [List.length_cons, List.length_nil]; omega) (by simp only [List.length_cons, List.length_nil]; omega) ?_); exact fin rfl) rfl rfl rfl rfl rfl ?_ | refine dw_dec rfl rfl rfl (fun hg => ?_) (fun hg => ?_) | refine dw_ndec rfl rfl rfl (fun hg => ?_) (fun hg => ?_)
      all_goals first
        | (exfalso; omega)
        | (exfalso; contradiction)
        | (exfalso; simp only at *; first | omega | contradiction | exact hn1 (by assumption) (by omega) | exact hn2 (by assumption) (by assumption))
        | skip
      all_goals
        rw [hr1]
        refine n_rr ((k + 1, fo, out ++ [p])) ?_ (.of [4] (by (repeat' first | exact trivial | refine And.intro ?_ ?_ | rfl | exact congrArg (fun z : Int => some (AV.st (.int .i64 z))) (show (k : Int) + 1 = ((k + 1 : Nat) : Int) by omega)); first | done | fail) (by (repeat' first | exact trivial | refine And.intro ?_ ?_ | rfl | exact congrArg (fun z : Int => some (AV.st (.int .i64 z))) (show (k : Int) + 1 = ((k + 1 : Nat) : Int) by omega)); first | done | fail) rfl) ?_
        · show l.length - (k + 1) < l.length - k; omega
        · exact ⟨hk, htk.symm, by simp; omega, hfn⟩
set_option maxHeartbeats 8000000 in
set_option maxRecDepth 4000 in
theorem checks_hit (o' : Obj) (l : List EV) (t : ByteArray) (j0 : Nat) (hj0 : j0 < l.length) (hjt : l[j0].path = t) (hone : ∀ j (h : j < l.length), l[j].path = t → j = j0) (hu : ACalls prog 10 1 [] [(0, .fact 0 o')] fun r h => r = B true ∧ h = [(0, .fact 0 o')])
    (hs : ACalls prog 16 0 [.st (.sl 3 (l.map rowE))] [] fun r h => r = B true ∧ h = []) (ht : t.size ≤ 2000) (hl : l.length ≤ 32) (hks : ∀ e ∈ l, e.keys.length ≤ 4000000000) (hpo : ∀ i (h : i < l.length), pathOk l[i].path = true)
    (hck : ACalls prog 17 0 [.st (.sl 3 (l.map rowE))] [] fun r h => r = nilE ∧ h = [])
    (hf : ACalls prog 18 0 [.st (.sl 3 (l.map rowE)), Sx t] [] fun r h => r = .tuple [.st (.agg (rowE l[j0])), nilE] ∧ h = [])
    (hb : ACalls prog 19 0 [.st (.sl 3 (l.map rowE)), Sx t] [] fun r h => r = .st (.sl 1 ((belL' l t).map rowS)) ∧ h = [])
    (hr : ACalls prog 20 0 [.st (.sl 3 (l.map rowE))] [] fun r h => r = .tuple [I 0, I (-1)] ∧ h = []) :
    ACalls prog 4 1 [.st (.sl 3 (l.map rowE)), Sx t] [(0, .fact 0 o')] fun r h => r = B true ∧ h = [(0, .fact 0 o')] := by
  have htold : ACalls prog 14 0 [nilE, I 0, I (-1)] [] fun r h => r = B true ∧ h = [] := toldNil_ok 0
  have hm : (List.map rowE l).length = l.length := List.length_map _
  have hcat : t.size + slash.size ≤ 9223372036854775807 := by
    have : slash.size = 1 := rfl
    omega
  have hat0 := at_rowE hj0
  have hz := same4_ok l[j0] l[j0] (hks _ (List.getElem_mem hj0)) (hks _ (List.getElem_mem hj0))
  rw [decide_eq_true rfl] at hz
  generalize he0 : l[j0] = e0 at *
  obtain ⟨p0, z0, ks0⟩ := e0
  refine fnC lay_ok func4 rfl rfl rfl rfl rfl ?_
  repeat' first | refine wr (by omega) ?_ | refine ln ?_ | refine stp lay_ok rfl ?_ | refine fin ?_ | refine n_thn ?_ | refine n_blk ?_ | refine e_thn ?_ | refine e_hit ?_ | refine e_miss rfl ?_ | refine r_thn ?_ | refine r_blk ?_ | refine e_rr ?_ | refine r_rr ?_ | refine e_cr ?_ | refine r_cr ?_ | refine .seq ?_ | refine reg ?_ | refine .block ?_ | refine .skip ?_ | refine .ret ?_ | refine .exit ?_ | refine cndT rfl ?_ | refine cndF rfl ?_ | refine c_dec rfl (fun hc => ?_) (fun hc => ?_) | refine c_ndec rfl (fun hc => ?_) (fun hc => ?_) | refine cnd rfl (fun hc => ?_) (fun hc => ?_) | ((first | refine o_none rfl ?_ | refine o_none_ ?_ | refine o_yes rfl rfl rfl ?_ | refine o_yes_ rfl rfl ?_); first | refine st_callK [0] (hu) b10 rfl rfl rfl rfl rfl (by (repeat' first | exact trivial | refine And.intro ?_ ?_ | rfl); first | done | fail) ?_ | refine st_pure (hs) b16 rfl rfl rfl rfl ?_ | refine st_pure (hck) b17 rfl rfl rfl rfl ?_ | refine st_pure (hf) b18 rfl rfl rfl rfl ?_ | refine st_pure (hb) b19 rfl rfl rfl rfl ?_ | refine st_pure (hr) b20 rfl rfl rfl rfl ?_ | refine st_pure (htold) b14 rfl rfl rfl rfl ?_) | refine gd rfl rfl rfl (fun hg => ?_) (fun hg => ?_) | refine gn rfl rfl rfl (fun hg => ?_) (fun hg => ?_) | refine dwr (by omega) ?_ | refine dwl ?_ | refine dws lay_ok rfl rfl rfl rfl rfl rfl rfl ?_ | refine dwu lay_ok rfl rfl rfl rfl rfl rfl rfl rfl rfl ?_ | refine dw_end ?_ | refine dw_skip rfl rfl rfl ?_ | refine dwn lay_ok rfl rfl rfl rfl rfl ?_ | refine dwb rfl rfl rfl rfl rfl (by (first | refine st_callK [0] (hu) b10 rfl rfl rfl rfl rfl (by (repeat' first | exact trivial | refine And.intro ?_ ?_ | rfl); first | done | fail) ?_ | refine st_pure (hs) b16 rfl rfl rfl rfl ?_ | refine st_pure (hck) b17 rfl rfl rfl rfl ?_ | refine st_pure (hf) b18 rfl rfl rfl rfl ?_ | refine st_pure (hb) b19 rfl rfl rfl rfl ?_ | refine st_pure (hr) b20 rfl rfl rfl rfl ?_ | refine st_pure (htold) b14 rfl rfl rfl rfl ?_); exact fin rfl) rfl rfl ?_ | refine dwg rfl rfl rfl rfl rfl (by (first | refine st_callK [0] (hu) b10 rfl rfl rfl rfl rfl (by (repeat' first | exact trivial | refine And.intro ?_ ?_ | rfl); first | done | fail) ?_ | refine st_pure (hs) b16 rfl rfl rfl rfl ?_ | refine st_pure (hck) b17 rfl rfl rfl rfl ?_ | refine st_pure (hf) b18 rfl rfl rfl rfl ?_ | refine st_pure (hb) b19 rfl rfl rfl rfl ?_ | refine st_pure (hr) b20 rfl rfl rfl rfl ?_ | refine st_pure (htold) b14 rfl rfl rfl rfl ?_); exact fin rfl) rfl rfl rfl rfl rfl ?_ | refine dw_dec rfl rfl rfl (fun hg => ?_) (fun hg => ?_) | refine dw_ndec rfl rfl rfl (fun hg => ?_) (fun hg => ?_)
  all_goals first
    | (exfalso; omega)
    | skip
  refine CodeOk.wk (Wk.nilT 1 14 rfl rfl) (Nat.le_succ _) ?_
  refine nrm rfl rfl ?_
  refine lpR (fun (k, fo, out) => k ≤ l.length ∧ out = belL' (l.take k) t ∧ out.length ≤ k ∧ FoundAs l t k fo) (fun (k, fo, out) => l.length - k) (fun (k, fo, out) => [(15, I k), (13, I fo), (14, .lsl 3 1 0 (out.map rowS).length)]) (fun (k, fo, out) => [(3, .arr 1 (out.map rowS))]) ((0, -1, [])) [0, 1, 5, 8, 9, 10] [] [2] rfl rfl rfl (.of [2] (by (repeat' first | exact trivial | refine And.intro ?_ ?_ | rfl); first | done | fail) (by (repeat' first | exact trivial | refine And.intro ?_ ?_ | rfl); first | done | fail) rfl) ?_ ?_
  · exact ⟨Nat.zero_le _, rfl, Nat.le_refl _, .inl ⟨rfl, fun i _ h => by omega⟩⟩
  rintro ⟨k, fo, out⟩ ⟨g1, g2, g3, g4⟩
  refine nrm rfl rfl ?_
  have hmo : (List.map rowS out).length = out.length := List.length_map _
  by_cases hk : k < l.length
  case neg =>
    have hke : k = l.length := by omega
    subst hke
    rw [List.take_length] at g2
    have hsm := same3_ok (belL' l t) out (by rw [← g2]; omega) (by omega)
    rw [decide_eq_true g2.symm] at hsm
    rw [← g2] at hb
    rcases g4 with ⟨rfl, h4⟩ | ⟨j, h1, h2, h3, h4⟩
    · exact absurd hjt (by have := h4 j0 hj0 hj0; rw [he0] at this; exact this)
    · have hjj := hone j h1 h4
      subst hjj
      subst h3
      repeat' first | refine wr (by omega) ?_ | refine ln ?_ | refine stp lay_ok rfl ?_ | refine fin ?_ | refine n_thn ?_ | refine n_blk ?_ | refine e_thn ?_ | refine e_hit ?_ | refine e_miss rfl ?_ | refine r_thn ?_ | refine r_blk ?_ | refine e_rr ?_ | refine r_rr ?_ | refine e_cr ?_ | refine r_cr ?_ | refine .seq ?_ | refine reg ?_ | refine .block ?_ | refine .skip ?_ | refine .ret ?_ | refine .exit ?_ | refine cndT rfl ?_ | refine cndF rfl ?_ | refine c_dec rfl (fun hc => ?_) (fun hc => ?_) | refine c_ndec rfl (fun hc => ?_) (fun hc => ?_) | refine cnd rfl (fun hc => ?_) (fun hc => ?_) | refine gd rfl rfl rfl (fun hg => ?_) (fun hg => ?_) | refine gn rfl rfl rfl (fun hg => ?_) (fun hg => ?_) | refine dwr (by omega) ?_ | refine dwl ?_ | refine dws lay_ok rfl rfl rfl rfl rfl rfl rfl ?_ | refine dwu lay_ok rfl rfl rfl rfl rfl rfl rfl rfl rfl ?_ | refine dw_end ?_ | refine dw_skip rfl rfl rfl ?_ | refine dwn lay_ok rfl rfl rfl rfl rfl ?_ | refine dw_dec rfl rfl rfl (fun hg => ?_) (fun hg => ?_) | refine dw_ndec rfl rfl rfl (fun hg => ?_) (fun hg => ?_)
      all_goals first
        | (exfalso; omega)
        | skip
      repeat' first | refine wr (by omega) ?_ | refine ln ?_ | refine stp lay_ok rfl ?_ | refine fin ?_ | refine n_thn ?_ | refine n_blk ?_ | refine e_thn ?_ | refine e_hit ?_ | refine e_miss rfl ?_ | refine r_thn ?_ | refine r_blk ?_ | refine e_rr ?_ | refine r_rr ?_ | refine e_cr ?_ | refine r_cr ?_ | refine .seq ?_ | refine reg ?_ | refine .block ?_ | refine .skip ?_ | refine .ret ?_ | refine .exit ?_ | refine cndT rfl ?_ | refine cndF rfl ?_ | refine c_dec rfl (fun hc => ?_) (fun hc => ?_) | refine c_ndec rfl (fun hc => ?_) (fun hc => ?_) | refine cnd rfl (fun hc => ?_) (fun hc => ?_) | ((first | refine o_none rfl ?_ | refine o_none_ ?_ | refine o_yes rfl rfl rfl ?_ | refine o_yes_ rfl rfl ?_); first | refine st_borrow (hsm) b22 rfl rfl (by (repeat' first | refine Borrow.cons' rfl ?_ ?_ | exact Borrow.nil' rfl | exact trivial | exact rfl | refine And.intro ?_ ?_); first | done | fail) rfl ?_) | refine gd rfl rfl rfl (fun hg => ?_) (fun hg => ?_) | refine gn rfl rfl rfl (fun hg => ?_) (fun hg => ?_) | refine dwr (by omega) ?_ | refine dwl ?_ | refine dws lay_ok rfl rfl rfl rfl rfl rfl rfl ?_ | refine dwu lay_ok rfl rfl rfl rfl rfl rfl rfl rfl rfl ?_ | refine dw_end ?_ | refine dw_skip rfl rfl rfl ?_ | refine dwn lay_ok rfl rfl rfl rfl rfl ?_ | refine dwb rfl rfl rfl rfl rfl (by (first | refine st_borrow (hsm) b22 rfl rfl (by (repeat' first | refine Borrow.cons' rfl ?_ ?_ | exact Borrow.nil' rfl | exact trivial | exact rfl | refine And.intro ?_ ?_); first | done | fail) rfl ?_); exact fin rfl) rfl rfl ?_ | refine dwg rfl rfl rfl rfl rfl (by (first | refine st_borrow (hsm) b22 rfl rfl (by (repeat' first | refine Borrow.cons' rfl ?_ ?_ | exact Borrow.nil' rfl | exact trivial | exact rfl | refine And.intro ?_ ?_); first | done | fail) rfl ?_); exact fin rfl) rfl rfl rfl rfl rfl ?_ | refine dw_dec rfl rfl rfl (fun hg => ?_) (fun hg => ?_) | refine dw_ndec rfl rfl rfl (fun hg => ?_) (fun hg => ?_)
      all_goals first
        | (exfalso; omega)
        | skip
      refine dreg [(0, [], []), (1, [0], []), (2, [0, 1], []), (3, [0, 1, 2], []), (4, [0, 1, 2, 3], []), (5, [0, 1, 2, 3, 4], []), (6, [0, 1, 2, 3, 4, 5], [143, 144, 145, 146]), (7, [0, 1, 2, 3, 4, 5], [142, 144]), (8, [0, 1, 2, 3, 4, 5], [142, 143]), (9, [0, 1, 2, 3, 4, 5, 7, 8], [142]), (10, [0, 1, 2, 3, 4, 5, 7, 8, 9], [142]), (11, [0, 1, 2, 3, 4, 5, 6, 7, 8, 9, 10], []), (12, [0, 1, 2, 3, 4, 5, 6, 7, 8, 9, 10, 11], []), (13, [0, 1, 2, 3, 4, 5, 6, 7, 8, 9, 10, 11, 12], [])] mixed (by kernel_rfl) ?_
      repeat' first | refine wr (by omega) ?_ | refine ln ?_ | refine stp lay_ok rfl ?_ | refine fin ?_ | refine n_thn ?_ | refine n_blk ?_ | refine e_thn ?_ | refine e_hit ?_ | refine e_miss rfl ?_ | refine r_thn ?_ | refine r_blk ?_ | refine e_rr ?_ | refine r_rr ?_ | refine e_cr ?_ | refine r_cr ?_ | refine .seq ?_ | refine reg ?_ | refine .block ?_ | refine .skip ?_ | refine .ret ?_ | refine .exit ?_ | refine cndT rfl ?_ | refine cndF rfl ?_ | refine c_dec rfl (fun hc => ?_) (fun hc => ?_) | refine c_ndec rfl (fun hc => ?_) (fun hc => ?_) | refine cnd rfl (fun hc => ?_) (fun hc => ?_) | ((first | refine o_none rfl ?_ | refine o_none_ ?_ | refine o_yes rfl rfl rfl ?_ | refine o_yes_ rfl rfl ?_); first | refine st_index (rowE ⟨p0, z0, ks0⟩) lay_ok rfl rfl rfl rfl (by omega) hat0 ?_ | refine st_pure (hz) b21 rfl rfl rfl rfl ?_) | refine gd rfl rfl rfl (fun hg => ?_) (fun hg => ?_) | refine gn rfl rfl rfl (fun hg => ?_) (fun hg => ?_) | refine dwr (by omega) ?_ | refine dwl ?_ | refine dws lay_ok rfl rfl rfl rfl rfl rfl rfl ?_ | refine dwu lay_ok rfl rfl rfl rfl rfl rfl rfl rfl rfl ?_ | refine dw_end ?_ | refine dw_skip rfl rfl rfl ?_ | refine dwn lay_ok rfl rfl rfl rfl rfl ?_ | refine dwb rfl rfl rfl rfl rfl (by (first | refine st_index (rowE ⟨p0, z0, ks0⟩) lay_ok rfl rfl rfl rfl (by omega) hat0 ?_ | refine st_pure (hz) b21 rfl rfl rfl rfl ?_); exact fin rfl) rfl rfl ?_ | refine dwg rfl rfl rfl rfl rfl (by (first | refine st_index (rowE ⟨p0, z0, ks0⟩) lay_ok rfl rfl rfl rfl (by omega) hat0 ?_ | refine st_pure (hz) b21 rfl rfl rfl rfl ?_); exact fin rfl) rfl rfl rfl rfl rfl ?_ | refine dw_dec rfl rfl rfl (fun hg => ?_) (fun hg => ?_) | refine dw_ndec rfl rfl rfl (fun hg => ?_) (fun hg => ?_)
      all_goals first
        | (exfalso; omega)
        | skip
      refine f_r [(0, .fact 0 o')] rfl (by (repeat' first | exact trivial | refine And.intro ?_ ?_ | rfl); first | done | fail) rfl ⟨?_, rfl⟩
      rfl
  have hat := at_rowE hk
  have htk := belL_take t hk
  have hbt := belP_text (t := t) (hpo k hk)
  rw [← g2] at htk
  have hfo1 : l[k].path = t → FoundAs l t (k + 1) k := fun h => .inr ⟨k, hk, Nat.lt_succ_self _, rfl, h⟩
  have hfo2 : l[k].path ≠ t → FoundAs l t (k + 1) fo := fun h => by
    rcases g4 with ⟨h1, h2⟩ | ⟨j, h1, h2, h3, h4⟩
    · refine .inl ⟨h1, fun i hi hik => ?_⟩
      by_cases hik' : i = k
      · subst hik'; exact h
      · exact h2 i hi (by omega)
    · exact .inr ⟨j, h1, by omega, h3, h4⟩
  clear hone hu hs hck hf hb hr htold hz hpo
  generalize l[k] = e at *
  obtain ⟨p, z, ks⟩ := e
  simp only at hbt hfo1 hfo2 htk
  have hr1 : List.map rowS out ++ [[SV.str p]] = List.map rowS (out ++ [p]) := by rw [List.map_append]; rfl
  cases hbb : belP t ⟨p, z, ks⟩ <;> rw [hbb] at hbt htk
  · rw [if_neg (by simp), List.append_nil] at htk
    have hn : ¬ (t = ⟨#[]⟩ ∨ (p.size > t.size + 1 ∧ p.extract 0 (t.size + 1) = t ++ slash)) := fun h => by simpa using hbt.2 h
    have hn1 : ¬ t = ⟨#[]⟩ := fun h => hn (.inl h)
    have hn2 : p.size > t.size + 1 → p.extract 0 (t.size + 1) = t ++ (⟨#[47]⟩ : ByteArray) → False := fun h1 h2 => hn (.inr ⟨h1, h2⟩)
    clear hbt hn
    by_cases hpt : p = t
    · have hfn := hfo1 hpt
      repeat' first | refine wr (by omega) ?_ | refine ln ?_ | refine stp lay_ok rfl ?_ | refine fin ?_ | refine n_thn ?_ | refine n_blk ?_ | refine e_thn ?_ | refine e_hit ?_ | refine e_miss rfl ?_ | refine r_thn ?_ | refine r_blk ?_ | refine e_rr ?_ | refine r_rr ?_ | refine e_cr ?_ | refine r_cr ?_ | refine .seq ?_ | refine reg ?_ | refine .block ?_ | refine .skip ?_ | refine .ret ?_ | refine .exit ?_ | refine cndT rfl ?_ | refine cndF rfl ?_ | refine c_dec rfl (fun hc => ?_) (fun hc => ?_) | refine c_ndec rfl (fun hc => ?_) (fun hc => ?_) | refine cnd rfl (fun hc => ?_) (fun hc => ?_) | ((first | refine o_none rfl ?_ | refine o_none_ ?_ | refine o_yes rfl rfl rfl ?_ | refine o_yes_ rfl rfl ?_); first | refine st_index (rowE ⟨p, z, ks⟩) lay_ok rfl rfl rfl rfl (by omega) hat ?_ | refine st_subS 0 (t.size + 1) lay_ok rfl rfl rfl rfl ⟨_, _, rfl, by omega⟩ (Nat.zero_le _) (by omega) ?_ | refine st_cat rfl rfl hcat ?_) | refine gd rfl rfl rfl (fun hg => ?_) (fun hg => ?_) | refine gn rfl rfl rfl (fun hg => ?_) (fun hg => ?_) | refine dwr (by omega) ?_ | refine dwl ?_ | refine dws lay_ok rfl rfl rfl rfl rfl rfl rfl ?_ | refine dwu lay_ok rfl rfl rfl rfl rfl rfl rfl rfl rfl ?_ | refine dw_end ?_ | refine dw_skip rfl rfl rfl ?_ | refine dwn lay_ok rfl rfl rfl rfl rfl ?_ | refine dwb rfl rfl rfl rfl rfl (by (first | refine st_index (rowE ⟨p, z, ks⟩) lay_ok rfl rfl rfl rfl (by omega) hat ?_ | refine st_subS 0 (t.size + 1) lay_ok rfl rfl rfl rfl ⟨_, _, rfl, by omega⟩ (Nat.zero_le _) (by omega) ?_ | refine st_cat rfl rfl hcat ?_); exact fin rfl) rfl rfl ?_ | refine dwg rfl rfl rfl rfl rfl (by (first | refine st_index (rowE ⟨p, z, ks⟩) lay_ok rfl rfl rfl rfl (by omega) hat ?_ | refine st_subS 0 (t.size + 1) lay_ok rfl rfl rfl rfl ⟨_, _, rfl, by omega⟩ (Nat.zero_le _) (by omega) ?_ | refine st_cat rfl rfl hcat ?_); exact fin rfl) rfl rfl rfl rfl rfl ?_ | refine dw_dec rfl rfl rfl (fun hg => ?_) (fun hg => ?_) | refine dw_ndec rfl rfl rfl (fun hg => ?_) (fun hg => ?_)
      all_goals first
        | (exfalso; omega)
        | (exfalso; contradiction)
        | (exfalso; simp only at *; first | omega | contradiction | exact hn2 (by omega) (by assumption))
        | skip
      all_goals
        refine n_rr ((k + 1, (k : Int), out)) ?_ (.of [3] (by (repeat' first | exact trivial | refine And.intro ?_ ?_ | rfl | exact congrArg (fun z : Int => some (AV.st (.int .i64 z))) (show (k : Int) + 1 = ((k + 1 : Nat) : Int) by omega)); first | done | fail) (by (repeat' first | exact trivial | refine And.intro ?_ ?_ | rfl | exact congrArg (fun z : Int => some (AV.st (.int .i64 z))) (show (k : Int) + 1 = ((k + 1 : Nat) : Int) by omega)); first | done | fail) rfl) ?_
        · show l.length - (k + 1) < l.length - k; omega
        · exact ⟨hk, htk.symm, by omega, hfn⟩
    · have hfn := hfo2 hpt
      repeat' first | refine wr (by omega) ?_ | refine ln ?_ | refine stp lay_ok rfl ?_ | refine fin ?_ | refine n_thn ?_ | refine n_blk ?_ | refine e_thn ?_ | refine e_hit ?_ | refine e_miss rfl ?_ | refine r_thn ?_ | refine r_blk ?_ | refine e_rr ?_ | refine r_rr ?_ | refine e_cr ?_ | refine r_cr ?_ | refine .seq ?_ | refine reg ?_ | refine .block ?_ | refine .skip ?_ | refine .ret ?_ | refine .exit ?_ | refine cndT rfl ?_ | refine cndF rfl ?_ | refine c_dec rfl (fun hc => ?_) (fun hc => ?_) | refine c_ndec rfl (fun hc => ?_) (fun hc => ?_) | refine cnd rfl (fun hc => ?_) (fun hc => ?_) | ((first | refine o_none rfl ?_ | refine o_none_ ?_ | refine o_yes rfl rfl rfl ?_ | refine o_yes_ rfl rfl ?_); first | refine st_index (rowE ⟨p, z, ks⟩) lay_ok rfl rfl rfl rfl (by omega) hat ?_ | refine st_subS 0 (t.size + 1) lay_ok rfl rfl rfl rfl ⟨_, _, rfl, by omega⟩ (Nat.zero_le _) (by omega) ?_ | refine st_cat rfl rfl hcat ?_) | refine gd rfl rfl rfl (fun hg => ?_) (fun hg => ?_) | refine gn rfl rfl rfl (fun hg => ?_) (fun hg => ?_) | refine dwr (by omega) ?_ | refine dwl ?_ | refine dws lay_ok rfl rfl rfl rfl rfl rfl rfl ?_ | refine dwu lay_ok rfl rfl rfl rfl rfl rfl rfl rfl rfl ?_ | refine dw_end ?_ | refine dw_skip rfl rfl rfl ?_ | refine dwn lay_ok rfl rfl rfl rfl rfl ?_ | refine dwb rfl rfl rfl rfl rfl (by (first | refine st_index (rowE ⟨p, z, ks⟩) lay_ok rfl rfl rfl rfl (by omega) hat ?_ | refine st_subS 0 (t.size + 1) lay_ok rfl rfl rfl rfl ⟨_, _, rfl, by omega⟩ (Nat.zero_le _) (by omega) ?_ | refine st_cat rfl rfl hcat ?_); exact fin rfl) rfl rfl ?_ | refine dwg rfl rfl rfl rfl rfl (by (first | refine st_index (rowE ⟨p, z, ks⟩) lay_ok rfl rfl rfl rfl (by omega) hat ?_ | refine st_subS 0 (t.size + 1) lay_ok rfl rfl rfl rfl ⟨_, _, rfl, by omega⟩ (Nat.zero_le _) (by omega) ?_ | refine st_cat rfl rfl hcat ?_); exact fin rfl) rfl rfl rfl rfl rfl ?_ | refine dw_dec rfl rfl rfl (fun hg => ?_) (fun hg => ?_) | refine dw_ndec rfl rfl rfl (fun hg => ?_) (fun hg => ?_)
      all_goals first
        | (exfalso; omega)
        | (exfalso; contradiction)
        | (exfalso; simp only at *; first | omega | contradiction | exact hn2 (by omega) (by assumption))
        | skip
      all_goals
        refine n_rr ((k + 1, fo, out)) ?_ (.of [3] (by (repeat' first | exact trivial | refine And.intro ?_ ?_ | rfl | exact congrArg (fun z : Int => some (AV.st (.int .i64 z))) (show (k : Int) + 1 = ((k + 1 : Nat) : Int) by omega)); first | done | fail) (by (repeat' first | exact trivial | refine And.intro ?_ ?_ | rfl | exact congrArg (fun z : Int => some (AV.st (.int .i64 z))) (show (k : Int) + 1 = ((k + 1 : Nat) : Int) by omega)); first | done | fail) rfl) ?_
        · show l.length - (k + 1) < l.length - k; omega
        · exact ⟨hk, htk.symm, by omega, hfn⟩
  · rw [if_pos rfl] at htk
    have hn := hbt.1 rfl
    clear hbt
    have hn1 : ¬ t = ⟨#[]⟩ → ¬ p.size > t.size + 1 → False := fun h1 h2 => by rcases hn with h | h; exact h1 h; exact h2 h.1
    have hn2 : ¬ t = ⟨#[]⟩ → ¬ p.extract 0 (t.size + 1) = t ++ (⟨#[47]⟩ : ByteArray) → False := fun h1 h2 => by rcases hn with h | h; exact h1 h; exact h2 h.2
    clear hn
    by_cases hpt : p = t
    · have hfn := hfo1 hpt
      repeat' first | refine wr (by omega) ?_ | refine ln ?_ | refine stp lay_ok rfl ?_ | refine fin ?_ | refine n_thn ?_ | refine n_blk ?_ | refine e_thn ?_ | refine e_hit ?_ | refine e_miss rfl ?_ | refine r_thn ?_ | refine r_blk ?_ | refine e_rr ?_ | refine r_rr ?_ | refine e_cr ?_ | refine r_cr ?_ | refine .seq ?_ | refine reg ?_ | refine .block ?_ | refine .skip ?_ | refine .ret ?_ | refine .exit ?_ | refine cndT rfl ?_ | refine cndF rfl ?_ | refine c_dec rfl (fun hc => ?_) (fun hc => ?_) | refine c_ndec rfl (fun hc => ?_) (fun hc => ?_) | refine cnd rfl (fun hc => ?_) (fun hc => ?_) | ((first | refine o_none rfl ?_ | refine o_none_ ?_ | refine o_yes rfl rfl rfl ?_ | refine o_yes_ rfl rfl ?_); first | refine st_index (rowE ⟨p, z, ks⟩) lay_ok rfl rfl rfl rfl (by omega) hat ?_ | refine st_subS 0 (t.size + 1) lay_ok rfl rfl rfl rfl ⟨_, _, rfl, by omega⟩ (Nat.zero_le _) (by omega) ?_ | refine st_cat rfl rfl hcat ?_ | refine st_append lay_ok rfl rfl rfl rfl rfl rfl rfl rfl (.lsl rfl rfl) .sl rfl (rowS_one (b := [p])) (by simp only [List.length_cons, List.length_nil]; omega) (by simp only [List.length_cons, List.length_nil]; omega) ?_) | refine gd rfl rfl rfl (fun hg => ?_) (fun hg => ?_) | refine gn rfl rfl rfl (fun hg => ?_) (fun hg => ?_) | refine dwr (by omega) ?_ | refine dwl ?_ | refine dws lay_ok rfl rfl rfl rfl rfl rfl rfl ?_ | refine dwu lay_ok rfl rfl rfl rfl rfl rfl rfl rfl rfl ?_ | refine dw_end ?_ | refine dw_skip rfl rfl rfl ?_ | refine dwn lay_ok rfl rfl rfl rfl rfl ?_ | refine dwb rfl rfl rfl rfl rfl (by (first | refine st_index (rowE ⟨p, z, ks⟩) lay_ok rfl rfl rfl rfl (by omega) hat ?_ | refine st_subS 0 (t.size + 1) lay_ok rfl rfl rfl rfl ⟨_, _, rfl, by omega⟩ (Nat.zero_le _) (by omega) ?_ | refine st_cat rfl rfl hcat ?_ | refine st_append lay_ok rfl rfl rfl rfl rfl rfl rfl rfl (.lsl rfl rfl) .sl rfl (rowS_one (b := [p])) (by simp only [List.length_cons, List.length_nil]; omega) (by simp only [List.length_cons, List.length_nil]; omega) ?_); exact fin rfl) rfl rfl ?_ | refine dwg rfl rfl rfl rfl rfl (by (first | refine st_index (rowE ⟨p, z, ks⟩) lay_ok rfl rfl rfl rfl (by omega) hat ?_ | refine st_subS 0 (t.size + 1) lay_ok rfl rfl rfl rfl ⟨_, _, rfl, by omega⟩ (Nat.zero_le _) (by omega) ?_ | refine st_cat rfl rfl hcat ?_ | refine st_append lay_ok rfl rfl rfl rfl rfl rfl rfl rfl (.lsl rfl rfl) .sl rfl (rowS_one (b := [p])) (by simp only [List.length_cons, List.length_nil]; omega) (by simp only [List.length_cons, List.length_nil]; omega) ?_); exact fin rfl) rfl rfl rfl rfl rfl ?_ | refine dw_dec rfl rfl rfl (fun hg => ?_) (fun hg => ?_) | refine dw_ndec rfl rfl rfl (fun hg => ?_) (fun hg => ?_)
      all_goals first
        | (exfalso; omega)
        | (exfalso; contradiction)
        | (exfalso; simp only at *; first | omega | contradiction | exact hn1 (by assumption) (by omega) | exact hn2 (by assumption) (by assumption))
        | skip
      all_goals
        rw [hr1]
        refine n_rr ((k + 1, (k : Int), out ++ [p])) ?_ (.of [4] (by (repeat' first | exact trivial | refine And.intro ?_ ?_ | rfl | exact congrArg (fun z : Int => some (AV.st (.int .i64 z))) (show (k : Int) + 1 = ((k + 1 : Nat) : Int) by omega)); first | done | fail) (by (repeat' first | exact trivial | refine And.intro ?_ ?_ | rfl | exact congrArg (fun z : Int => some (AV.st (.int .i64 z))) (show (k : Int) + 1 = ((k + 1 : Nat) : Int) by omega)); first | done | fail) rfl) ?_
        · show l.length - (k + 1) < l.length - k; omega
        · exact ⟨hk, htk.symm, by simp; omega, hfn⟩
    · have hfn := hfo2 hpt
      repeat' first | refine wr (by omega) ?_ | refine ln ?_ | refine stp lay_ok rfl ?_ | refine fin ?_ | refine n_thn ?_ | refine n_blk ?_ | refine e_thn ?_ | refine e_hit ?_ | refine e_miss rfl ?_ | refine r_thn ?_ | refine r_blk ?_ | refine e_rr ?_ | refine r_rr ?_ | refine e_cr ?_ | refine r_cr ?_ | refine .seq ?_ | refine reg ?_ | refine .block ?_ | refine .skip ?_ | refine .ret ?_ | refine .exit ?_ | refine cndT rfl ?_ | refine cndF rfl ?_ | refine c_dec rfl (fun hc => ?_) (fun hc => ?_) | refine c_ndec rfl (fun hc => ?_) (fun hc => ?_) | refine cnd rfl (fun hc => ?_) (fun hc => ?_) | ((first | refine o_none rfl ?_ | refine o_none_ ?_ | refine o_yes rfl rfl rfl ?_ | refine o_yes_ rfl rfl ?_); first | refine st_index (rowE ⟨p, z, ks⟩) lay_ok rfl rfl rfl rfl (by omega) hat ?_ | refine st_subS 0 (t.size + 1) lay_ok rfl rfl rfl rfl ⟨_, _, rfl, by omega⟩ (Nat.zero_le _) (by omega) ?_ | refine st_cat rfl rfl hcat ?_ | refine st_append lay_ok rfl rfl rfl rfl rfl rfl rfl rfl (.lsl rfl rfl) .sl rfl (rowS_one (b := [p])) (by simp only [List.length_cons, List.length_nil]; omega) (by simp only [List.length_cons, List.length_nil]; omega) ?_) | refine gd rfl rfl rfl (fun hg => ?_) (fun hg => ?_) | refine gn rfl rfl rfl (fun hg => ?_) (fun hg => ?_) | refine dwr (by omega) ?_ | refine dwl ?_ | refine dws lay_ok rfl rfl rfl rfl rfl rfl rfl ?_ | refine dwu lay_ok rfl rfl rfl rfl rfl rfl rfl rfl rfl ?_ | refine dw_end ?_ | refine dw_skip rfl rfl rfl ?_ | refine dwn lay_ok rfl rfl rfl rfl rfl ?_ | refine dwb rfl rfl rfl rfl rfl (by (first | refine st_index (rowE ⟨p, z, ks⟩) lay_ok rfl rfl rfl rfl (by omega) hat ?_ | refine st_subS 0 (t.size + 1) lay_ok rfl rfl rfl rfl ⟨_, _, rfl, by omega⟩ (Nat.zero_le _) (by omega) ?_ | refine st_cat rfl rfl hcat ?_ | refine st_append lay_ok rfl rfl rfl rfl rfl rfl rfl rfl (.lsl rfl rfl) .sl rfl (rowS_one (b := [p])) (by simp only [List.length_cons, List.length_nil]; omega) (by simp only [List.length_cons, List.length_nil]; omega) ?_); exact fin rfl) rfl rfl ?_ | refine dwg rfl rfl rfl rfl rfl (by (first | refine st_index (rowE ⟨p, z, ks⟩) lay_ok rfl rfl rfl rfl (by omega) hat ?_ | refine st_subS 0 (t.size + 1) lay_ok rfl rfl rfl rfl ⟨_, _, rfl, by omega⟩ (Nat.zero_le _) (by omega) ?_ | refine st_cat rfl rfl hcat ?_ | refine st_append lay_ok rfl rfl rfl rfl rfl rfl rfl rfl (.lsl rfl rfl) .sl rfl (rowS_one (b := [p])) (by simp only [List.length_cons, List.length_nil]; omega) (by simp only [List.length_cons, List.length_nil]; omega) ?_); exact fin rfl) rfl rfl rfl rfl rfl ?_ | refine dw_dec rfl rfl rfl (fun hg => ?_) (fun hg => ?_) | refine dw_ndec rfl rfl rfl (fun hg => ?_) (fun hg => ?_)
      all_goals first
        | (exfalso; omega)
        | (exfalso; contradiction)
        | (exfalso; simp only at *; first | omega | contradiction | exact hn1 (by assumption) (by omega) | exact hn2 (by assumption) (by assumption))
        | skip
      all_goals
        rw [hr1]
        refine n_rr ((k + 1, fo, out ++ [p])) ?_ (.of [4] (by (repeat' first | exact trivial | refine And.intro ?_ ?_ | rfl | exact congrArg (fun z : Int => some (AV.st (.int .i64 z))) (show (k : Int) + 1 = ((k + 1 : Nat) : Int) by omega)); first | done | fail) (by (repeat' first | exact trivial | refine And.intro ?_ ?_ | rfl | exact congrArg (fun z : Int => some (AV.st (.int .i64 z))) (show (k : Int) + 1 = ((k + 1 : Nat) : Int) by omega)); first | done | fail) rfl) ?_
        · show l.length - (k + 1) < l.length - k; omega
        · exact ⟨hk, htk.symm, by simp; omega, hfn⟩
theorem badFrom_nat (l : List EV) : ∀ f i {k : Nat} {n : Int}, badFrom l f i = some (k, n) → n = 2 ∨ n = 4 ∨ n = 1
  | 0, i, k, n, h => by simp [badFrom] at h
  | f + 1, i, k, n, h => by
    simp only [badFrom] at h
    split at h
    · cases h
    · split at h
      · rename_i e he hx
        cases h
        unfold entryC at hx
        have key : ∀ (P X W : Bool) (m : Int), (if P = true then (if X = true then some (4 : Int) else if W = true then none else some 1) else some 2) = some m → m = 2 ∨ m = 4 ∨ m = 1 := by
          intro P X W m h; cases P <;> cases X <;> cases W <;> simp at h <;> omega
        exact key _ _ _ _ hx
      · exact badFrom_nat l f (i + 1) h
theorem lawChecks_ok (o' : Obj) (hO : LaidE o') (l : List EV) (t : ByteArray) (ht : t.size ≤ 140737488351232) :
    ACalls prog 4 1 [.st (.sl 3 (l.map rowE)), Sx t] [(0, .fact 0 o')] fun r h => r = B true ∧ h = [(0, .fact 0 o')] := by
  have hu := up_ok o' hO
  have hs := short4_ok l
  by_cases hno : shortE l = false ∨ 2000 < t.size
  · exact checks_long o' l t hu hs hno ht
  have hse : shortE l = true := by
    cases h : shortE l with
    | true => rfl
    | false => exact absurd (.inl h) hno
  have ht2 : t.size ≤ 2000 := by
    rcases Nat.lt_or_ge 2000 t.size with h | h
    · exact absurd (.inr h) hno
    · exact h
  rw [hse] at hs
  obtain ⟨h100, hall⟩ := short_bounds hse
  have hl : l.length ≤ 4000000000 := by omega
  have hp : ∀ e ∈ l, e.path.size ≤ 4000000000 - 1 := fun e he => by have := hall e he; omega
  have hk : ∀ e ∈ l, e.keys.length ≤ 4000000000 := fun e he => by have := hall e he; omega
  have h1 := treeCheck_ok l hl hp hk
  have h2 := find_ok l t hl hp hk
  have h3 := below_ok l t hl hp hk (by omega)
  have h4 := refCheck_ok l hl hp hk
  unfold treeC at h1
  unfold belR at h3
  unfold checkP at h4
  by_cases h32 : 32 < l.length
  · unfold findR at h2
    rw [if_pos h32] at h1 h2 h3 h4
    exact checks_big o' l t hu hs ht2 h1 h2 h3 h4
  rw [if_neg h32] at h1 h3 h4
  cases hb : badFrom l l.length 0 with
  | some x =>
    obtain ⟨i, n⟩ := x
    unfold findR at h2
    rw [if_neg h32] at h2
    rw [hb] at h1 h2 h3 h4
    simp only at h1 h2 h3 h4
    have hn := badFrom_nat l _ _ hb
    obtain ⟨m, rfl⟩ : ∃ m : Nat, n = m := ⟨n.toNat, by omega⟩
    exact checks_bad o' l t i m (by omega) hu hs ht2 h1 h2 h3 h4 (toldSpot_ok o' hO i m)
  | none =>
    rw [hb] at h1 h3 h4
    simp only at h1 h3 h4
    have hpo := tree_path hb
    by_cases hex : ∃ j, ∃ h : j < l.length, l[j].path = t
    · obtain ⟨j, hj, hjt⟩ := hex
      subst hjt
      rw [findR_hit h32 hb j hj] at h2
      exact checks_hit o' l _ j hj rfl (fun i hi he => by
        have e1 := find_at hb i hi
        rw [he, find_at hb j hj] at e1
        exact e1.symm) hu hs ht2 (by omega) hk hpo h1 h2 h3 h4
    · have hno : ∀ i (h : i < l.length), l[i].path ≠ t := fun i h he => hex ⟨i, h, he⟩
      rw [findR_miss h32 hb (fun e he => by obtain ⟨i, hi, rfl⟩ := List.getElem_of_mem he; exact hno i hi)] at h2
      exact checks_miss o' l t hno hu hs ht2 (by omega) hk hpo h1 h2 h3 h4
end Go.Proofs.YtmekcbbieacioaaGreatDoorFn
namespace Go.Proofs.YtmekcbbieacioaaGreatDoor
open Go.Proofs.YtmekcbbieacioaaGreatDoorAl Go.ChangeAt Go.RowKit
open Go.Proofs.YtmekcbbieacioaaGreatDoorFn
theorem own : ownKnob Tryz.prog.godebug = none := by kernel_rfl
theorem laidOut : laidOutB Tryz.prog = true := by kernel_rfl
def pars : List Par := [⟨27, false, ΦL 3 48 ΦE⟩, ⟨9, false, ΦS⟩]
theorem pars_ok : ParsOk Tryz.prog pars :=
  ⟨rdLE, ⟨_, Tryz.underlying27, rfl⟩, by kernel_rfl, of_decide_eq_true (by kernel_rfl),
   rdS, ⟨_, Tryz.underlying9, rfl⟩, by kernel_rfl, of_decide_eq_true (by kernel_rfl), trivial⟩
theorem law_ok : LawOkF Tryz.prog 4 pars LaidE := by
  rintro svs ⟨_, _, rfl, ⟨r0, h0, hr0, hl0⟩, _, _, rfl, ⟨x1, h1, hm1⟩, rfl⟩ o hO
  cases h0
  obtain ⟨x0, rfl, hm0⟩ := rows_map (f := rowE) (Ok := EV.inMem) (fun row hm => ofE (hr0 row hm))
  simp only [List.length_map] at hl0
  cases h1
  have hreach : reachBytes ≤ 140737488351232 := by decide
  exact lawChecks_ok o hO x0 x1 (by omega)
theorem hE (W : World) (h : laidMetH Tryz.prog Rows.treeChecksRow.laid W) : ∃ o, W.heap[0]? = some o ∧ LaidE o := by
  have h' : laidMet Tryz.prog [("unicode/utf8.acceptRanges", Rows.laid_unicode_utf8_acceptRanges), ("unicode/utf8.first", Rows.laid_unicode_utf8_first)] W ∧ handlesMet Tryz.prog [("errors.errorType", Rows.laid_errors_errorType)] W := h
  obtain ⟨name, u, ty, e1, e2, e3, e4, e5⟩ := h'.2 _ (List.mem_singleton.2 rfl)
  have en : name = [101, 114, 114, 111, 114] := (Option.some.inj e1).symm
  subst en
  obtain rfl := Option.some.inj ((show (Tryz.prog.cutTypes.find? (·.1 == "internal/reflectlite.rtype")).map (·.2) = some 139 by kernel_rfl).symm.trans e2)
  have hm : ty ∈ (List.range Tryz.prog.types.size).filter fun t => Tryz.prog.rowNamed t [101, 114, 114, 111, 114] := List.mem_filter.2 ⟨List.mem_range.2 e3, e4⟩
  rw [show ((List.range Tryz.prog.types.size).filter fun t => Tryz.prog.rowNamed t [101, 114, 114, 111, 114]) = [29] by kernel_rfl] at hm
  obtain rfl := List.mem_singleton.1 hm
  rw [show typeHandle Tryz.prog 29 = .pointer (some ⟨4, 29, none⟩) by kernel_rfl] at e5
  have hc := World.var?_cell (show Tryz.prog.globalNamed "errors.errorType" = some 0 by kernel_rfl) e5 0
  unfold World.cell? at hc
  split at hc
  · rename_i c T fr ho
    exact ⟨_, ho, c, T, fr, rfl, by simpa using hc⟩
  · cases hc
def plain : List (String × DataW Unit) := [("unicode/utf8.acceptRanges", Rows.laid_unicode_utf8_acceptRanges), ("unicode/utf8.first", Rows.laid_unicode_utf8_first)]
noncomputable def w0 (os : Os) : World := { World.holding Tryz.prog os ⟨#[], #[], []⟩ with heap := (World.holding Tryz.prog os ⟨#[], #[], []⟩).heap.modify 0 fun
  | .cells _ t fr => .cells #[.iface 139 (.agg #[.pointer (some ⟨4, 29, none⟩)])] t fr
  | o => o }
noncomputable def w1 (os : Os) : World := (w0 os).layVars Tryz.prog plain
theorem plain_met (os : Os) : laidMet Tryz.prog plain (w1 os) := by
  have e1 : (plain.filter fun x => (plain.map (·.1)).contains x.1) = plain := List.filter_eq_self.2 fun x hx => List.contains_iff_mem.2 (List.mem_map.2 ⟨x, hx, rfl⟩)
  have e2 : (plain.filter fun x => !(plain.map (·.1)).contains x.1) = [] := List.filter_eq_nil_iff.2 fun x hx => by rw [List.contains_iff_mem.2 (List.mem_map.2 ⟨x, hx, rfl⟩)]; simp
  exact laidMet_layVars (w0 := w0 os) (plain.map (·.1)) [] (by rw [e1]; rfl) (by rw [e1]; kernel_rfl) (by rw [e1]; kernel_rfl) (by rw [e2]; exact LaidIn.none)
theorem door_met (os : Os) (args : Array Value) : laidMetH Tryz.prog Rows.treeChecksRow.laid ((w1 os).forCall (fun _ _ => 0) ⟨#[], args, []⟩).memory :=
  laidMetH_of_parts (show laidMet Tryz.prog plain _ from (plain_met os).of_heap (by simp [World.memory, World.forCall, Input.heap])) (by kernel_rfl)
set_option maxRecDepth 100000 in
theorem law_lift (os : Os) (started : os.Started) (H : Type) (enc : TypeId × Value → H) :
    ReturnsInHanded {} Tryz.checked os 4 .any (fun w args => (Rows.treeChecksSpec.pre enc Tryz.prog Tryz.f4 [] false w args ∧ laidMetH Tryz.prog Rows.treeChecksRow.laid w) ∧ sizedMet enc Tryz.prog Tryz.f4 (OpenSpec.ofChange Rows.treeChecksSpec) false w args) (Rows.treeChecksSpec.post enc Tryz.prog Tryz.f4 false true false false) :=
  law_liftedF (C := Tryz.checked) (ps := pars) own started (by kernel_rfl) Tryz.func4
    (ChangeSpec.witness_shaped (enc := enc) (C := Tryz.checked) (os := os) (X := fun w _ => laidMetH Tryz.prog Rows.treeChecksRow.laid w) false (w1 os) #[.slice none 0 0, .string ByteArray.empty] 8 (World.layVars_os _ _ _)
      (World.shaped_of_ZipB (by kernel_rfl) (by kernel_rfl)) (by kernel_rfl) (by kernel_rfl) (by kernel_rfl) (door_met os _))
    laidOut rfl rfl Tryz.underlying4 rfl
    (fun ds hds => by
      match ds, hds with
      | [_, _], _ => rfl) pars_ok LaidE hE law_ok
theorem law_over : Rows.treeChecksRow.holds Tryz.pinned (OpenSpec.ofChange Rows.treeChecksSpec) :=
  OpenClaim.holds_of_wide 4 Tryz.f4 rfl rfl rfl rfl rfl rfl rfl ⟨rfl, rfl, rfl, rfl, rfl⟩ rfl rfl rfl rfl rfl (by kernel_rfl) Tryz.func4 (by kernel_rfl)
    (of_decide_eq_true (by kernel_rfl)) (by unfold Func.isWrapper; first | (rw [if_pos (by decide +kernel)]; kernel_rfl) | (rw [if_neg (by decide +kernel)]; exact ⟨rfl, rfl⟩))
    (fun os started H enc _ => law_lift os started H enc)
theorem TreeChecks_holds : Rows.TreeChecksCardSaid :=
  Claim7.holds_tied_plain_at .later [] [.data, .handle, .pinned] true Rows.treeChecksCard.stood.harness Rows.treeChecksCard.stood.looks law_over (fun _ h => by cases h) (by kernel_rfl) (fun _ h => by cases h) treeChecks_row_tie rfl ⟨rfl, rfl⟩ (by kernel_rfl) rfl
    (fun f fn hf hfn => by
      obtain rfl : f = 4 := Option.some.inj ((show Tryz.prog.funcNamed "becket/becketlaw04.TreeChecks" = some 4 by kernel_rfl).symm.trans hf) |>.symm
      obtain rfl : fn = Tryz.f4 := (Option.some.inj (Tryz.func4.symm.trans hfn)).symm
      exact ⟨by kernel_rfl, fun j t ht => by
        have hm : t ∈ ([27, 9] : List Nat) := by
          have e := Array.mem_of_getElem? ht
          rw [Tryz.params4] at e
          simpa using e
        have hall : (([27, 9] : List Nat).all fun u => !Tryz.prog.wantsStandIn u) = true := by kernel_rfl
        exact (show Tryz.prog.wantsStandIn t = false by simpa using List.all_eq_true.1 hall t hm)⟩)
    (by kernel_rfl)
#print axioms TreeChecks_holds
end Go.Proofs.YtmekcbbieacioaaGreatDoor
