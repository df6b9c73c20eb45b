/- The law TreeBelow: for every input it says true: what is below a path is below all of it, in the same order. No condition. -/
import Derived.Test.YtmekcbbieacioaaGreatDoorP3
import Derived.Test.YtmekcbbieacioaaGreatDoorAlZo
import Derived.Test.YtmekcbbieacioaaGreatDoorAlZn
import Derived.KernelRfl
import Derived.Test.YtmekcbbieacioaaGreatDoorRows
import Derived.Test.YtmekcbbieacioaaGreatDoorTie
import Derived.Test.YtmekcbbieacioaaGreatDoorCards
import Derived.Lay
import Derived.LaidMore
import Derived.LaidHandle
import Derived.LaidOnce
import Derived.FnData
import Derived.Test.YtmekcbbieacioaaGreatDoorAlZr
set_option linter.all false
namespace Go.Proofs.YtmekcbbieacioaaGreatDoorFn
open Go.Proofs.YtmekcbbieacioaaGreatDoorAl Go.Proofs.Tryz
attribute [local irreducible] IntKind.wrap CodeOk OpsL OpG ACalls thn inBlk rndR cutR WkR Wk fnR DW ExtOk partsOf
theorem b43 : HasBody prog 43 := ⟨f43, func43, Option.some_ne_none _, by decide⟩
theorem rowS_one {b : List ByteArray} : ∀ row ∈ b.map rowS, ∀ y ∈ row, SV.one y = true := by
  intro row hr y hy
  obtain ⟨_, _, rfl⟩ := List.mem_map.1 hr
  simp only [rowS, List.mem_singleton] at hy; subst hy; rfl
theorem rowE_one {b : List EV} : ∀ row ∈ b.map rowE, ∀ y ∈ row, SV.one y = true := by
  intro row hr y hy
  obtain ⟨_, _, rfl⟩ := List.mem_map.1 hr
  simp only [rowE, List.mem_cons, List.not_mem_nil, or_false] at hy
  rcases hy with rfl | rfl | rfl <;> rfl
theorem cloneS_ok (b : List ByteArray) (hb : b.length ≤ 4000000000) : ACalls prog 43 0 [.st (.sl 1 (b.map rowS))] [] fun r h => r = .st (.sl 1 (b.map rowS)) ∧ h = [] := by
  refine fnC lay_ok func43 rfl rfl rfl rfl rfl ?_
  have hm : (List.map rowS b).length = b.length := List.length_map _
  repeat' first | refine wr (by omega) ?_ | refine ln ?_ | refine stp lay_ok rfl ?_ | refine fin ?_ | refine n_thn ?_ | refine n_blk ?_ | refine e_thn ?_ | refine e_hit ?_ | refine e_miss rfl ?_ | refine r_thn ?_ | refine r_blk ?_ | refine e_rr ?_ | refine r_rr ?_ | refine e_cr ?_ | refine r_cr ?_ | refine .seq ?_ | refine reg ?_ | refine .block ?_ | refine .skip ?_ | refine .ret ?_ | refine .exit ?_ | refine cndT rfl ?_ | refine cndF rfl ?_ | refine c_dec rfl (fun hc => ?_) (fun hc => ?_) | refine c_ndec rfl (fun hc => ?_) (fun hc => ?_) | refine cnd rfl (fun hc => ?_) (fun hc => ?_) | ((first | refine o_none rfl ?_ | refine o_none_ ?_ | refine o_yes rfl rfl rfl ?_ | refine o_yes_ rfl rfl ?_); first | refine st_nilSl lay_ok rfl rfl rfl rfl (fun z hz => ?_) | refine st_append lay_ok rfl rfl rfl rfl rfl rfl rfl rfl .sl0 .sl rfl rowS_one (by simp only [List.length_nil]; omega) (by simp only [List.length_nil]; omega) ?_) | refine gd rfl rfl rfl (fun hg => ?_) (fun hg => ?_) | refine gn rfl rfl rfl (fun hg => ?_) (fun hg => ?_)
  · cases z with
    | false => cases hc
    | true =>
      rw [hz rfl]
      refine f_end (n0 := 0) (t'' := [(2, .st (.sl 1 []))]) (h'' := []) (Wk.then (Wk.trans (Wk.nilT 1 2 rfl rfl) (Wk.frz 0 [2] rfl rfl rfl (by (repeat' first | exact trivial | refine And.intro ?_ ?_ | rfl); first | done | fail) (by (repeat' first | exact trivial | refine And.intro ?_ ?_ | rfl); first | done | fail) rfl rfl)) (WkR.of [] (by (repeat' first | exact trivial | refine And.intro ?_ ?_ | rfl); first | done | fail) (by (repeat' first | exact trivial | refine And.intro ?_ ?_ | rfl); first | done | fail) rfl)) rfl rfl ⟨?_, rfl⟩
      rfl
  · refine f_end (n0 := 0) (t'' := [(2, .st (.sl 1 (b.map rowS)))]) (h'' := []) (Wk.then (Wk.frz 0 [2] rfl rfl rfl (by (repeat' first | exact trivial | refine And.intro ?_ ?_ | rfl); first | done | fail) (by (repeat' first | exact trivial | refine And.intro ?_ ?_ | rfl); first | done | fail) rfl rfl) (WkR.of [] (by (repeat' first | exact trivial | refine And.intro ?_ ?_ | rfl); first | done | fail) (by (repeat' first | exact trivial | refine And.intro ?_ ?_ | rfl); first | done | fail) rfl)) rfl rfl ⟨?_, rfl⟩
    rfl
theorem set_same {α : Type} {l : List α} {i : Nat} {x : α} (h : l[i]? = some x) : l.set i x = l := by
  apply List.ext_getElem?
  intro j
  rw [List.getElem?_set]
  split
  · rename_i e; subst e; rw [h]; split
    · rfl
    · rename_i h2; rw [List.getElem?_eq_none (by omega)] at h; cases h
  · rfl
end Go.Proofs.YtmekcbbieacioaaGreatDoorFn
namespace Go.Proofs.YtmekcbbieacioaaGreatDoorFn
open Go.Proofs.YtmekcbbieacioaaGreatDoorAl Go.Proofs.Tryz
attribute [local irreducible] IntKind.wrap CodeOk OpsL OpG ACalls thn inBlk rndR cutR WkR Wk fnR DW ExtOk partsOf
theorem b41 : HasBody prog 41 := ⟨f41, func41, Option.some_ne_none _, by decide⟩
theorem b42 : HasBody prog 42 := ⟨f42, func42, Option.some_ne_none _, by decide⟩
theorem b18 : HasBody prog 18 := ⟨f18, func18, Option.some_ne_none _, by decide⟩
theorem b19 : HasBody prog 19 := ⟨f19, func19, Option.some_ne_none _, by decide⟩
/-! ### a path's entry, and the paths under one -/
theorem find1_ok (x : EV) (t : ByteArray) : ACalls prog 42 0 [.st (.agg (rowE x)), Sx t] [] fun r h => r = I (cmS x.path t) ∧ h = [] := by
  have h1 := compare_ok x.path t
  refine fnC lay_ok func42 rfl rfl rfl rfl rfl ?_
  repeat' first | refine wr (by omega) ?_ | refine ln ?_ | refine stp lay_ok rfl ?_ | refine fin ?_ | refine n_thn ?_ | refine n_blk ?_ | refine e_thn ?_ | refine e_hit ?_ | refine e_miss rfl ?_ | refine r_thn ?_ | refine r_blk ?_ | refine e_rr ?_ | refine r_rr ?_ | refine e_cr ?_ | refine r_cr ?_ | refine .seq ?_ | refine reg ?_ | refine .block ?_ | refine .skip ?_ | refine .ret ?_ | refine .exit ?_ | refine cndT rfl ?_ | refine cndF rfl ?_ | refine c_dec rfl (fun hc => ?_) (fun hc => ?_) | refine c_ndec rfl (fun hc => ?_) (fun hc => ?_) | refine cnd rfl (fun hc => ?_) (fun hc => ?_) | ((first | refine o_none rfl ?_ | refine o_none_ ?_ | refine o_yes rfl rfl rfl ?_ | refine o_yes_ rfl rfl ?_); first | refine st_pure (h1) b34 rfl rfl rfl rfl ?_) | refine gd rfl rfl rfl (fun hg => ?_) (fun hg => ?_) | refine gn rfl rfl rfl (fun hg => ?_) (fun hg => ?_)
  refine f_r [] rfl trivial rfl ⟨?_, rfl⟩
  rfl
/-- The first entry that is not less than a path; whether it is the path's. -/
def loE (l : List EV) (t : ByteArray) : Nat := l.findIdx fun e => decide (¬ cmS e.path t < 0)
def hitE (l : List EV) (t : ByteArray) : Bool := match l[loE l t]? with
  | some e => decide (cmS e.path t = 0)
  | none => false
theorem loE_eq {l : List EV} {t : ByteArray} {i : Nat} (hi : i ≤ l.length) (h1 : ∀ q (h : q < l.length), q < i → cmS l[q].path t < 0) (h2 : ∀ q (h : q < l.length), i ≤ q → ¬ cmS l[q].path t < 0) : loE l t = i := by
  unfold loE
  by_cases hil : i < l.length
  · refine (List.findIdx_eq hil).2 ⟨by simpa using h2 i hil (Nat.le_refl _), fun j hj => ?_⟩
    have := h1 j (by omega) hj
    simpa using this
  · have hie : i = l.length := by omega
    subst hie
    refine List.findIdx_eq_length.2 fun x hx => ?_
    obtain ⟨q, hq, rfl⟩ := List.getElem_of_mem hx
    simpa using h1 q hq hq
theorem shr1 (n : Nat) : shI .shr .u64 (n : Int) 1 = some (.int .u64 ((n / 2 : Nat) : Int)) := by
  simp only [shI]
  have : Int.fdiv (n : Int) (2 ^ min (Int.toNat 1) IntKind.u64.bits) = ((n / 2 : Nat) : Int) := by
    have e : (2 ^ min (Int.toNat 1) IntKind.u64.bits : Int) = 2 := by decide
    rw [e, Int.fdiv_eq_ediv_of_nonneg _ (by decide)]
    rfl
  rw [this]
set_option maxHeartbeats 4000000 in
theorem bs_ok (l : List EV) (t : ByteArray) (hl : l.length ≤ 4000000000) (hs : ∀ i j (hi : i < j) (hj : j < l.length), cmS l[j].path t < 0 → cmS (l[i]'(by omega)).path t < 0) :
    ACalls prog 41 0 [.st (.sl 3 (l.map rowE)), Sx t, fnG 42] [] fun r h => r = .tuple [I (loE l t), B (hitE l t)] ∧ h = [] := by
  have hm : (List.map rowE l).length = l.length := List.length_map _
  refine fnC lay_ok func41 rfl rfl rfl rfl rfl ?_
  repeat' first | refine wr (by omega) ?_ | refine ln ?_ | refine stp lay_ok rfl ?_ | refine fin ?_ | refine n_thn ?_ | refine n_blk ?_ | refine e_thn ?_ | refine e_hit ?_ | refine e_miss rfl ?_ | refine r_thn ?_ | refine r_blk ?_ | refine e_rr ?_ | refine r_rr ?_ | refine e_cr ?_ | refine r_cr ?_ | refine .seq ?_ | refine reg ?_ | refine .block ?_ | refine .skip ?_ | refine .ret ?_ | refine .exit ?_ | refine cndT rfl ?_ | refine cndF rfl ?_ | refine c_dec rfl (fun hc => ?_) (fun hc => ?_) | refine c_ndec rfl (fun hc => ?_) (fun hc => ?_) | refine cnd rfl (fun hc => ?_) (fun hc => ?_) | refine gd rfl rfl rfl (fun hg => ?_) (fun hg => ?_) | refine gn rfl rfl rfl (fun hg => ?_) (fun hg => ?_)
  refine lpR (fun (i, j) => i ≤ j ∧ j ≤ l.length ∧ (∀ q (h : q < l.length), q < i → cmS l[q].path t < 0) ∧ (∀ q (h : q < l.length), j ≤ q → ¬ cmS l[q].path t < 0)) (fun (i, j) => j - i) (fun (i, j) => [(9, I i), (10, I j)]) (fun (i, j) => []) ((0, l.length)) [0, 1, 2, 8] [] [] rfl rfl rfl (.of [] (by (repeat' first | exact trivial | refine And.intro ?_ ?_ | rfl); first | done | fail) (by (repeat' first | exact trivial | refine And.intro ?_ ?_ | rfl); first | done | fail) rfl) ?_ ?_
  · exact ⟨Nat.zero_le _, Nat.le_refl _, fun q h1 h2 => by omega, fun q h1 h2 => by omega⟩
  rintro ⟨i, j⟩ ⟨g1, g2, g3, g4⟩
  refine nrm rfl rfl ?_
  by_cases hij : i < j
  case neg =>
    have hie : i = j := by omega
    subst hie
    have hlo := loE_eq g2 g3 g4
    have hhit : hitE l t = match l[i]? with
      | some e => decide (cmS e.path t = 0)
      | none => false := by rw [hitE, hlo]
    rw [hlo]
    by_cases hil : i < l.length
    · rw [List.getElem?_eq_getElem hil] at hhit
      have hat := at_rowE hil
      have hf := find1_ok l[i] t
      simp only at hhit
      generalize hitE l t = hb at *
      generalize l[i] = e at *
      repeat' first | refine wr (by omega) ?_ | refine ln ?_ | refine stp lay_ok rfl ?_ | refine fin ?_ | refine n_thn ?_ | refine n_blk ?_ | refine e_thn ?_ | refine e_hit ?_ | refine e_miss rfl ?_ | refine r_thn ?_ | refine r_blk ?_ | refine e_rr ?_ | refine r_rr ?_ | refine e_cr ?_ | refine r_cr ?_ | refine .seq ?_ | refine reg ?_ | refine .block ?_ | refine .skip ?_ | refine .ret ?_ | refine .exit ?_ | refine cndT rfl ?_ | refine cndF rfl ?_ | refine c_dec rfl (fun hc => ?_) (fun hc => ?_) | refine c_ndec rfl (fun hc => ?_) (fun hc => ?_) | refine cnd rfl (fun hc => ?_) (fun hc => ?_) | ((first | refine o_none rfl ?_ | refine o_none_ ?_ | refine o_yes rfl rfl rfl ?_ | refine o_yes_ rfl rfl ?_); first | refine st_index (rowE e) lay_ok rfl rfl rfl rfl (by omega) hat ?_ | refine st_pure (hf) b42 rfl rfl rfl rfl ?_) | refine gd rfl rfl rfl (fun hg => ?_) (fun hg => ?_) | refine gn rfl rfl rfl (fun hg => ?_) (fun hg => ?_)
      all_goals first
        | (exfalso; omega)
        | skip
      refine f_r [] rfl trivial rfl ⟨?_, rfl⟩
      rw [hhit]; rfl
    · rw [List.getElem?_eq_none (by omega)] at hhit
      simp only at hhit
      rw [hhit]
      repeat' first | refine wr (by omega) ?_ | refine ln ?_ | refine stp lay_ok rfl ?_ | refine fin ?_ | refine n_thn ?_ | refine n_blk ?_ | refine e_thn ?_ | refine e_hit ?_ | refine e_miss rfl ?_ | refine r_thn ?_ | refine r_blk ?_ | refine e_rr ?_ | refine r_rr ?_ | refine e_cr ?_ | refine r_cr ?_ | refine .seq ?_ | refine reg ?_ | refine .block ?_ | refine .skip ?_ | refine .ret ?_ | refine .exit ?_ | refine cndT rfl ?_ | refine cndF rfl ?_ | refine c_dec rfl (fun hc => ?_) (fun hc => ?_) | refine c_ndec rfl (fun hc => ?_) (fun hc => ?_) | refine cnd rfl (fun hc => ?_) (fun hc => ?_) | refine gd rfl rfl rfl (fun hg => ?_) (fun hg => ?_) | refine gn rfl rfl rfl (fun hg => ?_) (fun hg => ?_)
      all_goals first
        | (exfalso; omega)
        | skip
      refine f_r [] rfl trivial rfl ⟨?_, rfl⟩
      rfl
  generalize hmid : (i + j) / 2 = q at *
  have hil : q < l.length := by omega
  have hat := at_rowE hil
  have hf := find1_ok l[q] t
  have hsh : shI .shr .u64 (IntKind.u64.wrap ((i : Int) + (j : Int))) 1 = some (.int .u64 (q : Int)) := by
    rw [show (i : Int) + (j : Int) = ((i + j : Nat) : Int) by omega, uwrap _ (by omega), shr1, hmid]
  have hlow : cmS l[q].path t < 0 → ∀ r (h : r < l.length), r < q + 1 → cmS l[r].path t < 0 := fun h r hr hrq => by
    by_cases hrq' : r = q
    · subst hrq'; exact h
    · exact hs r q (by omega) hil h
  have hhi : ¬ cmS l[q].path t < 0 → ∀ r (h : r < l.length), q ≤ r → ¬ cmS l[r].path t < 0 := fun h r hr hrq hlt => by
    by_cases hrq' : r = q
    · subst hrq'; exact h hlt
    · exact h (hs q r (by omega) hr hlt)
  generalize l[q] = e at *
  repeat' first | refine wr (by omega) ?_ | refine ln ?_ | refine stp lay_ok rfl ?_ | refine fin ?_ | refine n_thn ?_ | refine n_blk ?_ | refine e_thn ?_ | refine e_hit ?_ | refine e_miss rfl ?_ | refine r_thn ?_ | refine r_blk ?_ | refine e_rr ?_ | refine r_rr ?_ | refine e_cr ?_ | refine r_cr ?_ | refine .seq ?_ | refine reg ?_ | refine .block ?_ | refine .skip ?_ | refine .ret ?_ | refine .exit ?_ | refine cndT rfl ?_ | refine cndF rfl ?_ | refine c_dec rfl (fun hc => ?_) (fun hc => ?_) | refine c_ndec rfl (fun hc => ?_) (fun hc => ?_) | refine cnd rfl (fun hc => ?_) (fun hc => ?_) | ((first | refine o_none rfl ?_ | refine o_none_ ?_ | refine o_yes rfl rfl rfl ?_ | refine o_yes_ rfl rfl ?_); first | refine st_shift rfl rfl (by decide) hsh ?_ | refine st_index (rowE e) lay_ok rfl rfl rfl rfl (by omega) hat ?_ | refine st_pure (hf) b42 rfl rfl rfl rfl ?_) | refine gd rfl rfl rfl (fun hg => ?_) (fun hg => ?_) | refine gn rfl rfl rfl (fun hg => ?_) (fun hg => ?_)
  all_goals first
    | (exfalso; omega)
    | skip
  · refine n_rr ((q + 1, j)) ?_ (.of [] (by (repeat' first | exact trivial | refine And.intro ?_ ?_ | rfl | exact congrArg (fun z : Int => some (AV.st (.int .i64 z))) (show (q : Int) + 1 = ((q + 1 : Nat) : Int) by omega)); first | done | fail) (by (repeat' first | exact trivial | refine And.intro ?_ ?_ | rfl | exact congrArg (fun z : Int => some (AV.st (.int .i64 z))) (show (q : Int) + 1 = ((q + 1 : Nat) : Int) by omega)); first | done | fail) rfl) ?_
    · show j - (q + 1) < j - i; omega
    · exact ⟨by omega, g2, hlow (by assumption), g4⟩
  · refine n_rr ((i, q)) ?_ (.of [] (by (repeat' first | exact trivial | refine And.intro ?_ ?_ | rfl); first | done | fail) (by (repeat' first | exact trivial | refine And.intro ?_ ?_ | rfl); first | done | fail) rfl) ?_
    · show q - i < j - i; omega
    · exact ⟨by omega, by omega, g3, hhi (by assumption)⟩
abbrev zE : List SV := [.str ⟨#[]⟩, .int .i64 0, .nilsl]
/-- A path's entry, or what is amiss. -/
def findR (l : List EV) (t : ByteArray) : AV := if 32 < l.length then .tuple [.st (.agg zE), errE 7] else match badFrom l l.length 0 with
  | some (i, n) => .tuple [.st (.agg zE), spotE i n]
  | none => match l[loE l t]? with
    | some e => if e.path = t then .tuple [.st (.agg (rowE e)), nilE] else .tuple [.st (.agg zE), errE 3]
    | none => .tuple [.st (.agg zE), errE 3]
end Go.Proofs.YtmekcbbieacioaaGreatDoorFn
namespace Go.Proofs.YtmekcbbieacioaaGreatDoorFn
open Go.Proofs.YtmekcbbieacioaaGreatDoorAl Go.Proofs.Tryz
attribute [local irreducible] IntKind.wrap CodeOk OpsL OpG ACalls thn inBlk rndR cutR WkR Wk fnR DW ExtOk partsOf
/-! ### Find and Below -/
theorem badFrom_none (l : List EV) : ∀ f i, badFrom l f i = none → ∀ j, i ≤ j → j < i + f → ∀ h : j < l.length, entryC l j l[j] = none
  | 0, i, _, j, h1, h2, _ => by omega
  | f + 1, i, hb, j, h1, h2, h => by
    have hi : i < l.length := by omega
    simp only [badFrom, List.getElem?_eq_getElem hi] at hb
    cases hx : entryC l i l[i] with
    | some n => rw [hx] at hb; cases hb
    | none =>
      rw [hx] at hb
      by_cases hij : i = j
      · subst hij; exact hx
      · exact badFrom_none l f (i + 1) hb j (by omega) (by omega) h
theorem cmS_lt (a b : ByteArray) : cmS a b < 0 ↔ strLt a b = true := by
  unfold cmS
  cases h : strLt a b with
  | true => simp
  | false =>
    simp only [Bool.false_eq_true, if_false]
    split <;> simp
theorem cmS_zero (a b : ByteArray) : cmS a b = 0 ↔ a = b := by
  have e : ∀ x y : ByteArray, strLt x y = decide (x.data.toList < y.data.toList) := fun x y => by rw [← Go.Proofs.bytesLess_eq]; rfl
  unfold cmS
  rw [e]
  constructor
  · intro h
    by_cases h1 : a.data.toList < b.data.toList
    · simp [h1] at h
    · simpa [h1] using h
  · rintro rfl
    have : ¬ a.data.toList < a.data.toList := List.lt_irrefl _
    simp [this]
/-- In a tree each path is greater than the one ahead of it. -/
theorem tree_step {l : List EV} (hb : badFrom l l.length 0 = none) (i : Nat) (hi : i + 1 < l.length) : strLt l[i].path l[i + 1].path = true := by
  have h := badFrom_none l l.length 0 hb (i + 1) (Nat.zero_le _) (by omega) hi
  unfold entryC at h
  have e2 : l[i + 1 - 1]? = some l[i] := by simp
  rw [e2] at h
  cases hs : strLt l[i].path l[i + 1].path with
  | true => rfl
  | false =>
    simp [hs] at h
    split at h <;> cases h
theorem strLt_iff (x y : ByteArray) : strLt x y = true ↔ x.data.toList < y.data.toList := by
  have e : strLt x y = decide (x.data.toList < y.data.toList) := by rw [← Go.Proofs.bytesLess_eq]; rfl
  rw [e]; simp
theorem tree_sorted {l : List EV} (hb : badFrom l l.length 0 = none) : ∀ i j (hi : i < j) (hj : j < l.length), strLt (l[i]'(by omega)).path l[j].path = true
  | i, j + 1, hi, hj => by
    have h1 := tree_step hb j hj
    by_cases hij : i = j
    · subst hij; exact h1
    · have h2 := tree_sorted hb i j (by omega) (by omega)
      rw [strLt_iff] at *
      exact List.lt_trans h2 h1
theorem tree_below {l : List EV} (hb : badFrom l l.length 0 = none) (t : ByteArray) : ∀ i j (hi : i < j) (hj : j < l.length), cmS l[j].path t < 0 → cmS (l[i]'(by omega)).path t < 0 := fun i j hi hj h => by
  have h2 := tree_sorted hb i j hi hj
  rw [cmS_lt] at *
  rw [strLt_iff] at *
  exact List.lt_trans h2 h
def zV : EV := ⟨⟨#[]⟩, 0, []⟩
set_option maxHeartbeats 4000000 in
theorem find_ok (l : List EV) (t : ByteArray) (hl : l.length ≤ 4000000000) (hp : ∀ e ∈ l, e.path.size ≤ 4000000000 - 1) (hk : ∀ e ∈ l, e.keys.length ≤ 4000000000) :
    ACalls prog 18 0 [.st (.sl 3 (l.map rowE)), Sx t] [] fun r h => r = findR l t ∧ h = [] := by
  have hc := treeCheck_ok l hl hp hk
  have hm : (List.map rowE l).length = l.length := List.length_map _
  unfold findR
  unfold treeC at hc
  by_cases h32 : 32 < l.length
  · rw [if_pos h32] at hc ⊢
    refine ACalls.drop1 (h1 := [(0, .cells [.st (.str ⟨#[]⟩), .st (.int .i64 0), .st .nilsl])]) trivial ?_
    refine fnC lay_ok func18 rfl rfl rfl rfl rfl ?_
    repeat' first | refine wr (by omega) ?_ | refine ln ?_ | refine stp lay_ok rfl ?_ | refine fin ?_ | refine n_thn ?_ | refine n_blk ?_ | refine e_thn ?_ | refine e_hit ?_ | refine e_miss rfl ?_ | refine r_thn ?_ | refine r_blk ?_ | refine e_rr ?_ | refine r_rr ?_ | refine e_cr ?_ | refine r_cr ?_ | refine .seq ?_ | refine reg ?_ | refine .block ?_ | refine .skip ?_ | refine .ret ?_ | refine .exit ?_ | refine cndT rfl ?_ | refine cndF rfl ?_ | refine c_dec rfl (fun hc => ?_) (fun hc => ?_) | refine c_ndec rfl (fun hc => ?_) (fun hc => ?_) | refine cnd rfl (fun hc => ?_) (fun hc => ?_) | ((first | refine o_none rfl ?_ | refine o_none_ ?_ | refine o_yes rfl rfl rfl ?_ | refine o_yes_ rfl rfl ?_); first | refine st_pure (hc) b17 rfl rfl rfl rfl ?_) | refine gd rfl rfl rfl (fun hg => ?_) (fun hg => ?_) | refine gn rfl rfl rfl (fun hg => ?_) (fun hg => ?_)
    refine f_end (n0 := 1) (t'' := [(4, .ptr 0 0), (5, errE 7)]) (h'' := [(0, .cells [.st (.str ⟨#[]⟩), .st (.int .i64 0), .st .nilsl])]) (WkR.of [0] (by (repeat' first | exact trivial | refine And.intro ?_ ?_ | rfl); first | done | fail) (by (repeat' first | exact trivial | refine And.intro ?_ ?_ | rfl); first | done | fail) rfl) rfl rfl ⟨?_, rfl⟩
    rfl
  rw [if_neg h32] at hc ⊢
  cases hb : badFrom l l.length 0 with
  | some x =>
    obtain ⟨i, n⟩ := x
    rw [hb] at hc
    simp only at hc ⊢
    refine ACalls.drop1 (h1 := [(0, .cells [.st (.str ⟨#[]⟩), .st (.int .i64 0), .st .nilsl])]) trivial ?_
    refine fnC lay_ok func18 rfl rfl rfl rfl rfl ?_
    repeat' first | refine wr (by omega) ?_ | refine ln ?_ | refine stp lay_ok rfl ?_ | refine fin ?_ | refine n_thn ?_ | refine n_blk ?_ | refine e_thn ?_ | refine e_hit ?_ | refine e_miss rfl ?_ | refine r_thn ?_ | refine r_blk ?_ | refine e_rr ?_ | refine r_rr ?_ | refine e_cr ?_ | refine r_cr ?_ | refine .seq ?_ | refine reg ?_ | refine .block ?_ | refine .skip ?_ | refine .ret ?_ | refine .exit ?_ | refine cndT rfl ?_ | refine cndF rfl ?_ | refine c_dec rfl (fun hc => ?_) (fun hc => ?_) | refine c_ndec rfl (fun hc => ?_) (fun hc => ?_) | refine cnd rfl (fun hc => ?_) (fun hc => ?_) | ((first | refine o_none rfl ?_ | refine o_none_ ?_ | refine o_yes rfl rfl rfl ?_ | refine o_yes_ rfl rfl ?_); first | refine st_pure (hc) b17 rfl rfl rfl rfl ?_) | refine gd rfl rfl rfl (fun hg => ?_) (fun hg => ?_) | refine gn rfl rfl rfl (fun hg => ?_) (fun hg => ?_)
    refine f_end (n0 := 1) (t'' := [(4, .ptr 0 0), (5, spotE i n)]) (h'' := [(0, .cells [.st (.str ⟨#[]⟩), .st (.int .i64 0), .st .nilsl])]) (WkR.of [0] (by (repeat' first | exact trivial | refine And.intro ?_ ?_ | rfl); first | done | fail) (by (repeat' first | exact trivial | refine And.intro ?_ ?_ | rfl); first | done | fail) rfl) rfl rfl ⟨?_, rfl⟩
    rfl
  | none =>
    rw [hb] at hc
    simp only at hc ⊢
    have hbs := bs_ok l t hl (tree_below hb t)
    have hhit : hitE l t = match l[loE l t]? with
      | some e => decide (cmS e.path t = 0)
      | none => false := rfl
    have hle : loE l t ≤ l.length := List.findIdx_le_length
    generalize loE l t = k at *
    generalize hitE l t = b at *
    by_cases hkl : k < l.length
    · rw [List.getElem?_eq_getElem hkl] at hhit ⊢
      have hat := at_rowE hkl
      have hcl := cloneS_ok l[k].keys (hk _ (List.getElem_mem hkl))
      generalize l[k] = e at *
      simp only [cmS_zero] at hhit ⊢
      obtain ⟨p, z, ks⟩ := e
      simp only at hhit hcl ⊢
      by_cases hpt : p = t
      · rw [if_pos hpt]
        rw [decide_eq_true hpt] at hhit
        subst hhit
        refine ACalls.drop1 (h1 := [(0, .cells [.st (.str p), .st (.int .i64 z), .st (.sl 1 (ks.map rowS))])]) trivial ?_
        refine fnC lay_ok func18 rfl rfl rfl rfl rfl ?_
        repeat' first | refine wr (by omega) ?_ | refine ln ?_ | refine stp lay_ok rfl ?_ | refine fin ?_ | refine n_thn ?_ | refine n_blk ?_ | refine e_thn ?_ | refine e_hit ?_ | refine e_miss rfl ?_ | refine r_thn ?_ | refine r_blk ?_ | refine e_rr ?_ | refine r_rr ?_ | refine e_cr ?_ | refine r_cr ?_ | refine .seq ?_ | refine reg ?_ | refine .block ?_ | refine .skip ?_ | refine .ret ?_ | refine .exit ?_ | refine cndT rfl ?_ | refine cndF rfl ?_ | refine c_dec rfl (fun hc => ?_) (fun hc => ?_) | refine c_ndec rfl (fun hc => ?_) (fun hc => ?_) | refine cnd rfl (fun hc => ?_) (fun hc => ?_) | ((first | refine o_none rfl ?_ | refine o_none_ ?_ | refine o_yes rfl rfl rfl ?_ | refine o_yes_ rfl rfl ?_); first | refine st_pure (hc) b17 rfl rfl rfl rfl ?_ | refine st_pure (hbs) b41 rfl rfl rfl rfl ?_ | refine st_index (rowE ⟨p, z, ks⟩) lay_ok rfl rfl rfl rfl (by omega) hat ?_ | refine st_pure (hcl) b43 rfl rfl rfl rfl ?_) | refine gd rfl rfl rfl (fun hg => ?_) (fun hg => ?_) | refine gn rfl rfl rfl (fun hg => ?_) (fun hg => ?_)
        refine f_end (n0 := 1) (t'' := [(4, .ptr 0 0), (5, nilE)]) (h'' := [(0, .cells [.st (.str p), .st (.int .i64 z), .st (.sl 1 (ks.map rowS))])]) (WkR.of [0] (by (repeat' first | exact trivial | refine And.intro ?_ ?_ | rfl); first | done | fail) (by (repeat' first | exact trivial | refine And.intro ?_ ?_ | rfl); first | done | fail) rfl) rfl rfl ⟨?_, rfl⟩
        rfl
      · rw [if_neg hpt]
        rw [decide_eq_false hpt] at hhit
        subst hhit
        refine ACalls.drop1 (h1 := [(0, .cells [.st (.str ⟨#[]⟩), .st (.int .i64 0), .st .nilsl])]) trivial ?_
        refine fnC lay_ok func18 rfl rfl rfl rfl rfl ?_
        repeat' first | refine wr (by omega) ?_ | refine ln ?_ | refine stp lay_ok rfl ?_ | refine fin ?_ | refine n_thn ?_ | refine n_blk ?_ | refine e_thn ?_ | refine e_hit ?_ | refine e_miss rfl ?_ | refine r_thn ?_ | refine r_blk ?_ | refine e_rr ?_ | refine r_rr ?_ | refine e_cr ?_ | refine r_cr ?_ | refine .seq ?_ | refine reg ?_ | refine .block ?_ | refine .skip ?_ | refine .ret ?_ | refine .exit ?_ | refine cndT rfl ?_ | refine cndF rfl ?_ | refine c_dec rfl (fun hc => ?_) (fun hc => ?_) | refine c_ndec rfl (fun hc => ?_) (fun hc => ?_) | refine cnd rfl (fun hc => ?_) (fun hc => ?_) | ((first | refine o_none rfl ?_ | refine o_none_ ?_ | refine o_yes rfl rfl rfl ?_ | refine o_yes_ rfl rfl ?_); first | refine st_pure (hc) b17 rfl rfl rfl rfl ?_ | refine st_pure (hbs) b41 rfl rfl rfl rfl ?_) | refine gd rfl rfl rfl (fun hg => ?_) (fun hg => ?_) | refine gn rfl rfl rfl (fun hg => ?_) (fun hg => ?_)
        refine f_end (n0 := 1) (t'' := [(4, .ptr 0 0), (5, errE 3)]) (h'' := [(0, .cells [.st (.str ⟨#[]⟩), .st (.int .i64 0), .st .nilsl])]) (WkR.of [0] (by (repeat' first | exact trivial | refine And.intro ?_ ?_ | rfl); first | done | fail) (by (repeat' first | exact trivial | refine And.intro ?_ ?_ | rfl); first | done | fail) rfl) rfl rfl ⟨?_, rfl⟩
        rfl
    · rw [List.getElem?_eq_none (by omega)] at hhit ⊢
      simp only at hhit ⊢
      subst hhit
      refine ACalls.drop1 (h1 := [(0, .cells [.st (.str ⟨#[]⟩), .st (.int .i64 0), .st .nilsl])]) trivial ?_
      refine fnC lay_ok func18 rfl rfl rfl rfl rfl ?_
      repeat' first | refine wr (by omega) ?_ | refine ln ?_ | refine stp lay_ok rfl ?_ | refine fin ?_ | refine n_thn ?_ | refine n_blk ?_ | refine e_thn ?_ | refine e_hit ?_ | refine e_miss rfl ?_ | refine r_thn ?_ | refine r_blk ?_ | refine e_rr ?_ | refine r_rr ?_ | refine e_cr ?_ | refine r_cr ?_ | refine .seq ?_ | refine reg ?_ | refine .block ?_ | refine .skip ?_ | refine .ret ?_ | refine .exit ?_ | refine cndT rfl ?_ | refine cndF rfl ?_ | refine c_dec rfl (fun hc => ?_) (fun hc => ?_) | refine c_ndec rfl (fun hc => ?_) (fun hc => ?_) | refine cnd rfl (fun hc => ?_) (fun hc => ?_) | ((first | refine o_none rfl ?_ | refine o_none_ ?_ | refine o_yes rfl rfl rfl ?_ | refine o_yes_ rfl rfl ?_); first | refine st_pure (hc) b17 rfl rfl rfl rfl ?_ | refine st_pure (hbs) b41 rfl rfl rfl rfl ?_) | refine gd rfl rfl rfl (fun hg => ?_) (fun hg => ?_) | refine gn rfl rfl rfl (fun hg => ?_) (fun hg => ?_)
      refine f_end (n0 := 1) (t'' := [(4, .ptr 0 0), (5, errE 3)]) (h'' := [(0, .cells [.st (.str ⟨#[]⟩), .st (.int .i64 0), .st .nilsl])]) (WkR.of [0] (by (repeat' first | exact trivial | refine And.intro ?_ ?_ | rfl); first | done | fail) (by (repeat' first | exact trivial | refine And.intro ?_ ?_ | rfl); first | done | fail) rfl) rfl rfl ⟨?_, rfl⟩
      rfl
/-- The paths under one. -/
def belP (d : ByteArray) (e : EV) : Bool := decide (d = ⟨#[]⟩) || under d e.path
def belL' (l : List EV) (d : ByteArray) : List ByteArray := (l.filter (belP d)).map (·.path)
def belR (l : List EV) (d : ByteArray) : AV := if 32 < l.length then .st .nilsl else match badFrom l l.length 0 with
  | some _ => .st .nilsl
  | none => .st (.sl 1 ((belL' l d).map rowS))
set_option maxHeartbeats 4000000 in
theorem below_ok (l : List EV) (t : ByteArray) (hl : l.length ≤ 4000000000) (hp : ∀ e ∈ l, e.path.size ≤ 4000000000 - 1) (hk : ∀ e ∈ l, e.keys.length ≤ 4000000000) (ht : t.size ≤ 4000000000 - 1) :
    ACalls prog 19 0 [.st (.sl 3 (l.map rowE)), Sx t] [] fun r h => r = belR l t ∧ h = [] := by
  have hc := treeCheck_ok l hl hp hk
  have hm : (List.map rowE l).length = l.length := List.length_map _
  unfold belR
  unfold treeC at hc
  refine fnC lay_ok func19 rfl rfl rfl rfl rfl ?_
  by_cases h32 : 32 < l.length
  · rw [if_pos h32] at hc ⊢
    repeat' first | refine wr (by omega) ?_ | refine ln ?_ | refine stp lay_ok rfl ?_ | refine fin ?_ | refine n_thn ?_ | refine n_blk ?_ | refine e_thn ?_ | refine e_hit ?_ | refine e_miss rfl ?_ | refine r_thn ?_ | refine r_blk ?_ | refine e_rr ?_ | refine r_rr ?_ | refine e_cr ?_ | refine r_cr ?_ | refine .seq ?_ | refine reg ?_ | refine .block ?_ | refine .skip ?_ | refine .ret ?_ | refine .exit ?_ | refine cndT rfl ?_ | refine cndF rfl ?_ | refine c_dec rfl (fun hc => ?_) (fun hc => ?_) | refine c_ndec rfl (fun hc => ?_) (fun hc => ?_) | refine cnd rfl (fun hc => ?_) (fun hc => ?_) | ((first | refine o_none rfl ?_ | refine o_none_ ?_ | refine o_yes rfl rfl rfl ?_ | refine o_yes_ rfl rfl ?_); first | refine st_pure (hc) b17 rfl rfl rfl rfl ?_) | refine gd rfl rfl rfl (fun hg => ?_) (fun hg => ?_) | refine gn rfl rfl rfl (fun hg => ?_) (fun hg => ?_)
    refine f_r [] rfl trivial rfl ⟨?_, rfl⟩
    rfl
  rw [if_neg h32] at hc ⊢
  cases hb : badFrom l l.length 0 with
  | some x =>
    obtain ⟨i, n⟩ := x
    rw [hb] at hc
    simp only at hc ⊢
    repeat' first | refine wr (by omega) ?_ | refine ln ?_ | refine stp lay_ok rfl ?_ | refine fin ?_ | refine n_thn ?_ | refine n_blk ?_ | refine e_thn ?_ | refine e_hit ?_ | refine e_miss rfl ?_ | refine r_thn ?_ | refine r_blk ?_ | refine e_rr ?_ | refine r_rr ?_ | refine e_cr ?_ | refine r_cr ?_ | refine .seq ?_ | refine reg ?_ | refine .block ?_ | refine .skip ?_ | refine .ret ?_ | refine .exit ?_ | refine cndT rfl ?_ | refine cndF rfl ?_ | refine c_dec rfl (fun hc => ?_) (fun hc => ?_) | refine c_ndec rfl (fun hc => ?_) (fun hc => ?_) | refine cnd rfl (fun hc => ?_) (fun hc => ?_) | ((first | refine o_none rfl ?_ | refine o_none_ ?_ | refine o_yes rfl rfl rfl ?_ | refine o_yes_ rfl rfl ?_); first | refine st_pure (hc) b17 rfl rfl rfl rfl ?_) | refine gd rfl rfl rfl (fun hg => ?_) (fun hg => ?_) | refine gn rfl rfl rfl (fun hg => ?_) (fun hg => ?_)
    refine f_r [] rfl trivial rfl ⟨?_, rfl⟩
    rfl
  | none =>
    rw [hb] at hc
    simp only at hc ⊢
    repeat' first | refine wr (by omega) ?_ | refine ln ?_ | refine stp lay_ok rfl ?_ | refine fin ?_ | refine n_thn ?_ | refine n_blk ?_ | refine e_thn ?_ | refine e_hit ?_ | refine e_miss rfl ?_ | refine r_thn ?_ | refine r_blk ?_ | refine e_rr ?_ | refine r_rr ?_ | refine e_cr ?_ | refine r_cr ?_ | refine .seq ?_ | refine reg ?_ | refine .block ?_ | refine .skip ?_ | refine .ret ?_ | refine .exit ?_ | refine cndT rfl ?_ | refine cndF rfl ?_ | refine c_dec rfl (fun hc => ?_) (fun hc => ?_) | refine c_ndec rfl (fun hc => ?_) (fun hc => ?_) | refine cnd rfl (fun hc => ?_) (fun hc => ?_) | ((first | refine o_none rfl ?_ | refine o_none_ ?_ | refine o_yes rfl rfl rfl ?_ | refine o_yes_ rfl rfl ?_); first | refine st_pure (hc) b17 rfl rfl rfl rfl ?_) | refine gd rfl rfl rfl (fun hg => ?_) (fun hg => ?_) | refine gn rfl rfl rfl (fun hg => ?_) (fun hg => ?_)
    refine CodeOk.wk (Wk.nilT 1 5 rfl rfl) (Nat.le_succ _) ?_
    refine nrm rfl rfl ?_
    refine lpR (fun (k, out) => k ≤ l.length ∧ out = belL' (l.take k) t ∧ out.length ≤ k) (fun (k, out) => l.length - k) (fun (k, out) => [(13, I k), (5, .lsl 1 1 0 (out.map rowS).length)]) (fun (k, out) => [(1, .arr 1 (out.map rowS))]) ((0, [])) [1, 11, 12] [] [0] rfl rfl rfl (.of [0] (by (repeat' first | exact trivial | refine And.intro ?_ ?_ | rfl); first | done | fail) (by (repeat' first | exact trivial | refine And.intro ?_ ?_ | rfl); first | done | fail) rfl) ?_ ?_
    · exact ⟨Nat.zero_le _, rfl, Nat.le_refl _⟩
    rintro ⟨k, out⟩ ⟨g1, g2, g3⟩
    refine nrm rfl rfl ?_
    have hmo : (List.map rowS out).length = out.length := List.length_map _
    by_cases hk' : k < l.length
    case neg =>
      have hke : k = l.length := by omega
      subst hke
      rw [List.take_length] at g2
      rw [← g2]
      repeat' first | refine wr (by omega) ?_ | refine ln ?_ | refine stp lay_ok rfl ?_ | refine fin ?_ | refine n_thn ?_ | refine n_blk ?_ | refine e_thn ?_ | refine e_hit ?_ | refine e_miss rfl ?_ | refine r_thn ?_ | refine r_blk ?_ | refine e_rr ?_ | refine r_rr ?_ | refine e_cr ?_ | refine r_cr ?_ | refine .seq ?_ | refine reg ?_ | refine .block ?_ | refine .skip ?_ | refine .ret ?_ | refine .exit ?_ | refine cndT rfl ?_ | refine cndF rfl ?_ | refine c_dec rfl (fun hc => ?_) (fun hc => ?_) | refine c_ndec rfl (fun hc => ?_) (fun hc => ?_) | refine cnd rfl (fun hc => ?_) (fun hc => ?_) | refine gd rfl rfl rfl (fun hg => ?_) (fun hg => ?_) | refine gn rfl rfl rfl (fun hg => ?_) (fun hg => ?_)
      all_goals first
        | (exfalso; omega)
        | skip
      refine f_end (n0 := 0) (t'' := [(4, .st (.sl 1 (out.map rowS)))]) (h'' := []) (Wk.then (Wk.frz 1 [4] rfl rfl rfl (by (repeat' first | exact trivial | refine And.intro ?_ ?_ | rfl); first | done | fail) (by (repeat' first | exact trivial | refine And.intro ?_ ?_ | rfl); first | done | fail) rfl rfl) (WkR.of [] (by (repeat' first | exact trivial | refine And.intro ?_ ?_ | rfl); first | done | fail) (by (repeat' first | exact trivial | refine And.intro ?_ ?_ | rfl); first | done | fail) rfl)) rfl rfl ⟨?_, rfl⟩
      rfl
    have hat := at_rowE hk'
    have hun := under_ok t l[k].path ht (hp _ (List.getElem_mem hk'))
    have htk : belL' (l.take (k + 1)) t = belL' (l.take k) t ++ (if belP t l[k] = true then [l[k].path] else []) := by
      rw [List.take_succ_eq_append_getElem hk']
      unfold belL'
      rw [List.filter_append, List.map_append]
      congr 1
      cases hbp : belP t l[k] <;> simp [hbp]
    rw [← g2] at htk
    generalize l[k] = e at *
    obtain ⟨p, z, ks⟩ := e
    simp only at hun htk
    have hr : List.map rowS out ++ [[SV.str p]] = List.map rowS (out ++ [p]) := by rw [List.map_append]; rfl
    by_cases hte : t = ⟨#[]⟩
    · have hb1 : belP t ⟨p, z, ks⟩ = true := by simp [belP, hte]
      rw [if_pos hb1] at htk
      repeat' first | refine wr (by omega) ?_ | refine ln ?_ | refine stp lay_ok rfl ?_ | refine fin ?_ | refine n_thn ?_ | refine n_blk ?_ | refine e_thn ?_ | refine e_hit ?_ | refine e_miss rfl ?_ | refine r_thn ?_ | refine r_blk ?_ | refine e_rr ?_ | refine r_rr ?_ | refine e_cr ?_ | refine r_cr ?_ | refine .seq ?_ | refine reg ?_ | refine .block ?_ | refine .skip ?_ | refine .ret ?_ | refine .exit ?_ | refine cndT rfl ?_ | refine cndF rfl ?_ | refine c_dec rfl (fun hc => ?_) (fun hc => ?_) | refine c_ndec rfl (fun hc => ?_) (fun hc => ?_) | refine cnd rfl (fun hc => ?_) (fun hc => ?_) | ((first | refine o_none rfl ?_ | refine o_none_ ?_ | refine o_yes rfl rfl rfl ?_ | refine o_yes_ rfl rfl ?_); first | refine st_index (rowE ⟨p, z, ks⟩) lay_ok rfl rfl rfl rfl (by omega) hat ?_ | refine st_pure (hun) b44 rfl rfl rfl rfl ?_ | refine st_append lay_ok rfl rfl rfl rfl rfl rfl rfl rfl (.lsl rfl rfl) .sl rfl (rowS_one (b := [p])) (by simp only [List.length_cons, List.length_nil]; omega) (by simp only [List.length_cons, List.length_nil]; omega) ?_) | refine gd rfl rfl rfl (fun hg => ?_) (fun hg => ?_) | refine gn rfl rfl rfl (fun hg => ?_) (fun hg => ?_)
      all_goals first
        | (exfalso; omega)
        | (exfalso; contradiction)
        | skip
      rw [hr]
      refine n_rr ((k + 1, out ++ [p])) ?_ (.of [3] (by (repeat' first | exact trivial | refine And.intro ?_ ?_ | rfl | exact congrArg (fun z : Int => some (AV.st (.int .i64 z))) (show (k : Int) + 1 = ((k + 1 : Nat) : Int) by omega)); first | done | fail) (by (repeat' first | exact trivial | refine And.intro ?_ ?_ | rfl | exact congrArg (fun z : Int => some (AV.st (.int .i64 z))) (show (k : Int) + 1 = ((k + 1 : Nat) : Int) by omega)); first | done | fail) rfl) ?_
      · show l.length - (k + 1) < l.length - k; omega
      · exact ⟨hk', htk.symm, by simp; omega⟩
    · cases hu : under t p
      · have hb1 : belP t ⟨p, z, ks⟩ = false := by simp [belP, hte, hu]
        rw [hb1, if_neg (by simp), List.append_nil] at htk
        rw [hu] at hun
        repeat' first | refine wr (by omega) ?_ | refine ln ?_ | refine stp lay_ok rfl ?_ | refine fin ?_ | refine n_thn ?_ | refine n_blk ?_ | refine e_thn ?_ | refine e_hit ?_ | refine e_miss rfl ?_ | refine r_thn ?_ | refine r_blk ?_ | refine e_rr ?_ | refine r_rr ?_ | refine e_cr ?_ | refine r_cr ?_ | refine .seq ?_ | refine reg ?_ | refine .block ?_ | refine .skip ?_ | refine .ret ?_ | refine .exit ?_ | refine cndT rfl ?_ | refine cndF rfl ?_ | refine c_dec rfl (fun hc => ?_) (fun hc => ?_) | refine c_ndec rfl (fun hc => ?_) (fun hc => ?_) | refine cnd rfl (fun hc => ?_) (fun hc => ?_) | ((first | refine o_none rfl ?_ | refine o_none_ ?_ | refine o_yes rfl rfl rfl ?_ | refine o_yes_ rfl rfl ?_); first | refine st_index (rowE ⟨p, z, ks⟩) lay_ok rfl rfl rfl rfl (by omega) hat ?_ | refine st_pure (hun) b44 rfl rfl rfl rfl ?_) | refine gd rfl rfl rfl (fun hg => ?_) (fun hg => ?_) | refine gn rfl rfl rfl (fun hg => ?_) (fun hg => ?_)
        all_goals first
          | (exfalso; omega)
          | (exfalso; contradiction)
          | skip
        refine n_rr ((k + 1, out)) ?_ (.of [1] (by (repeat' first | exact trivial | refine And.intro ?_ ?_ | rfl | exact congrArg (fun z : Int => some (AV.st (.int .i64 z))) (show (k : Int) + 1 = ((k + 1 : Nat) : Int) by omega)); first | done | fail) (by (repeat' first | exact trivial | refine And.intro ?_ ?_ | rfl | exact congrArg (fun z : Int => some (AV.st (.int .i64 z))) (show (k : Int) + 1 = ((k + 1 : Nat) : Int) by omega)); first | done | fail) rfl) ?_
        · show l.length - (k + 1) < l.length - k; omega
        · exact ⟨hk', htk.symm, by omega⟩
      · have hb1 : belP t ⟨p, z, ks⟩ = true := by simp [belP, hu]
        rw [if_pos hb1] at htk
        rw [hu] at hun
        repeat' first | refine wr (by omega) ?_ | refine ln ?_ | refine stp lay_ok rfl ?_ | refine fin ?_ | refine n_thn ?_ | refine n_blk ?_ | refine e_thn ?_ | refine e_hit ?_ | refine e_miss rfl ?_ | refine r_thn ?_ | refine r_blk ?_ | refine e_rr ?_ | refine r_rr ?_ | refine e_cr ?_ | refine r_cr ?_ | refine .seq ?_ | refine reg ?_ | refine .block ?_ | refine .skip ?_ | refine .ret ?_ | refine .exit ?_ | refine cndT rfl ?_ | refine cndF rfl ?_ | refine c_dec rfl (fun hc => ?_) (fun hc => ?_) | refine c_ndec rfl (fun hc => ?_) (fun hc => ?_) | refine cnd rfl (fun hc => ?_) (fun hc => ?_) | ((first | refine o_none rfl ?_ | refine o_none_ ?_ | refine o_yes rfl rfl rfl ?_ | refine o_yes_ rfl rfl ?_); first | refine st_index (rowE ⟨p, z, ks⟩) lay_ok rfl rfl rfl rfl (by omega) hat ?_ | refine st_pure (hun) b44 rfl rfl rfl rfl ?_ | refine st_append lay_ok rfl rfl rfl rfl rfl rfl rfl rfl (.lsl rfl rfl) .sl rfl (rowS_one (b := [p])) (by simp only [List.length_cons, List.length_nil]; omega) (by simp only [List.length_cons, List.length_nil]; omega) ?_) | refine gd rfl rfl rfl (fun hg => ?_) (fun hg => ?_) | refine gn rfl rfl rfl (fun hg => ?_) (fun hg => ?_)
        all_goals first
          | (exfalso; omega)
          | (exfalso; contradiction)
          | skip
        rw [hr]
        refine n_rr ((k + 1, out ++ [p])) ?_ (.of [3] (by (repeat' first | exact trivial | refine And.intro ?_ ?_ | rfl | exact congrArg (fun z : Int => some (AV.st (.int .i64 z))) (show (k : Int) + 1 = ((k + 1 : Nat) : Int) by omega)); first | done | fail) (by (repeat' first | exact trivial | refine And.intro ?_ ?_ | rfl | exact congrArg (fun z : Int => some (AV.st (.int .i64 z))) (show (k : Int) + 1 = ((k + 1 : Nat) : Int) by omega)); first | done | fail) rfl) ?_
        · show l.length - (k + 1) < l.length - k; omega
        · exact ⟨hk', htk.symm, by simp; omega⟩
end Go.Proofs.YtmekcbbieacioaaGreatDoorFn
namespace Go.Proofs.YtmekcbbieacioaaGreatDoorFn
open Go.Proofs.YtmekcbbieacioaaGreatDoorAl Go.Proofs.Tryz
attribute [local irreducible] IntKind.wrap CodeOk OpsL OpG ACalls thn inBlk rndR cutR WkR Wk fnR DW ExtOk partsOf
theorem b104 : HasBody prog 104 := ⟨f104, func104, Option.some_ne_none _, by decide⟩
theorem b105 : HasBody prog 105 := ⟨f105, func105, Option.some_ne_none _, by decide⟩
theorem b88 : HasBody prog 88 := ⟨f88, func88, Option.some_ne_none _, by decide⟩
theorem get_some {s : ByteArray} {p : Nat} (h : p < s.size) : s[p]? = some (s.get! p) := by
  rw [getElem?_pos s p h]; congr 1
  show s.get p h = s.get! p
  simp only [ByteArray.get, ByteArray.get!]
  exact (getElem!_pos s.data p h).symm
/-- The bytes behind the first one of a character. -/
def wLoop (s : ByteArray) (p : Nat) : Nat → Nat → Int → Option Int
  | 0, _, v => some v
  | f + 1, i, v => if (s.get! (p + i)).toNat < 128 ∨ 191 < (s.get! (p + i)).toNat then none else wLoop s p f (i + 1) (v * 64 + (s.get! (p + i)).toNat - 128)
def wEnd (s : ByteArray) (p n least : Nat) (v : Int) : Nat :=
  if s.size < p + n then 0 else match wLoop s p (n - 1) 1 v with
    | none => 0
    | some v => if v < (least : Int) ∨ 1114111 < v ∨ (55296 ≤ v ∧ v ≤ 57343) ∨ v = 65533 then 0 else n
def widthR (s : ByteArray) (p : Nat) : Nat :=
  if (s.get! p).toNat < 128 then 1
  else if 192 ≤ (s.get! p).toNat ∧ (s.get! p).toNat < 224 then wEnd s p 2 128 (((s.get! p).toNat : Int) - 192)
  else if 224 ≤ (s.get! p).toNat ∧ (s.get! p).toNat < 240 then wEnd s p 3 2048 (((s.get! p).toNat : Int) - 224)
  else if 240 ≤ (s.get! p).toNat ∧ (s.get! p).toNat < 248 then wEnd s p 4 65536 (((s.get! p).toNat : Int) - 240)
  else 0
set_option maxHeartbeats 4000000 in
set_option maxRecDepth 4000 in
theorem width_ok (s : ByteArray) (p : Nat) (hs : s.size ≤ 4000000000) (hp : p < s.size) : ACalls prog 104 0 [Sx s, I p] [] fun r h => r = I (widthR s p) ∧ h = [] := by
  have ha := get_some hp
  have hla := (s.get! p).toNat_lt
  have hw : widthR s p = if (s.get! p).toNat < 128 then 1
    else if 192 ≤ (s.get! p).toNat ∧ (s.get! p).toNat < 224 then wEnd s p 2 128 (((s.get! p).toNat : Int) - 192)
    else if 224 ≤ (s.get! p).toNat ∧ (s.get! p).toNat < 240 then wEnd s p 3 2048 (((s.get! p).toNat : Int) - 224)
    else if 240 ≤ (s.get! p).toNat ∧ (s.get! p).toNat < 248 then wEnd s p 4 65536 (((s.get! p).toNat : Int) - 240)
    else 0 := rfl
  generalize widthR s p = W at *
  generalize s.get! p = a at *
  refine fnC lay_ok func104 rfl rfl rfl rfl rfl ?_
  by_cases h1 : a.toNat < 128
  · rw [if_pos h1] at hw
    repeat' first | refine wr (by omega) ?_ | refine ln ?_ | refine stp lay_ok rfl ?_ | refine fin ?_ | refine n_thn ?_ | refine n_blk ?_ | refine e_thn ?_ | refine e_hit ?_ | refine e_miss rfl ?_ | refine r_thn ?_ | refine r_blk ?_ | refine e_rr ?_ | refine r_rr ?_ | refine e_cr ?_ | refine r_cr ?_ | refine .seq ?_ | refine reg ?_ | refine .block ?_ | refine .skip ?_ | refine .ret ?_ | refine .exit ?_ | refine cndT rfl ?_ | refine cndF rfl ?_ | refine c_dec rfl (fun hc => ?_) (fun hc => ?_) | refine c_ndec rfl (fun hc => ?_) (fun hc => ?_) | refine cnd rfl (fun hc => ?_) (fun hc => ?_) | ((first | refine o_none rfl ?_ | refine o_none_ ?_ | refine o_yes rfl rfl rfl ?_ | refine o_yes_ rfl rfl ?_); first | refine st_indexStr a lay_ok rfl rfl rfl rfl (by omega) ha ?_) | refine gd rfl rfl rfl (fun hg => ?_) (fun hg => ?_) | refine gn rfl rfl rfl (fun hg => ?_) (fun hg => ?_)
    all_goals first
      | (exfalso; omega)
      | (refine f_r [] rfl trivial rfl ⟨?_, rfl⟩; rw [hw]; rfl)
  rw [if_neg h1] at hw
  by_cases h2 : 192 ≤ a.toNat ∧ a.toNat < 224
  · rw [if_pos h2] at hw
    repeat' first | refine wr (by omega) ?_ | refine ln ?_ | refine stp lay_ok rfl ?_ | refine fin ?_ | refine n_thn ?_ | refine n_blk ?_ | refine e_thn ?_ | refine e_hit ?_ | refine e_miss rfl ?_ | refine r_thn ?_ | refine r_blk ?_ | refine e_rr ?_ | refine r_rr ?_ | refine e_cr ?_ | refine r_cr ?_ | refine .seq ?_ | refine reg ?_ | refine .block ?_ | refine .skip ?_ | refine .ret ?_ | refine .exit ?_ | refine cndT rfl ?_ | refine cndF rfl ?_ | refine c_dec rfl (fun hc => ?_) (fun hc => ?_) | refine c_ndec rfl (fun hc => ?_) (fun hc => ?_) | refine cnd rfl (fun hc => ?_) (fun hc => ?_) | ((first | refine o_none rfl ?_ | refine o_none_ ?_ | refine o_yes rfl rfl rfl ?_ | refine o_yes_ rfl rfl ?_); first | refine st_indexStr a lay_ok rfl rfl rfl rfl (by omega) ha ?_) | refine gd rfl rfl rfl (fun hg => ?_) (fun hg => ?_) | refine gn rfl rfl rfl (fun hg => ?_) (fun hg => ?_)
    all_goals first
      | (exfalso; omega)
      | (refine f_r [] rfl trivial rfl ⟨?_, rfl⟩; rw [hw, wEnd, if_pos (by omega)]; rfl)
      | skip
    have hsz : ¬ s.size < p + 2 := by omega
    rw [wEnd, if_neg hsz] at hw
    generalize hK : wLoop s p (2 - 1) 1 ((a.toNat : Int) - 192) = K at hw
    refine lpR (fun (i, v) => K = wLoop s p (2 - i) i v ∧ (i = 1 ∧ v < 32 ∨ i = 2 ∧ v < 2048 ∨ i = 3 ∧ v < 131072 ∨ i = 4 ∧ v < 8388608) ∧ 0 ≤ v ∧ i ≤ 2) (fun (i, v) => 2 - i) (fun (i, v) => [(9, I i), (8, .st (.int .i64 v))]) (fun (i, v) => []) ((1, (a.toNat : Int) - 192)) [0, 1, 6, 7] [] [] rfl rfl rfl (.of [] (by (repeat' first | exact trivial | refine And.intro ?_ ?_ | rfl); first | done | fail) (by (repeat' first | exact trivial | refine And.intro ?_ ?_ | rfl); first | done | fail) rfl) ?_ ?_
    · exact ⟨hK.symm, by omega, by omega, by decide⟩
    rintro ⟨i, v⟩ ⟨g1, g2, g3, g4⟩
    refine nrm rfl rfl ?_
    rw [g1] at hw
    by_cases hi : i < 2
    · have hx := get_some (show p + i < s.size by omega)
      have hxl := (s.get! (p + i)).toNat_lt
      have hx' : s[((p : Int) + (i : Int)).toNat]? = some (s.get! (p + i)) := by rw [← hx]; congr 1
      rw [show 2 - i = (2 - (i + 1)) + 1 by omega, wLoop] at hw
      have hws := g1
      rw [show 2 - i = (2 - (i + 1)) + 1 by omega, wLoop] at hws
      generalize s.get! (p + i) = x at *
      by_cases hxx : x.toNat < 128 ∨ 191 < x.toNat
      · rw [if_pos hxx] at hw
        repeat' first | refine wr (by omega) ?_ | refine ln ?_ | refine stp lay_ok rfl ?_ | refine fin ?_ | refine n_thn ?_ | refine n_blk ?_ | refine e_thn ?_ | refine e_hit ?_ | refine e_miss rfl ?_ | refine r_thn ?_ | refine r_blk ?_ | refine e_rr ?_ | refine r_rr ?_ | refine e_cr ?_ | refine r_cr ?_ | refine .seq ?_ | refine reg ?_ | refine .block ?_ | refine .skip ?_ | refine .ret ?_ | refine .exit ?_ | refine cndT rfl ?_ | refine cndF rfl ?_ | refine c_dec rfl (fun hc => ?_) (fun hc => ?_) | refine c_ndec rfl (fun hc => ?_) (fun hc => ?_) | refine cnd rfl (fun hc => ?_) (fun hc => ?_) | ((first | refine o_none rfl ?_ | refine o_none_ ?_ | refine o_yes rfl rfl rfl ?_ | refine o_yes_ rfl rfl ?_); first | refine st_indexStr x lay_ok rfl rfl rfl rfl (by omega) hx' ?_) | refine gd rfl rfl rfl (fun hg => ?_) (fun hg => ?_) | refine gn rfl rfl rfl (fun hg => ?_) (fun hg => ?_)
        all_goals first
          | (exfalso; omega)
          | (refine f_r [] rfl trivial rfl ⟨?_, rfl⟩; rw [hw]; rfl)
      · rw [if_neg hxx] at hw hws
        repeat' first | refine wr (by omega) ?_ | refine ln ?_ | refine stp lay_ok rfl ?_ | refine fin ?_ | refine n_thn ?_ | refine n_blk ?_ | refine e_thn ?_ | refine e_hit ?_ | refine e_miss rfl ?_ | refine r_thn ?_ | refine r_blk ?_ | refine e_rr ?_ | refine r_rr ?_ | refine e_cr ?_ | refine r_cr ?_ | refine .seq ?_ | refine reg ?_ | refine .block ?_ | refine .skip ?_ | refine .ret ?_ | refine .exit ?_ | refine cndT rfl ?_ | refine cndF rfl ?_ | refine c_dec rfl (fun hc => ?_) (fun hc => ?_) | refine c_ndec rfl (fun hc => ?_) (fun hc => ?_) | refine cnd rfl (fun hc => ?_) (fun hc => ?_) | ((first | refine o_none rfl ?_ | refine o_none_ ?_ | refine o_yes rfl rfl rfl ?_ | refine o_yes_ rfl rfl ?_); first | refine st_indexStr x lay_ok rfl rfl rfl rfl (by omega) hx' ?_) | refine gd rfl rfl rfl (fun hg => ?_) (fun hg => ?_) | refine gn rfl rfl rfl (fun hg => ?_) (fun hg => ?_)
        all_goals first
          | (exfalso; omega)
          | skip
        refine n_rr ((i + 1, v * 64 + (x.toNat : Int) - 128)) ?_ (.of [] (by (repeat' first | exact trivial | refine And.intro ?_ ?_ | rfl); first | done | fail) (by (repeat' first | exact trivial | refine And.intro ?_ ?_ | rfl); first | done | fail) rfl) ?_
        · show 2 - (i + 1) < 2 - i; omega
        · exact ⟨hws, by omega, by omega, by omega⟩
    · have hi' : i = 2 := by omega
      subst hi'
      rw [Nat.sub_self, wLoop] at hw
      simp only at hw
      by_cases hv : v < ((128 : Nat) : Int) ∨ 1114111 < v ∨ (55296 ≤ v ∧ v ≤ 57343) ∨ v = 65533
      · rw [if_pos hv] at hw
        repeat' first | refine wr (by omega) ?_ | refine ln ?_ | refine stp lay_ok rfl ?_ | refine fin ?_ | refine n_thn ?_ | refine n_blk ?_ | refine e_thn ?_ | refine e_hit ?_ | refine e_miss rfl ?_ | refine r_thn ?_ | refine r_blk ?_ | refine e_rr ?_ | refine r_rr ?_ | refine e_cr ?_ | refine r_cr ?_ | refine .seq ?_ | refine reg ?_ | refine .block ?_ | refine .skip ?_ | refine .ret ?_ | refine .exit ?_ | refine cndT rfl ?_ | refine cndF rfl ?_ | refine c_dec rfl (fun hc => ?_) (fun hc => ?_) | refine c_ndec rfl (fun hc => ?_) (fun hc => ?_) | refine cnd rfl (fun hc => ?_) (fun hc => ?_) | refine gd rfl rfl rfl (fun hg => ?_) (fun hg => ?_) | refine gn rfl rfl rfl (fun hg => ?_) (fun hg => ?_)
        all_goals first
          | (exfalso; omega)
          | (refine f_r [] rfl trivial rfl ⟨?_, rfl⟩; rw [hw]; rfl)
      · rw [if_neg hv] at hw
        repeat' first | refine wr (by omega) ?_ | refine ln ?_ | refine stp lay_ok rfl ?_ | refine fin ?_ | refine n_thn ?_ | refine n_blk ?_ | refine e_thn ?_ | refine e_hit ?_ | refine e_miss rfl ?_ | refine r_thn ?_ | refine r_blk ?_ | refine e_rr ?_ | refine r_rr ?_ | refine e_cr ?_ | refine r_cr ?_ | refine .seq ?_ | refine reg ?_ | refine .block ?_ | refine .skip ?_ | refine .ret ?_ | refine .exit ?_ | refine cndT rfl ?_ | refine cndF rfl ?_ | refine c_dec rfl (fun hc => ?_) (fun hc => ?_) | refine c_ndec rfl (fun hc => ?_) (fun hc => ?_) | refine cnd rfl (fun hc => ?_) (fun hc => ?_) | refine gd rfl rfl rfl (fun hg => ?_) (fun hg => ?_) | refine gn rfl rfl rfl (fun hg => ?_) (fun hg => ?_)
        all_goals first
          | (exfalso; omega)
          | (refine f_r [] rfl trivial rfl ⟨?_, rfl⟩; rw [hw]; rfl)
  rw [if_neg h2] at hw
  by_cases h3 : 224 ≤ a.toNat ∧ a.toNat < 240
  · rw [if_pos h3] at hw
    repeat' first | refine wr (by omega) ?_ | refine ln ?_ | refine stp lay_ok rfl ?_ | refine fin ?_ | refine n_thn ?_ | refine n_blk ?_ | refine e_thn ?_ | refine e_hit ?_ | refine e_miss rfl ?_ | refine r_thn ?_ | refine r_blk ?_ | refine e_rr ?_ | refine r_rr ?_ | refine e_cr ?_ | refine r_cr ?_ | refine .seq ?_ | refine reg ?_ | refine .block ?_ | refine .skip ?_ | refine .ret ?_ | refine .exit ?_ | refine cndT rfl ?_ | refine cndF rfl ?_ | refine c_dec rfl (fun hc => ?_) (fun hc => ?_) | refine c_ndec rfl (fun hc => ?_) (fun hc => ?_) | refine cnd rfl (fun hc => ?_) (fun hc => ?_) | ((first | refine o_none rfl ?_ | refine o_none_ ?_ | refine o_yes rfl rfl rfl ?_ | refine o_yes_ rfl rfl ?_); first | refine st_indexStr a lay_ok rfl rfl rfl rfl (by omega) ha ?_) | refine gd rfl rfl rfl (fun hg => ?_) (fun hg => ?_) | refine gn rfl rfl rfl (fun hg => ?_) (fun hg => ?_)
    all_goals first
      | (exfalso; omega)
      | (refine f_r [] rfl trivial rfl ⟨?_, rfl⟩; rw [hw, wEnd, if_pos (by omega)]; rfl)
      | skip
    have hsz : ¬ s.size < p + 3 := by omega
    rw [wEnd, if_neg hsz] at hw
    generalize hK : wLoop s p (3 - 1) 1 ((a.toNat : Int) - 224) = K at hw
    refine lpR (fun (i, v) => K = wLoop s p (3 - i) i v ∧ (i = 1 ∧ v < 32 ∨ i = 2 ∧ v < 2048 ∨ i = 3 ∧ v < 131072 ∨ i = 4 ∧ v < 8388608) ∧ 0 ≤ v ∧ i ≤ 3) (fun (i, v) => 3 - i) (fun (i, v) => [(9, I i), (8, .st (.int .i64 v))]) (fun (i, v) => []) ((1, (a.toNat : Int) - 224)) [0, 1, 6, 7] [] [] rfl rfl rfl (.of [] (by (repeat' first | exact trivial | refine And.intro ?_ ?_ | rfl); first | done | fail) (by (repeat' first | exact trivial | refine And.intro ?_ ?_ | rfl); first | done | fail) rfl) ?_ ?_
    · exact ⟨hK.symm, by omega, by omega, by decide⟩
    rintro ⟨i, v⟩ ⟨g1, g2, g3, g4⟩
    refine nrm rfl rfl ?_
    rw [g1] at hw
    by_cases hi : i < 3
    · have hx := get_some (show p + i < s.size by omega)
      have hxl := (s.get! (p + i)).toNat_lt
      have hx' : s[((p : Int) + (i : Int)).toNat]? = some (s.get! (p + i)) := by rw [← hx]; congr 1
      rw [show 3 - i = (3 - (i + 1)) + 1 by omega, wLoop] at hw
      have hws := g1
      rw [show 3 - i = (3 - (i + 1)) + 1 by omega, wLoop] at hws
      generalize s.get! (p + i) = x at *
      by_cases hxx : x.toNat < 128 ∨ 191 < x.toNat
      · rw [if_pos hxx] at hw
        repeat' first | refine wr (by omega) ?_ | refine ln ?_ | refine stp lay_ok rfl ?_ | refine fin ?_ | refine n_thn ?_ | refine n_blk ?_ | refine e_thn ?_ | refine e_hit ?_ | refine e_miss rfl ?_ | refine r_thn ?_ | refine r_blk ?_ | refine e_rr ?_ | refine r_rr ?_ | refine e_cr ?_ | refine r_cr ?_ | refine .seq ?_ | refine reg ?_ | refine .block ?_ | refine .skip ?_ | refine .ret ?_ | refine .exit ?_ | refine cndT rfl ?_ | refine cndF rfl ?_ | refine c_dec rfl (fun hc => ?_) (fun hc => ?_) | refine c_ndec rfl (fun hc => ?_) (fun hc => ?_) | refine cnd rfl (fun hc => ?_) (fun hc => ?_) | ((first | refine o_none rfl ?_ | refine o_none_ ?_ | refine o_yes rfl rfl rfl ?_ | refine o_yes_ rfl rfl ?_); first | refine st_indexStr x lay_ok rfl rfl rfl rfl (by omega) hx' ?_) | refine gd rfl rfl rfl (fun hg => ?_) (fun hg => ?_) | refine gn rfl rfl rfl (fun hg => ?_) (fun hg => ?_)
        all_goals first
          | (exfalso; omega)
          | (refine f_r [] rfl trivial rfl ⟨?_, rfl⟩; rw [hw]; rfl)
      · rw [if_neg hxx] at hw hws
        repeat' first | refine wr (by omega) ?_ | refine ln ?_ | refine stp lay_ok rfl ?_ | refine fin ?_ | refine n_thn ?_ | refine n_blk ?_ | refine e_thn ?_ | refine e_hit ?_ | refine e_miss rfl ?_ | refine r_thn ?_ | refine r_blk ?_ | refine e_rr ?_ | refine r_rr ?_ | refine e_cr ?_ | refine r_cr ?_ | refine .seq ?_ | refine reg ?_ | refine .block ?_ | refine .skip ?_ | refine .ret ?_ | refine .exit ?_ | refine cndT rfl ?_ | refine cndF rfl ?_ | refine c_dec rfl (fun hc => ?_) (fun hc => ?_) | refine c_ndec rfl (fun hc => ?_) (fun hc => ?_) | refine cnd rfl (fun hc => ?_) (fun hc => ?_) | ((first | refine o_none rfl ?_ | refine o_none_ ?_ | refine o_yes rfl rfl rfl ?_ | refine o_yes_ rfl rfl ?_); first | refine st_indexStr x lay_ok rfl rfl rfl rfl (by omega) hx' ?_) | refine gd rfl rfl rfl (fun hg => ?_) (fun hg => ?_) | refine gn rfl rfl rfl (fun hg => ?_) (fun hg => ?_)
        all_goals first
          | (exfalso; omega)
          | skip
        refine n_rr ((i + 1, v * 64 + (x.toNat : Int) - 128)) ?_ (.of [] (by (repeat' first | exact trivial | refine And.intro ?_ ?_ | rfl); first | done | fail) (by (repeat' first | exact trivial | refine And.intro ?_ ?_ | rfl); first | done | fail) rfl) ?_
        · show 3 - (i + 1) < 3 - i; omega
        · exact ⟨hws, by omega, by omega, by omega⟩
    · have hi' : i = 3 := by omega
      subst hi'
      rw [Nat.sub_self, wLoop] at hw
      simp only at hw
      by_cases hv : v < ((2048 : Nat) : Int) ∨ 1114111 < v ∨ (55296 ≤ v ∧ v ≤ 57343) ∨ v = 65533
      · rw [if_pos hv] at hw
        repeat' first | refine wr (by omega) ?_ | refine ln ?_ | refine stp lay_ok rfl ?_ | refine fin ?_ | refine n_thn ?_ | refine n_blk ?_ | refine e_thn ?_ | refine e_hit ?_ | refine e_miss rfl ?_ | refine r_thn ?_ | refine r_blk ?_ | refine e_rr ?_ | refine r_rr ?_ | refine e_cr ?_ | refine r_cr ?_ | refine .seq ?_ | refine reg ?_ | refine .block ?_ | refine .skip ?_ | refine .ret ?_ | refine .exit ?_ | refine cndT rfl ?_ | refine cndF rfl ?_ | refine c_dec rfl (fun hc => ?_) (fun hc => ?_) | refine c_ndec rfl (fun hc => ?_) (fun hc => ?_) | refine cnd rfl (fun hc => ?_) (fun hc => ?_) | refine gd rfl rfl rfl (fun hg => ?_) (fun hg => ?_) | refine gn rfl rfl rfl (fun hg => ?_) (fun hg => ?_)
        all_goals first
          | (exfalso; omega)
          | (refine f_r [] rfl trivial rfl ⟨?_, rfl⟩; rw [hw]; rfl)
      · rw [if_neg hv] at hw
        repeat' first | refine wr (by omega) ?_ | refine ln ?_ | refine stp lay_ok rfl ?_ | refine fin ?_ | refine n_thn ?_ | refine n_blk ?_ | refine e_thn ?_ | refine e_hit ?_ | refine e_miss rfl ?_ | refine r_thn ?_ | refine r_blk ?_ | refine e_rr ?_ | refine r_rr ?_ | refine e_cr ?_ | refine r_cr ?_ | refine .seq ?_ | refine reg ?_ | refine .block ?_ | refine .skip ?_ | refine .ret ?_ | refine .exit ?_ | refine cndT rfl ?_ | refine cndF rfl ?_ | refine c_dec rfl (fun hc => ?_) (fun hc => ?_) | refine c_ndec rfl (fun hc => ?_) (fun hc => ?_) | refine cnd rfl (fun hc => ?_) (fun hc => ?_) | refine gd rfl rfl rfl (fun hg => ?_) (fun hg => ?_) | refine gn rfl rfl rfl (fun hg => ?_) (fun hg => ?_)
        all_goals first
          | (exfalso; omega)
          | (refine f_r [] rfl trivial rfl ⟨?_, rfl⟩; rw [hw]; rfl)
  rw [if_neg h3] at hw
  by_cases h4 : 240 ≤ a.toNat ∧ a.toNat < 248
  · rw [if_pos h4] at hw
    repeat' first | refine wr (by omega) ?_ | refine ln ?_ | refine stp lay_ok rfl ?_ | refine fin ?_ | refine n_thn ?_ | refine n_blk ?_ | refine e_thn ?_ | refine e_hit ?_ | refine e_miss rfl ?_ | refine r_thn ?_ | refine r_blk ?_ | refine e_rr ?_ | refine r_rr ?_ | refine e_cr ?_ | refine r_cr ?_ | refine .seq ?_ | refine reg ?_ | refine .block ?_ | refine .skip ?_ | refine .ret ?_ | refine .exit ?_ | refine cndT rfl ?_ | refine cndF rfl ?_ | refine c_dec rfl (fun hc => ?_) (fun hc => ?_) | refine c_ndec rfl (fun hc => ?_) (fun hc => ?_) | refine cnd rfl (fun hc => ?_) (fun hc => ?_) | ((first | refine o_none rfl ?_ | refine o_none_ ?_ | refine o_yes rfl rfl rfl ?_ | refine o_yes_ rfl rfl ?_); first | refine st_indexStr a lay_ok rfl rfl rfl rfl (by omega) ha ?_) | refine gd rfl rfl rfl (fun hg => ?_) (fun hg => ?_) | refine gn rfl rfl rfl (fun hg => ?_) (fun hg => ?_)
    all_goals first
      | (exfalso; omega)
      | (refine f_r [] rfl trivial rfl ⟨?_, rfl⟩; rw [hw, wEnd, if_pos (by omega)]; rfl)
      | skip
    have hsz : ¬ s.size < p + 4 := by omega
    rw [wEnd, if_neg hsz] at hw
    generalize hK : wLoop s p (4 - 1) 1 ((a.toNat : Int) - 240) = K at hw
    refine lpR (fun (i, v) => K = wLoop s p (4 - i) i v ∧ (i = 1 ∧ v < 32 ∨ i = 2 ∧ v < 2048 ∨ i = 3 ∧ v < 131072 ∨ i = 4 ∧ v < 8388608) ∧ 0 ≤ v ∧ i ≤ 4) (fun (i, v) => 4 - i) (fun (i, v) => [(9, I i), (8, .st (.int .i64 v))]) (fun (i, v) => []) ((1, (a.toNat : Int) - 240)) [0, 1, 6, 7] [] [] rfl rfl rfl (.of [] (by (repeat' first | exact trivial | refine And.intro ?_ ?_ | rfl); first | done | fail) (by (repeat' first | exact trivial | refine And.intro ?_ ?_ | rfl); first | done | fail) rfl) ?_ ?_
    · exact ⟨hK.symm, by omega, by omega, by decide⟩
    rintro ⟨i, v⟩ ⟨g1, g2, g3, g4⟩
    refine nrm rfl rfl ?_
    rw [g1] at hw
    by_cases hi : i < 4
    · have hx := get_some (show p + i < s.size by omega)
      have hxl := (s.get! (p + i)).toNat_lt
      have hx' : s[((p : Int) + (i : Int)).toNat]? = some (s.get! (p + i)) := by rw [← hx]; congr 1
      rw [show 4 - i = (4 - (i + 1)) + 1 by omega, wLoop] at hw
      have hws := g1
      rw [show 4 - i = (4 - (i + 1)) + 1 by omega, wLoop] at hws
      generalize s.get! (p + i) = x at *
      by_cases hxx : x.toNat < 128 ∨ 191 < x.toNat
      · rw [if_pos hxx] at hw
        repeat' first | refine wr (by omega) ?_ | refine ln ?_ | refine stp lay_ok rfl ?_ | refine fin ?_ | refine n_thn ?_ | refine n_blk ?_ | refine e_thn ?_ | refine e_hit ?_ | refine e_miss rfl ?_ | refine r_thn ?_ | refine r_blk ?_ | refine e_rr ?_ | refine r_rr ?_ | refine e_cr ?_ | refine r_cr ?_ | refine .seq ?_ | refine reg ?_ | refine .block ?_ | refine .skip ?_ | refine .ret ?_ | refine .exit ?_ | refine cndT rfl ?_ | refine cndF rfl ?_ | refine c_dec rfl (fun hc => ?_) (fun hc => ?_) | refine c_ndec rfl (fun hc => ?_) (fun hc => ?_) | refine cnd rfl (fun hc => ?_) (fun hc => ?_) | ((first | refine o_none rfl ?_ | refine o_none_ ?_ | refine o_yes rfl rfl rfl ?_ | refine o_yes_ rfl rfl ?_); first | refine st_indexStr x lay_ok rfl rfl rfl rfl (by omega) hx' ?_) | refine gd rfl rfl rfl (fun hg => ?_) (fun hg => ?_) | refine gn rfl rfl rfl (fun hg => ?_) (fun hg => ?_)
        all_goals first
          | (exfalso; omega)
          | (refine f_r [] rfl trivial rfl ⟨?_, rfl⟩; rw [hw]; rfl)
      · rw [if_neg hxx] at hw hws
        repeat' first | refine wr (by omega) ?_ | refine ln ?_ | refine stp lay_ok rfl ?_ | refine fin ?_ | refine n_thn ?_ | refine n_blk ?_ | refine e_thn ?_ | refine e_hit ?_ | refine e_miss rfl ?_ | refine r_thn ?_ | refine r_blk ?_ | refine e_rr ?_ | refine r_rr ?_ | refine e_cr ?_ | refine r_cr ?_ | refine .seq ?_ | refine reg ?_ | refine .block ?_ | refine .skip ?_ | refine .ret ?_ | refine .exit ?_ | refine cndT rfl ?_ | refine cndF rfl ?_ | refine c_dec rfl (fun hc => ?_) (fun hc => ?_) | refine c_ndec rfl (fun hc => ?_) (fun hc => ?_) | refine cnd rfl (fun hc => ?_) (fun hc => ?_) | ((first | refine o_none rfl ?_ | refine o_none_ ?_ | refine o_yes rfl rfl rfl ?_ | refine o_yes_ rfl rfl ?_); first | refine st_indexStr x lay_ok rfl rfl rfl rfl (by omega) hx' ?_) | refine gd rfl rfl rfl (fun hg => ?_) (fun hg => ?_) | refine gn rfl rfl rfl (fun hg => ?_) (fun hg => ?_)
        all_goals first
          | (exfalso; omega)
          | skip
        refine n_rr ((i + 1, v * 64 + (x.toNat : Int) - 128)) ?_ (.of [] (by (repeat' first | exact trivial | refine And.intro ?_ ?_ | rfl); first | done | fail) (by (repeat' first | exact trivial | refine And.intro ?_ ?_ | rfl); first | done | fail) rfl) ?_
        · show 4 - (i + 1) < 4 - i; omega
        · exact ⟨hws, by omega, by omega, by omega⟩
    · have hi' : i = 4 := by omega
      subst hi'
      rw [Nat.sub_self, wLoop] at hw
      simp only at hw
      by_cases hv : v < ((65536 : Nat) : Int) ∨ 1114111 < v ∨ (55296 ≤ v ∧ v ≤ 57343) ∨ v = 65533
      · rw [if_pos hv] at hw
        repeat' first | refine wr (by omega) ?_ | refine ln ?_ | refine stp lay_ok rfl ?_ | refine fin ?_ | refine n_thn ?_ | refine n_blk ?_ | refine e_thn ?_ | refine e_hit ?_ | refine e_miss rfl ?_ | refine r_thn ?_ | refine r_blk ?_ | refine e_rr ?_ | refine r_rr ?_ | refine e_cr ?_ | refine r_cr ?_ | refine .seq ?_ | refine reg ?_ | refine .block ?_ | refine .skip ?_ | refine .ret ?_ | refine .exit ?_ | refine cndT rfl ?_ | refine cndF rfl ?_ | refine c_dec rfl (fun hc => ?_) (fun hc => ?_) | refine c_ndec rfl (fun hc => ?_) (fun hc => ?_) | refine cnd rfl (fun hc => ?_) (fun hc => ?_) | refine gd rfl rfl rfl (fun hg => ?_) (fun hg => ?_) | refine gn rfl rfl rfl (fun hg => ?_) (fun hg => ?_)
        all_goals first
          | (exfalso; omega)
          | (refine f_r [] rfl trivial rfl ⟨?_, rfl⟩; rw [hw]; rfl)
      · rw [if_neg hv] at hw
        repeat' first | refine wr (by omega) ?_ | refine ln ?_ | refine stp lay_ok rfl ?_ | refine fin ?_ | refine n_thn ?_ | refine n_blk ?_ | refine e_thn ?_ | refine e_hit ?_ | refine e_miss rfl ?_ | refine r_thn ?_ | refine r_blk ?_ | refine e_rr ?_ | refine r_rr ?_ | refine e_cr ?_ | refine r_cr ?_ | refine .seq ?_ | refine reg ?_ | refine .block ?_ | refine .skip ?_ | refine .ret ?_ | refine .exit ?_ | refine cndT rfl ?_ | refine cndF rfl ?_ | refine c_dec rfl (fun hc => ?_) (fun hc => ?_) | refine c_ndec rfl (fun hc => ?_) (fun hc => ?_) | refine cnd rfl (fun hc => ?_) (fun hc => ?_) | refine gd rfl rfl rfl (fun hg => ?_) (fun hg => ?_) | refine gn rfl rfl rfl (fun hg => ?_) (fun hg => ?_)
        all_goals first
          | (exfalso; omega)
          | (refine f_r [] rfl trivial rfl ⟨?_, rfl⟩; rw [hw]; rfl)
  rw [if_neg h4] at hw
  repeat' first | refine wr (by omega) ?_ | refine ln ?_ | refine stp lay_ok rfl ?_ | refine fin ?_ | refine n_thn ?_ | refine n_blk ?_ | refine e_thn ?_ | refine e_hit ?_ | refine e_miss rfl ?_ | refine r_thn ?_ | refine r_blk ?_ | refine e_rr ?_ | refine r_rr ?_ | refine e_cr ?_ | refine r_cr ?_ | refine .seq ?_ | refine reg ?_ | refine .block ?_ | refine .skip ?_ | refine .ret ?_ | refine .exit ?_ | refine cndT rfl ?_ | refine cndF rfl ?_ | refine c_dec rfl (fun hc => ?_) (fun hc => ?_) | refine c_ndec rfl (fun hc => ?_) (fun hc => ?_) | refine cnd rfl (fun hc => ?_) (fun hc => ?_) | ((first | refine o_none rfl ?_ | refine o_none_ ?_ | refine o_yes rfl rfl rfl ?_ | refine o_yes_ rfl rfl ?_); first | refine st_indexStr a lay_ok rfl rfl rfl rfl (by omega) ha ?_) | refine gd rfl rfl rfl (fun hg => ?_) (fun hg => ?_) | refine gn rfl rfl rfl (fun hg => ?_) (fun hg => ?_)
  all_goals first
    | (exfalso; omega)
    | (refine f_r [] rfl trivial rfl ⟨?_, rfl⟩; rw [hw]; rfl)
end Go.Proofs.YtmekcbbieacioaaGreatDoorFn
namespace Go.Proofs.YtmekcbbieacioaaGreatDoorFn
open Go.Proofs.YtmekcbbieacioaaGreatDoorAl Go.Proofs.Tryz
/-! ### a character's bytes, read in two ways -/
def plainB (c : Nat) : Bool := decide (97 ≤ c ∧ c ≤ 122) || decide (48 ≤ c ∧ c ≤ 57) || decide (c = 95) || decide (c = 45) || decide (c = 46)
def okW (s : ByteArray) (p : Nat) : Bool := decide (1 < widthR s p) || (decide (widthR s p = 1) && plainB (s.get! p).toNat)
theorem mayR_hi {c : Nat} (h : 128 ≤ c) : mayR c = decide (c ≠ 65533) := by
  rw [Bool.eq_iff_iff]; simp only [mayR, Bool.or_eq_true, decide_eq_true_eq]; omega
theorem mayR_lo {c : Nat} (h : c < 128) : mayR c = plainB c := by
  rw [Bool.eq_iff_iff]; simp only [mayR, plainB, Bool.or_eq_true, decide_eq_true_eq]; omega
theorem dec_eq (s : ByteArray) (p : Nat) : Utf8.decode s p =
    if (s.get! p).toNat < 128 then ((s.get! p).toNat, 1)
    else if (s.get! p).toNat / 32 = 6 ∧ p + 1 < s.size ∧ (s.get! (p + 1)).toNat / 64 = 2 then
      if 128 ≤ ((s.get! p).toNat % 32) * 64 + (s.get! (p + 1)).toNat % 64 then (((s.get! p).toNat % 32) * 64 + (s.get! (p + 1)).toNat % 64, 2) else (65533, 1)
    else if (s.get! p).toNat / 16 = 14 ∧ (p + 1 < s.size ∧ (s.get! (p + 1)).toNat / 64 = 2) ∧ p + 2 < s.size ∧ (s.get! (p + 2)).toNat / 64 = 2 then
      if 2048 ≤ ((s.get! p).toNat % 16) * 4096 + ((s.get! (p + 1)).toNat % 64) * 64 + (s.get! (p + 2)).toNat % 64 ∧ Utf8.valid (((s.get! p).toNat % 16) * 4096 + ((s.get! (p + 1)).toNat % 64) * 64 + (s.get! (p + 2)).toNat % 64 : Nat) = true then (((s.get! p).toNat % 16) * 4096 + ((s.get! (p + 1)).toNat % 64) * 64 + (s.get! (p + 2)).toNat % 64, 3) else (65533, 1)
    else if (s.get! p).toNat / 8 = 30 ∧ (p + 1 < s.size ∧ (s.get! (p + 1)).toNat / 64 = 2) ∧ (p + 2 < s.size ∧ (s.get! (p + 2)).toNat / 64 = 2) ∧ p + 3 < s.size ∧ (s.get! (p + 3)).toNat / 64 = 2 then
      if 65536 ≤ ((s.get! p).toNat % 8) * 262144 + ((s.get! (p + 1)).toNat % 64) * 4096 + ((s.get! (p + 2)).toNat % 64) * 64 + (s.get! (p + 3)).toNat % 64 ∧ Utf8.valid (((s.get! p).toNat % 8) * 262144 + ((s.get! (p + 1)).toNat % 64) * 4096 + ((s.get! (p + 2)).toNat % 64) * 64 + (s.get! (p + 3)).toNat % 64 : Nat) = true then (((s.get! p).toNat % 8) * 262144 + ((s.get! (p + 1)).toNat % 64) * 4096 + ((s.get! (p + 2)).toNat % 64) * 64 + (s.get! (p + 3)).toNat % 64, 4) else (65533, 1)
    else (65533, 1) := by
  unfold Utf8.decode
  simp only [Bool.and_eq_true, decide_eq_true_eq, beq_iff_eq, Nat.add_zero, ge_iff_le, and_assoc]
  rfl
theorem valid_iff (c : Nat) : Utf8.valid (c : Int) = true ↔ c < 55296 ∨ (57344 ≤ c ∧ c ≤ 1114111) := by
  simp only [Utf8.valid, Bool.or_eq_true, Bool.and_eq_true, decide_eq_true_eq]; omega
theorem wid_law (s : ByteArray) (p : Nat) (hp : p < s.size) :
    (mayR (Utf8.decode s p).1 = true ∧ okW s p = true ∧ widthR s p = (Utf8.decode s p).2) ∨ (mayR (Utf8.decode s p).1 = false ∧ okW s p = false) := by
  have hd := dec_eq s p
  simp only [valid_iff] at hd
  have hw : widthR s p = if (s.get! p).toNat < 128 then 1
    else if 192 ≤ (s.get! p).toNat ∧ (s.get! p).toNat < 224 then wEnd s p 2 128 (((s.get! p).toNat : Int) - 192)
    else if 224 ≤ (s.get! p).toNat ∧ (s.get! p).toNat < 240 then wEnd s p 3 2048 (((s.get! p).toNat : Int) - 224)
    else if 240 ≤ (s.get! p).toNat ∧ (s.get! p).toNat < 248 then wEnd s p 4 65536 (((s.get! p).toNat : Int) - 240)
    else 0 := rfl
  have ho : okW s p = (decide (1 < widthR s p) || (decide (widthR s p = 1) && plainB (s.get! p).toNat)) := rfl
  have e2 : ∀ v, wEnd s p 2 128 v = if s.size < p + 2 then 0 else match wLoop s p 1 1 v with
    | none => 0
    | some v => if v < ((128 : Nat) : Int) ∨ 1114111 < v ∨ (55296 ≤ v ∧ v ≤ 57343) ∨ v = 65533 then 0 else 2 := fun v => rfl
  have e3 : ∀ v, wEnd s p 3 2048 v = if s.size < p + 3 then 0 else match wLoop s p 2 1 v with
    | none => 0
    | some v => if v < ((2048 : Nat) : Int) ∨ 1114111 < v ∨ (55296 ≤ v ∧ v ≤ 57343) ∨ v = 65533 then 0 else 3 := fun v => rfl
  have e4 : ∀ v, wEnd s p 4 65536 v = if s.size < p + 4 then 0 else match wLoop s p 3 1 v with
    | none => 0
    | some v => if v < ((65536 : Nat) : Int) ∨ 1114111 < v ∨ (55296 ≤ v ∧ v ≤ 57343) ∨ v = 65533 then 0 else 4 := fun v => rfl
  simp only [wLoop] at e2 e3 e4
  simp only [e2, e3, e4] at hw
  clear e2 e3 e4
  have b0 := (s.get! p).toNat_lt
  have b1 := (s.get! (p + 1)).toNat_lt
  have b2 := (s.get! (p + 2)).toNat_lt
  have b3 := (s.get! (p + 3)).toNat_lt
  simp only [show p + (1 + 1) = p + 2 from rfl, show p + (1 + 1 + 1) = p + 3 from rfl] at hw
  generalize (s.get! p).toNat = x0 at *
  generalize (s.get! (p + 1)).toNat = x1 at *
  generalize (s.get! (p + 2)).toNat = x2 at *
  generalize (s.get! (p + 3)).toNat = x3 at *
  generalize Utf8.decode s p = D at *
  generalize widthR s p = W at *
  generalize okW s p = O at *
  have hm : mayR 65533 = false := by decide
  by_cases h1 : x0 < 128
  · rw [if_pos h1] at hd hw
    subst hd; subst hw; subst ho
    simp only [mayR_lo h1]
    cases plainB x0 <;> simp
  rw [if_neg h1] at hd hw
  by_cases h2 : 192 ≤ x0 ∧ x0 < 224
  · rw [if_pos h2] at hw
    rw [if_neg (show ¬ (x0 / 16 = 14 ∧ _) by omega), if_neg (show ¬ (x0 / 8 = 30 ∧ _) by omega)] at hd
    by_cases hs : s.size < p + 2
    · rw [if_neg (by omega)] at hd
      rw [if_pos hs] at hw
      subst hd; subst hw; subst ho; right; exact ⟨hm, by simp⟩
    · rw [if_neg hs] at hw
      by_cases hx : x1 < 128 ∨ 191 < x1
      · rw [if_neg (by omega)] at hd
        rw [if_pos hx] at hw
        subst hd; subst hw; subst ho; right; exact ⟨hm, by simp⟩
      · rw [if_pos (by omega)] at hd
        rw [if_neg hx] at hw
        simp only at hw
        by_cases hv : 128 ≤ x0 % 32 * 64 + x1 % 64
        · rw [if_pos hv] at hd
          rw [if_neg (by omega)] at hw
          subst hd; subst hw; subst ho; left
          refine ⟨?_, by simp, rfl⟩
          rw [mayR_hi hv, decide_eq_true_eq]; omega
        · rw [if_neg hv] at hd
          rw [if_pos (by omega)] at hw
          subst hd; subst hw; subst ho; right; exact ⟨hm, by simp⟩
  rw [if_neg h2] at hw
  rw [if_neg (show ¬ (x0 / 32 = 6 ∧ _) by omega)] at hd
  by_cases h3 : 224 ≤ x0 ∧ x0 < 240
  · rw [if_pos h3] at hw
    rw [if_neg (show ¬ (x0 / 8 = 30 ∧ _) by omega)] at hd
    by_cases hs : s.size < p + 3
    · rw [if_neg (by omega)] at hd
      rw [if_pos hs] at hw
      subst hd; subst hw; subst ho; right; exact ⟨hm, by simp⟩
    · rw [if_neg hs] at hw
      by_cases hx : x1 < 128 ∨ 191 < x1
      · rw [if_neg (by omega)] at hd
        rw [if_pos hx] at hw
        subst hd; subst hw; subst ho; right; exact ⟨hm, by simp⟩
      rw [if_neg hx] at hw
      by_cases hy : x2 < 128 ∨ 191 < x2
      · rw [if_neg (by omega)] at hd
        rw [if_pos hy] at hw
        subst hd; subst hw; subst ho; right; exact ⟨hm, by simp⟩
      · rw [if_pos (by omega)] at hd
        rw [if_neg hy] at hw
        simp only at hw
        by_cases hv : 2048 ≤ x0 % 16 * 4096 + x1 % 64 * 64 + x2 % 64 ∧ (x0 % 16 * 4096 + x1 % 64 * 64 + x2 % 64 < 55296 ∨ 57344 ≤ x0 % 16 * 4096 + x1 % 64 * 64 + x2 % 64 ∧ x0 % 16 * 4096 + x1 % 64 * 64 + x2 % 64 ≤ 1114111)
        · rw [if_pos hv] at hd
          by_cases hf : x0 % 16 * 4096 + x1 % 64 * 64 + x2 % 64 = 65533
          · rw [if_pos (by omega)] at hw
            subst hd; subst hw; subst ho; right
            exact ⟨by rw [hf]; exact hm, by simp⟩
          · rw [if_neg (by omega)] at hw
            subst hd; subst hw; subst ho; left
            refine ⟨?_, by simp, rfl⟩
            rw [mayR_hi (by omega), decide_eq_true_eq]; exact hf
        · rw [if_neg hv] at hd
          rw [if_pos (by omega)] at hw
          subst hd; subst hw; subst ho; right; exact ⟨hm, by simp⟩
  rw [if_neg h3] at hw
  rw [if_neg (show ¬ (x0 / 16 = 14 ∧ _) by omega)] at hd
  by_cases h4 : 240 ≤ x0 ∧ x0 < 248
  · rw [if_pos h4] at hw
    by_cases hs : s.size < p + 4
    · rw [if_neg (by omega)] at hd
      rw [if_pos hs] at hw
      subst hd; subst hw; subst ho; right; exact ⟨hm, by simp⟩
    · rw [if_neg hs] at hw
      by_cases hx : x1 < 128 ∨ 191 < x1
      · rw [if_neg (by omega)] at hd
        rw [if_pos hx] at hw
        subst hd; subst hw; subst ho; right; exact ⟨hm, by simp⟩
      rw [if_neg hx] at hw
      by_cases hy : x2 < 128 ∨ 191 < x2
      · rw [if_neg (by omega)] at hd
        rw [if_pos hy] at hw
        subst hd; subst hw; subst ho; right; exact ⟨hm, by simp⟩
      rw [if_neg hy] at hw
      by_cases hz : x3 < 128 ∨ 191 < x3
      · rw [if_neg (by omega)] at hd
        rw [if_pos hz] at hw
        subst hd; subst hw; subst ho; right; exact ⟨hm, by simp⟩
      · rw [if_pos (by omega)] at hd
        rw [if_neg hz] at hw
        simp only at hw
        by_cases hv : 65536 ≤ x0 % 8 * 262144 + x1 % 64 * 4096 + x2 % 64 * 64 + x3 % 64 ∧ (x0 % 8 * 262144 + x1 % 64 * 4096 + x2 % 64 * 64 + x3 % 64 < 55296 ∨ 57344 ≤ x0 % 8 * 262144 + x1 % 64 * 4096 + x2 % 64 * 64 + x3 % 64 ∧ x0 % 8 * 262144 + x1 % 64 * 4096 + x2 % 64 * 64 + x3 % 64 ≤ 1114111)
        · rw [if_pos hv] at hd
          rw [if_neg (by omega)] at hw
          subst hd; subst hw; subst ho; left
          refine ⟨?_, by simp, rfl⟩
          rw [mayR_hi (by omega), decide_eq_true_eq]; omega
        · rw [if_neg hv] at hd
          rw [if_pos (by omega)] at hw
          subst hd; subst hw; subst ho; right; exact ⟨hm, by simp⟩
  · rw [if_neg h4] at hw
    rw [if_neg (by omega)] at hd
    subst hd; subst hw; subst ho; right; exact ⟨hm, by simp⟩
end Go.Proofs.YtmekcbbieacioaaGreatDoorFn
namespace Go.Proofs.YtmekcbbieacioaaGreatDoorFn
open Go.Proofs.YtmekcbbieacioaaGreatDoorAl Go.Proofs.Tryz
attribute [local irreducible] IntKind.wrap CodeOk OpsL OpG ACalls thn inBlk rndR cutR WkR Wk fnR DW ExtOk partsOf
theorem b62 : HasBody prog 62 := ⟨f62, func62, Option.some_ne_none _, by decide⟩
theorem b61 : HasBody prog 61 := ⟨f61, func61, Option.some_ne_none _, by decide⟩
theorem b36 : HasBody prog 36 := ⟨f36, func36, Option.some_ne_none _, by decide⟩
theorem b45 : HasBody prog 45 := ⟨f45, func45, Option.some_ne_none _, by decide⟩
set_option maxRecDepth 4000 in
theorem plain_ok (c : UInt8) : ACalls prog 105 0 [.st (.int .u8 (c.toNat : Int))] [] fun r h => r = B (plainB c.toNat) ∧ h = [] := by
  refine fnC lay_ok func105 rfl rfl rfl rfl rfl ?_
  repeat' first | refine wr (by omega) ?_ | refine ln ?_ | refine stp lay_ok rfl ?_ | refine fin ?_ | refine n_thn ?_ | refine n_blk ?_ | refine e_thn ?_ | refine e_hit ?_ | refine e_miss rfl ?_ | refine r_thn ?_ | refine r_blk ?_ | refine e_rr ?_ | refine r_rr ?_ | refine e_cr ?_ | refine r_cr ?_ | refine .seq ?_ | refine reg ?_ | refine .block ?_ | refine .skip ?_ | refine .ret ?_ | refine .exit ?_ | refine cndT rfl ?_ | refine cndF rfl ?_ | refine c_dec rfl (fun hc => ?_) (fun hc => ?_) | refine c_ndec rfl (fun hc => ?_) (fun hc => ?_) | refine cnd rfl (fun hc => ?_) (fun hc => ?_) | refine gd rfl rfl rfl (fun hg => ?_) (fun hg => ?_) | refine gn rfl rfl rfl (fun hg => ?_) (fun hg => ?_)
  all_goals
    refine f_r [] rfl trivial rfl ⟨?_, rfl⟩
    simp only [retOf, B, AV.st.injEq, SV.bool.injEq, plainB]
    first
      | (symm; simp; omega)
      | (rw [Bool.eq_iff_iff]; simp; omega)
set_option maxHeartbeats 4000000 in
set_option maxRecDepth 4000 in
theorem refPart_ok (s : ByteArray) (hs : s.size ≤ 4000000000) : ACalls prog 88 0 [Sx s] [] fun r h => r = B (partOk s) ∧ h = [] := by
  refine fnC lay_ok func88 rfl rfl rfl rfl rfl ?_
  repeat' first | refine wr (by omega) ?_ | refine ln ?_ | refine stp lay_ok rfl ?_ | refine fin ?_ | refine n_thn ?_ | refine n_blk ?_ | refine e_thn ?_ | refine e_hit ?_ | refine e_miss rfl ?_ | refine r_thn ?_ | refine r_blk ?_ | refine e_rr ?_ | refine r_rr ?_ | refine e_cr ?_ | refine r_cr ?_ | refine .seq ?_ | refine reg ?_ | refine .block ?_ | refine .skip ?_ | refine .ret ?_ | refine .exit ?_ | refine cndT rfl ?_ | refine cndF rfl ?_ | refine c_dec rfl (fun hc => ?_) (fun hc => ?_) | refine c_ndec rfl (fun hc => ?_) (fun hc => ?_) | refine cnd rfl (fun hc => ?_) (fun hc => ?_) | refine gd rfl rfl rfl (fun hg => ?_) (fun hg => ?_) | refine gn rfl rfl rfl (fun hg => ?_) (fun hg => ?_)
  refine lpR (fun (p, n, f) => n + f = s.size + 1 ∧ s.size + 1 ≤ p + f ∧ n ≤ p ∧ p ≤ s.size ∧ runs s (s.size + 1) 0 = (runs s f p).map (· + n)) (fun (p, n, f) => f) (fun (p, n, f) => [(3, I (n : Int)), (4, I (p : Int))]) (fun (p, n, f) => []) ((0, 0, s.size + 1)) [0] [] [] rfl rfl rfl (.of [] (by (repeat' first | exact trivial | refine And.intro ?_ ?_ | rfl); first | done | fail) (by (repeat' first | exact trivial | refine And.intro ?_ ?_ | rfl); first | done | fail) rfl) ?_ ?_
  · refine ⟨by omega, by omega, Nat.le_refl _, Nat.zero_le _, ?_⟩
    simp
  · rintro ⟨p, n, f⟩ ⟨hf, hpf, hnp, hps, hr⟩
    refine nrm rfl rfl ?_
    by_cases hp : p < s.size
    · obtain ⟨f', rfl⟩ : ∃ f', f = f' + 1 := ⟨f - 1, by omega⟩
      have hw := width_ok s p hs hp
      have hrun : runs s (f' + 1) p = if mayR (Utf8.decode s p).1 then (runs s f' (p + (Utf8.decode s p).2)).map (· + 1) else none := by rw [runs, if_pos hp]
      have hx := get_some hp
      have hpl := plain_ok (s.get! p)
      have hl := wid_law s p hp
      have hle : p + widthR s p ≤ s.size := by
        have : ∀ n l v, wEnd s p n l v = 0 ∨ p + wEnd s p n l v ≤ s.size := by
          intro n l v
          unfold wEnd
          split
          · exact .inl rfl
          · split
            · exact .inl rfl
            · split
              · exact .inl rfl
              · right; omega
        unfold widthR
        split
        · omega
        split
        · rcases this 2 128 (((s.get! p).toNat : Int) - 192) with h | h <;> omega
        split
        · rcases this 3 2048 (((s.get! p).toNat : Int) - 224) with h | h <;> omega
        split
        · rcases this 4 65536 (((s.get! p).toNat : Int) - 240) with h | h <;> omega
        · omega
      have ho : okW s p = (decide (1 < widthR s p) || (decide (widthR s p = 1) && plainB (s.get! p).toNat)) := rfl
      have hw1 := decode_pos s p
      generalize okW s p = O at *
      generalize widthR s p = w at *
      generalize s.get! p = x at *
      generalize (Utf8.decode s p).1 = c at *
      generalize (Utf8.decode s p).2 = w' at *
      rcases hl with ⟨h1, rfl, rfl⟩ | ⟨h1, rfl⟩
      · rw [h1, if_pos rfl] at hrun
        cases hb : plainB x.toNat <;> rw [hb] at hpl ho
        all_goals
          have ho2 : 1 < w ∨ (w = 1 ∧ plainB x.toNat = true) := by
            rw [hb]; simpa using ho
          repeat' first | refine wr (by omega) ?_ | refine ln ?_ | refine stp lay_ok rfl ?_ | refine fin ?_ | refine n_thn ?_ | refine n_blk ?_ | refine e_thn ?_ | refine e_hit ?_ | refine e_miss rfl ?_ | refine r_thn ?_ | refine r_blk ?_ | refine e_rr ?_ | refine r_rr ?_ | refine e_cr ?_ | refine r_cr ?_ | refine .seq ?_ | refine reg ?_ | refine .block ?_ | refine .skip ?_ | refine .ret ?_ | refine .exit ?_ | refine cndT rfl ?_ | refine cndF rfl ?_ | refine c_dec rfl (fun hc => ?_) (fun hc => ?_) | refine c_ndec rfl (fun hc => ?_) (fun hc => ?_) | refine cnd rfl (fun hc => ?_) (fun hc => ?_) | ((first | refine o_none rfl ?_ | refine o_none_ ?_ | refine o_yes rfl rfl rfl ?_ | refine o_yes_ rfl rfl ?_); first | refine st_pure (hw) b104 rfl rfl rfl rfl ?_ | refine st_indexStr x lay_ok rfl rfl rfl rfl (by omega) hx ?_ | refine st_pure (hpl) b105 rfl rfl rfl rfl ?_) | refine gd rfl rfl rfl (fun hg => ?_) (fun hg => ?_) | refine gn rfl rfl rfl (fun hg => ?_) (fun hg => ?_)
          all_goals first
            | (exfalso; omega)
            | (exfalso; rw [hb] at ho2; simp at ho2; omega)
            | (refine n_rr ((p + w, n + 1, f')) ?_ (.of [] (by (repeat' first | exact trivial | refine And.intro ?_ ?_ | rfl); first | done | fail) (by (repeat' first | exact trivial | refine And.intro ?_ ?_ | rfl); first | done | fail) rfl) ?_
               · exact Nat.lt_succ_self _
               · refine ⟨by omega, by omega, by omega, by omega, ?_⟩
                 rw [hr, hrun]
                 cases runs s f' (p + w) with
                 | none => rfl
                 | some k => simp only [Option.map_some]; congr 1; omega)
      · have hrun2 : runs s (f' + 1) p = none := by rw [hrun, h1, if_neg (by simp)]
        have hpo : partOk s = false := by unfold partOk; rw [hr, hrun2]; rfl
        cases hb : plainB x.toNat <;> rw [hb] at hpl ho
        all_goals
          have ho2 : ¬ 1 < w ∧ ¬ (w = 1 ∧ plainB x.toNat = true) := by
            rw [hb]
            have := ho.symm
            simp only [Bool.or_eq_false_iff, Bool.and_eq_false_iff, decide_eq_false_iff_not] at this
            refine ⟨this.1, fun h => ?_⟩
            rcases this.2 with h3 | h3
            · exact h3 h.1
            · first
              | (cases h3; done)
              | (exact absurd h.2 (by decide))
              | simp_all
          rw [hb] at ho2
          repeat' first | refine wr (by omega) ?_ | refine ln ?_ | refine stp lay_ok rfl ?_ | refine fin ?_ | refine n_thn ?_ | refine n_blk ?_ | refine e_thn ?_ | refine e_hit ?_ | refine e_miss rfl ?_ | refine r_thn ?_ | refine r_blk ?_ | refine e_rr ?_ | refine r_rr ?_ | refine e_cr ?_ | refine r_cr ?_ | refine .seq ?_ | refine reg ?_ | refine .block ?_ | refine .skip ?_ | refine .ret ?_ | refine .exit ?_ | refine cndT rfl ?_ | refine cndF rfl ?_ | refine c_dec rfl (fun hc => ?_) (fun hc => ?_) | refine c_ndec rfl (fun hc => ?_) (fun hc => ?_) | refine cnd rfl (fun hc => ?_) (fun hc => ?_) | ((first | refine o_none rfl ?_ | refine o_none_ ?_ | refine o_yes rfl rfl rfl ?_ | refine o_yes_ rfl rfl ?_); first | refine st_pure (hw) b104 rfl rfl rfl rfl ?_ | refine st_indexStr x lay_ok rfl rfl rfl rfl (by omega) hx ?_ | refine st_pure (hpl) b105 rfl rfl rfl rfl ?_) | refine gd rfl rfl rfl (fun hg => ?_) (fun hg => ?_) | refine gn rfl rfl rfl (fun hg => ?_) (fun hg => ?_)
          all_goals first
            | (exfalso; omega)
            | (refine f_r [] rfl trivial rfl ⟨?_, rfl⟩; rw [hpo]; rfl)
            | (exfalso; simp at ho2; omega)
    · have hpe : p = s.size := by omega
      have hend : partOk s = (decide (1 ≤ n ∧ n ≤ 16) && decide (s ≠ ⟨#[46]⟩) && decide (s ≠ ⟨#[46, 46]⟩)) := by
        have : runs s f p = some 0 := by
          cases f with
          | zero => rfl
          | succ f => rw [runs, if_neg hp]
        unfold partOk
        rw [hr, this]
        simp only [Option.map_some, Nat.zero_add]
      repeat' first | refine wr (by omega) ?_ | refine ln ?_ | refine stp lay_ok rfl ?_ | refine fin ?_ | refine n_thn ?_ | refine n_blk ?_ | refine e_thn ?_ | refine e_hit ?_ | refine e_miss rfl ?_ | refine r_thn ?_ | refine r_blk ?_ | refine e_rr ?_ | refine r_rr ?_ | refine e_cr ?_ | refine r_cr ?_ | refine .seq ?_ | refine reg ?_ | refine .block ?_ | refine .skip ?_ | refine .ret ?_ | refine .exit ?_ | refine cndT rfl ?_ | refine cndF rfl ?_ | refine c_dec rfl (fun hc => ?_) (fun hc => ?_) | refine c_ndec rfl (fun hc => ?_) (fun hc => ?_) | refine cnd rfl (fun hc => ?_) (fun hc => ?_) | refine gd rfl rfl rfl (fun hg => ?_) (fun hg => ?_) | refine gn rfl rfl rfl (fun hg => ?_) (fun hg => ?_)
      all_goals first
        | (exfalso; omega)
        | (refine f_r [] rfl trivial rfl ⟨?_, rfl⟩
           rw [hend]
           simp only [retOf, B, AV.st.injEq, SV.bool.injEq]
           first
             | (rw [decide_eq_true (p := 1 ≤ n ∧ n ≤ 16) (by omega), decide_eq_true (p := s ≠ ⟨#[46]⟩) (by assumption)]; rfl)
             | (rw [decide_eq_true (p := 1 ≤ n ∧ n ≤ 16) (by omega), decide_eq_false (p := s ≠ ⟨#[46]⟩) (by assumption)]; rfl)
             | (rw [decide_eq_false (p := 1 ≤ n ∧ n ≤ 16) (by omega)]; rfl))
end Go.Proofs.YtmekcbbieacioaaGreatDoorFn
namespace Go.Proofs.YtmekcbbieacioaaGreatDoorFn
open Go.Proofs.YtmekcbbieacioaaGreatDoorAl Go.Proofs.Tryz
attribute [local irreducible] IntKind.wrap CodeOk OpsL OpG ACalls thn inBlk rndR cutR WkR Wk fnR DW ExtOk partsOf
theorem spl_step : ∀ (l : List UInt8) (m : Nat), (∀ j, j < m → l[j]? ≠ some 47) → l[m]? = some 47 → spl l = l.take m :: spl (l.drop (m + 1))
  | [], m, _, h => by simp at h
  | b :: r, 0, _, h => by
    simp at h; subst h
    simp [spl]
  | b :: r, m + 1, h1, h => by
    have hb : b ≠ 47 := by
      have := h1 0 (by omega); simpa using this
    have ih := spl_step r m (fun j hj => by have := h1 (j + 1) (by omega); simpa using this) (by simpa using h)
    simp only [spl, hb, if_false, ih, List.take_succ_cons, List.drop_succ_cons]
theorem spl_end : ∀ (l : List UInt8), (∀ j : Nat, l[j]? ≠ some 47) → spl l = [l]
  | [], _ => rfl
  | b :: r, h => by
    have hb : b ≠ 47 := by have := h 0; simpa using this
    have ih := spl_end r (fun j => by have := h (j + 1); simpa using this)
    simp only [spl, hb, if_false, ih]
theorem data_get (s : ByteArray) (j : Nat) : s.data.toList[j]? = s[j]? := by
  by_cases h : j < s.size
  · rw [getElem?_pos s j h, List.getElem?_eq_getElem (by rw [Array.length_toList]; exact h)]
    simp; rfl
  · rw [getElem?_neg s j h, List.getElem?_eq_none (by rw [Array.length_toList]; show s.size ≤ j; omega)]
theorem ext_drop (s : ByteArray) (a : Nat) : (s.extract a s.size).data.toList = s.data.toList.drop a := by
  rw [ext_list, List.take_of_length_le (by rw [Array.length_toList]; exact Nat.le_refl _)]
theorem partsOf_step {s : ByteArray} {a i : Nat} (hai : a ≤ i) (hn : ∀ j, a ≤ j → j < i → s[j]? ≠ some 47) (h : s[i]? = some 47) :
    partsOf (s.extract a s.size) = s.extract a i :: partsOf (s.extract (i + 1) s.size) := by
  unfold partsOf
  rw [ext_drop, ext_drop]
  have h1 := spl_step (s.data.toList.drop a) (i - a) (fun j hj => by
    rw [List.getElem?_drop, data_get]; exact hn _ (by omega) (by omega)) (by
    rw [List.getElem?_drop, data_get, show a + (i - a) = i by omega]; exact h)
  rw [h1, List.map_cons, List.drop_drop, show a + (i - a + 1) = i + 1 by omega]
  congr 1
  have := ext_list s a i
  rw [List.drop_take] at this
  rw [← this, Array.toArray_toList]
theorem partsOf_end {s : ByteArray} {a : Nat} (hn : ∀ j, a ≤ j → j < s.size → s[j]? ≠ some 47) : partsOf (s.extract a s.size) = [s.extract a s.size] := by
  have h1 := spl_end (s.extract a s.size).data.toList (fun j => by
    rw [ext_drop, List.getElem?_drop, data_get]
    by_cases h : a + j < s.size
    · exact hn _ (by omega) h
    · rw [getElem?_neg s _ h]; simp)
  unfold partsOf
  rw [h1, List.map_cons, List.map_nil, Array.toArray_toList]
set_option maxHeartbeats 4000000 in
set_option maxRecDepth 4000 in
theorem refSplit_ok (s : ByteArray) (hs : s.size ≤ 4000000000 - 1) : ACalls prog 62 0 [Sx s] [] fun r h => r = .st (.sl 1 ((partsOf s).map rowS)) ∧ h = [] := by
  refine fnC lay_ok func62 rfl rfl rfl rfl rfl ?_
  repeat' first | refine wr (by omega) ?_ | refine ln ?_ | refine stp lay_ok rfl ?_ | refine fin ?_ | refine n_thn ?_ | refine n_blk ?_ | refine e_thn ?_ | refine e_hit ?_ | refine e_miss rfl ?_ | refine r_thn ?_ | refine r_blk ?_ | refine e_rr ?_ | refine r_rr ?_ | refine e_cr ?_ | refine r_cr ?_ | refine .seq ?_ | refine reg ?_ | refine .block ?_ | refine .skip ?_ | refine .ret ?_ | refine .exit ?_ | refine cndT rfl ?_ | refine cndF rfl ?_ | refine c_dec rfl (fun hc => ?_) (fun hc => ?_) | refine c_ndec rfl (fun hc => ?_) (fun hc => ?_) | refine cnd rfl (fun hc => ?_) (fun hc => ?_) | refine gd rfl rfl rfl (fun hg => ?_) (fun hg => ?_) | refine gn rfl rfl rfl (fun hg => ?_) (fun hg => ?_)
  refine CodeOk.wk (Wk.nilT 1 3 rfl rfl) (Nat.le_succ _) ?_
  refine nrm rfl rfl ?_
  refine lpR (fun (out, a, i) => (i ≤ s.size ∧ a ≤ i ∧ out.length ≤ a ∧ partsOf s = out ++ partsOf (s.extract a s.size) ∧ ∀ j, a ≤ j → j < i → s[j]? ≠ some 47) ∨ (i = s.size + 1 ∧ partsOf s = out)) (fun (out, a, i) => s.size + 1 - i) (fun (out, a, i) => [(3, .lsl 1 1 0 (out.map rowS).length), (4, I (a : Int)), (5, I (i : Int))]) (fun (out, a, i) => [(1, .arr 1 (out.map rowS))]) (([], 0, 0)) [0] [] [0] rfl rfl rfl (.of [0] (by (repeat' first | exact trivial | refine And.intro ?_ ?_ | rfl); first | done | fail) (by (repeat' first | exact trivial | refine And.intro ?_ ?_ | rfl); first | done | fail) rfl) ?_ ?_
  · left
    refine ⟨Nat.zero_le _, Nat.le_refl _, Nat.le_refl _, ?_, fun j h1 h2 => by omega⟩
    rw [List.nil_append, ByteArray.extract_zero_size]
  rintro ⟨out, a, i⟩ hinv
  refine nrm rfl rfl ?_
  have hm : (List.map rowS out).length = out.length := List.length_map _
  have hr : ∀ x : ByteArray, List.map rowS out ++ [[SV.str x]] = List.map rowS (out ++ [x]) := fun x => by rw [List.map_append]; rfl
  rcases hinv with ⟨h1, h2, h3, h4, h5⟩ | ⟨h1, h2⟩
  · by_cases hi : i < s.size
    · have hx := get_some hi
      generalize s.get! i = x at *
      by_cases h47 : x = 47
      · subst h47
        have hp := partsOf_step h2 h5 hx
        repeat' first | refine wr (by omega) ?_ | refine ln ?_ | refine stp lay_ok rfl ?_ | refine fin ?_ | refine n_thn ?_ | refine n_blk ?_ | refine e_thn ?_ | refine e_hit ?_ | refine e_miss rfl ?_ | refine r_thn ?_ | refine r_blk ?_ | refine e_rr ?_ | refine r_rr ?_ | refine e_cr ?_ | refine r_cr ?_ | refine .seq ?_ | refine reg ?_ | refine .block ?_ | refine .skip ?_ | refine .ret ?_ | refine .exit ?_ | refine cndT rfl ?_ | refine cndF rfl ?_ | refine c_dec rfl (fun hc => ?_) (fun hc => ?_) | refine c_ndec rfl (fun hc => ?_) (fun hc => ?_) | refine cnd rfl (fun hc => ?_) (fun hc => ?_) | ((first | refine o_none rfl ?_ | refine o_none_ ?_ | refine o_yes rfl rfl rfl ?_ | refine o_yes_ rfl rfl ?_); first | refine st_indexStr 47 lay_ok rfl rfl rfl rfl (by omega) hx ?_ | refine st_subS a i lay_ok rfl rfl rfl ⟨_, _, rfl, rfl⟩ ⟨_, _, rfl, rfl⟩ h2 (by omega) ?_ | refine st_append lay_ok rfl rfl rfl rfl rfl rfl rfl rfl (.lsl rfl rfl) .sl rfl (one_s (s.extract a i)) (by simp only [List.length_cons, List.length_nil]; omega) (by simp only [List.length_cons, List.length_nil]; omega) ?_) | refine gd rfl rfl rfl (fun hg => ?_) (fun hg => ?_) | refine gn rfl rfl rfl (fun hg => ?_) (fun hg => ?_)
        all_goals first
          | (exfalso; omega)
          | (exfalso; simp_all; done)
          | skip
        rw [hr]
        refine n_rr ((out ++ [s.extract a i], i + 1, i + 1)) ?_ (.of [2] (by (repeat' first | exact trivial | refine And.intro ?_ ?_ | rfl); first | done | fail) (by (repeat' first | exact trivial | refine And.intro ?_ ?_ | rfl); first | done | fail) rfl) ?_
        · show s.size + 1 - (i + 1) < s.size + 1 - i; omega
        · left
          exact ⟨hi, Nat.le_refl _, by simp; omega, by rw [h4, hp]; simp, fun j g1 g2 => by omega⟩
      · have hxn : x.toNat ≠ 47 := fun e => h47 (UInt8.toNat.inj (by rw [e]; rfl))
        repeat' first | refine wr (by omega) ?_ | refine ln ?_ | refine stp lay_ok rfl ?_ | refine fin ?_ | refine n_thn ?_ | refine n_blk ?_ | refine e_thn ?_ | refine e_hit ?_ | refine e_miss rfl ?_ | refine r_thn ?_ | refine r_blk ?_ | refine e_rr ?_ | refine r_rr ?_ | refine e_cr ?_ | refine r_cr ?_ | refine .seq ?_ | refine reg ?_ | refine .block ?_ | refine .skip ?_ | refine .ret ?_ | refine .exit ?_ | refine cndT rfl ?_ | refine cndF rfl ?_ | refine c_dec rfl (fun hc => ?_) (fun hc => ?_) | refine c_ndec rfl (fun hc => ?_) (fun hc => ?_) | refine cnd rfl (fun hc => ?_) (fun hc => ?_) | ((first | refine o_none rfl ?_ | refine o_none_ ?_ | refine o_yes rfl rfl rfl ?_ | refine o_yes_ rfl rfl ?_); first | refine st_indexStr x lay_ok rfl rfl rfl rfl (by omega) hx ?_) | refine gd rfl rfl rfl (fun hg => ?_) (fun hg => ?_) | refine gn rfl rfl rfl (fun hg => ?_) (fun hg => ?_)
        all_goals first
          | (exfalso; omega)
          | skip
        refine n_rr ((out, a, i + 1)) ?_ (.of [1] (by (repeat' first | exact trivial | refine And.intro ?_ ?_ | rfl); first | done | fail) (by (repeat' first | exact trivial | refine And.intro ?_ ?_ | rfl); first | done | fail) rfl) ?_
        · show s.size + 1 - (i + 1) < s.size + 1 - i; omega
        · left
          refine ⟨hi, by omega, h3, h4, fun j g1 g2 => ?_⟩
          by_cases hj : j = i
          · subst hj; rw [hx]; intro e; exact h47 (Option.some.inj e)
          · exact h5 j g1 (by omega)
    · have hie : i = s.size := by omega
      subst hie
      have hp := partsOf_end h5
      repeat' first | refine wr (by omega) ?_ | refine ln ?_ | refine stp lay_ok rfl ?_ | refine fin ?_ | refine n_thn ?_ | refine n_blk ?_ | refine e_thn ?_ | refine e_hit ?_ | refine e_miss rfl ?_ | refine r_thn ?_ | refine r_blk ?_ | refine e_rr ?_ | refine r_rr ?_ | refine e_cr ?_ | refine r_cr ?_ | refine .seq ?_ | refine reg ?_ | refine .block ?_ | refine .skip ?_ | refine .ret ?_ | refine .exit ?_ | refine cndT rfl ?_ | refine cndF rfl ?_ | refine c_dec rfl (fun hc => ?_) (fun hc => ?_) | refine c_ndec rfl (fun hc => ?_) (fun hc => ?_) | refine cnd rfl (fun hc => ?_) (fun hc => ?_) | ((first | refine o_none rfl ?_ | refine o_none_ ?_ | refine o_yes rfl rfl rfl ?_ | refine o_yes_ rfl rfl ?_); first | refine st_subS a s.size lay_ok rfl rfl rfl ⟨_, _, rfl, rfl⟩ ⟨_, _, rfl, rfl⟩ h2 (Nat.le_refl _) ?_ | refine st_append lay_ok rfl rfl rfl rfl rfl rfl rfl rfl (.lsl rfl rfl) .sl rfl (one_s (s.extract a s.size)) (by simp only [List.length_cons, List.length_nil]; omega) (by simp only [List.length_cons, List.length_nil]; omega) ?_) | refine gd rfl rfl rfl (fun hg => ?_) (fun hg => ?_) | refine gn rfl rfl rfl (fun hg => ?_) (fun hg => ?_)
      all_goals first
        | (exfalso; omega)
        | skip
      rw [hr]
      refine n_rr ((out ++ [s.extract a s.size], s.size + 1, s.size + 1)) ?_ (.of [2] (by (repeat' first | exact trivial | refine And.intro ?_ ?_ | rfl); first | done | fail) (by (repeat' first | exact trivial | refine And.intro ?_ ?_ | rfl); first | done | fail) rfl) ?_
      · show s.size + 1 - (s.size + 1) < s.size + 1 - s.size; omega
      · right
        exact ⟨rfl, by rw [h4, hp]⟩
  · subst h1
    repeat' first | refine wr (by omega) ?_ | refine ln ?_ | refine stp lay_ok rfl ?_ | refine fin ?_ | refine n_thn ?_ | refine n_blk ?_ | refine e_thn ?_ | refine e_hit ?_ | refine e_miss rfl ?_ | refine r_thn ?_ | refine r_blk ?_ | refine e_rr ?_ | refine r_rr ?_ | refine e_cr ?_ | refine r_cr ?_ | refine .seq ?_ | refine reg ?_ | refine .block ?_ | refine .skip ?_ | refine .ret ?_ | refine .exit ?_ | refine cndT rfl ?_ | refine cndF rfl ?_ | refine c_dec rfl (fun hc => ?_) (fun hc => ?_) | refine c_ndec rfl (fun hc => ?_) (fun hc => ?_) | refine cnd rfl (fun hc => ?_) (fun hc => ?_) | refine gd rfl rfl rfl (fun hg => ?_) (fun hg => ?_) | refine gn rfl rfl rfl (fun hg => ?_) (fun hg => ?_)
    all_goals first
      | (exfalso; omega)
      | skip
    refine f_end (n0 := 0) (t'' := [(2, .st (.sl 1 (out.map rowS)))]) (h'' := []) (Wk.then (Wk.frz 1 [2] rfl rfl rfl (by (repeat' first | exact trivial | refine And.intro ?_ ?_ | rfl); first | done | fail) (by (repeat' first | exact trivial | refine And.intro ?_ ?_ | rfl); first | done | fail) rfl rfl) (WkR.of [] (by (repeat' first | exact trivial | refine And.intro ?_ ?_ | rfl); first | done | fail) (by (repeat' first | exact trivial | refine And.intro ?_ ?_ | rfl); first | done | fail) rfl)) rfl rfl ⟨?_, rfl⟩
    rw [h2]; rfl
end Go.Proofs.YtmekcbbieacioaaGreatDoorFn
namespace Go.Proofs.YtmekcbbieacioaaGreatDoorFn
open Go.Proofs.YtmekcbbieacioaaGreatDoorAl Go.Proofs.Tryz
attribute [local irreducible] IntKind.wrap CodeOk OpsL OpG ACalls thn inBlk rndR cutR WkR Wk fnR DW ExtOk partsOf
def partsB (l : List ByteArray) : Bool := decide (1 ≤ l.length ∧ l.length ≤ 8) && l.all partOk
theorem refParts_ok (l : List ByteArray) (hl : l.length ≤ 4000000000) (hs : ∀ s ∈ l, s.size ≤ 4000000000) : ACalls prog 61 0 [.st (.sl 1 (l.map rowS))] [] fun r h => r = B (partsB l) ∧ h = [] := by
  have hm : (List.map rowS l).length = l.length := List.length_map _
  have hpb : partsB l = (decide (1 ≤ l.length ∧ l.length ≤ 8) && l.all partOk) := rfl
  generalize partsB l = W at *
  refine fnC lay_ok func61 rfl rfl rfl rfl rfl ?_
  repeat' first | refine wr (by omega) ?_ | refine ln ?_ | refine stp lay_ok rfl ?_ | refine fin ?_ | refine n_thn ?_ | refine n_blk ?_ | refine e_thn ?_ | refine e_hit ?_ | refine e_miss rfl ?_ | refine r_thn ?_ | refine r_blk ?_ | refine e_rr ?_ | refine r_rr ?_ | refine e_cr ?_ | refine r_cr ?_ | refine .seq ?_ | refine reg ?_ | refine .block ?_ | refine .skip ?_ | refine .ret ?_ | refine .exit ?_ | refine cndT rfl ?_ | refine cndF rfl ?_ | refine c_dec rfl (fun hc => ?_) (fun hc => ?_) | refine c_ndec rfl (fun hc => ?_) (fun hc => ?_) | refine cnd rfl (fun hc => ?_) (fun hc => ?_) | refine gd rfl rfl rfl (fun hg => ?_) (fun hg => ?_) | refine gn rfl rfl rfl (fun hg => ?_) (fun hg => ?_) | refine dwr (by omega) ?_ | refine dwl ?_ | refine dws lay_ok rfl rfl rfl rfl rfl rfl rfl ?_ | refine dwu lay_ok rfl rfl rfl rfl rfl rfl rfl rfl rfl ?_ | refine dw_end ?_ | refine dw_skip rfl rfl rfl ?_ | refine dwn lay_ok rfl rfl rfl rfl rfl ?_ | refine dw_dec rfl rfl rfl (fun hg => ?_) (fun hg => ?_) | refine dw_ndec rfl rfl rfl (fun hg => ?_) (fun hg => ?_)
  · refine f_r [] rfl trivial rfl ⟨?_, rfl⟩
    rw [hpb, decide_eq_false (by omega)]; rfl
  · refine f_r [] rfl trivial rfl ⟨?_, rfl⟩
    rw [hpb, decide_eq_false (by omega)]; rfl
  · rw [decide_eq_true (by omega), Bool.true_and] at hpb
    refine lpR (fun k => k ≤ l.length ∧ (l.take k).all partOk = true) (fun k => l.length - k) (fun k => [(3, I k)]) (fun k => []) (0) [0] [] [] rfl rfl rfl (.of [] (by (repeat' first | exact trivial | refine And.intro ?_ ?_ | rfl); first | done | fail) (by (repeat' first | exact trivial | refine And.intro ?_ ?_ | rfl); first | done | fail) rfl) ?_ ?_
    · exact ⟨Nat.zero_le _, rfl⟩
    rintro k ⟨h1, h2⟩
    refine nrm rfl rfl ?_
    repeat' first | refine wr (by omega) ?_ | refine ln ?_ | refine stp lay_ok rfl ?_ | refine fin ?_ | refine n_thn ?_ | refine n_blk ?_ | refine e_thn ?_ | refine e_hit ?_ | refine e_miss rfl ?_ | refine r_thn ?_ | refine r_blk ?_ | refine e_rr ?_ | refine r_rr ?_ | refine e_cr ?_ | refine r_cr ?_ | refine .seq ?_ | refine reg ?_ | refine .block ?_ | refine .skip ?_ | refine .ret ?_ | refine .exit ?_ | refine cndT rfl ?_ | refine cndF rfl ?_ | refine c_dec rfl (fun hc => ?_) (fun hc => ?_) | refine c_ndec rfl (fun hc => ?_) (fun hc => ?_) | refine cnd rfl (fun hc => ?_) (fun hc => ?_) | refine gd rfl rfl rfl (fun hg => ?_) (fun hg => ?_) | refine gn rfl rfl rfl (fun hg => ?_) (fun hg => ?_) | refine dwr (by omega) ?_ | refine dwl ?_ | refine dws lay_ok rfl rfl rfl rfl rfl rfl rfl ?_ | refine dwu lay_ok rfl rfl rfl rfl rfl rfl rfl rfl rfl ?_ | refine dw_end ?_ | refine dw_skip rfl rfl rfl ?_ | refine dwn lay_ok rfl rfl rfl rfl rfl ?_ | refine dw_dec rfl rfl rfl (fun hg => ?_) (fun hg => ?_) | refine dw_ndec rfl rfl rfl (fun hg => ?_) (fun hg => ?_)
    · have hk : k < l.length := by omega
      have hat := at_rowS hk
      have hp := refPart_ok l[k] (hs _ (List.getElem_mem hk))
      have ha := all_take (p := partOk) hk
      have hna := all_not (p := partOk) hk
      generalize l[k] = x at *
      cases hb : partOk x <;> rw [hb] at hp ha hna
      · repeat' first | refine wr (by omega) ?_ | refine ln ?_ | refine stp lay_ok rfl ?_ | refine fin ?_ | refine n_thn ?_ | refine n_blk ?_ | refine e_thn ?_ | refine e_hit ?_ | refine e_miss rfl ?_ | refine r_thn ?_ | refine r_blk ?_ | refine e_rr ?_ | refine r_rr ?_ | refine e_cr ?_ | refine r_cr ?_ | refine .seq ?_ | refine reg ?_ | refine .block ?_ | refine .skip ?_ | refine .ret ?_ | refine .exit ?_ | refine cndT rfl ?_ | refine cndF rfl ?_ | refine c_dec rfl (fun hc => ?_) (fun hc => ?_) | refine c_ndec rfl (fun hc => ?_) (fun hc => ?_) | refine cnd rfl (fun hc => ?_) (fun hc => ?_) | ((first | refine o_none rfl ?_ | refine o_none_ ?_ | refine o_yes rfl rfl rfl ?_ | refine o_yes_ rfl rfl ?_); first | refine st_index (rowS x) lay_ok rfl rfl rfl rfl (by omega) hat ?_ | refine st_pure (hp) b88 rfl rfl rfl rfl ?_) | refine gd rfl rfl rfl (fun hg => ?_) (fun hg => ?_) | refine gn rfl rfl rfl (fun hg => ?_) (fun hg => ?_) | refine dwr (by omega) ?_ | refine dwl ?_ | refine dws lay_ok rfl rfl rfl rfl rfl rfl rfl ?_ | refine dwu lay_ok rfl rfl rfl rfl rfl rfl rfl rfl rfl ?_ | refine dw_end ?_ | refine dw_skip rfl rfl rfl ?_ | refine dwn lay_ok rfl rfl rfl rfl rfl ?_ | refine dwb rfl rfl rfl rfl rfl (by (first | refine st_index (rowS x) lay_ok rfl rfl rfl rfl (by omega) hat ?_ | refine st_pure (hp) b88 rfl rfl rfl rfl ?_); exact fin rfl) rfl rfl ?_ | refine dwg rfl rfl rfl rfl rfl (by (first | refine st_index (rowS x) lay_ok rfl rfl rfl rfl (by omega) hat ?_ | refine st_pure (hp) b88 rfl rfl rfl rfl ?_); exact fin rfl) rfl rfl rfl rfl rfl ?_ | refine dw_dec rfl rfl rfl (fun hg => ?_) (fun hg => ?_) | refine dw_ndec rfl rfl rfl (fun hg => ?_) (fun hg => ?_)
        refine f_r [] rfl trivial rfl ⟨?_, rfl⟩
        rw [hpb, hna rfl]; rfl
      · repeat' first | refine wr (by omega) ?_ | refine ln ?_ | refine stp lay_ok rfl ?_ | refine fin ?_ | refine n_thn ?_ | refine n_blk ?_ | refine e_thn ?_ | refine e_hit ?_ | refine e_miss rfl ?_ | refine r_thn ?_ | refine r_blk ?_ | refine e_rr ?_ | refine r_rr ?_ | refine e_cr ?_ | refine r_cr ?_ | refine .seq ?_ | refine reg ?_ | refine .block ?_ | refine .skip ?_ | refine .ret ?_ | refine .exit ?_ | refine cndT rfl ?_ | refine cndF rfl ?_ | refine c_dec rfl (fun hc => ?_) (fun hc => ?_) | refine c_ndec rfl (fun hc => ?_) (fun hc => ?_) | refine cnd rfl (fun hc => ?_) (fun hc => ?_) | ((first | refine o_none rfl ?_ | refine o_none_ ?_ | refine o_yes rfl rfl rfl ?_ | refine o_yes_ rfl rfl ?_); first | refine st_index (rowS x) lay_ok rfl rfl rfl rfl (by omega) hat ?_ | refine st_pure (hp) b88 rfl rfl rfl rfl ?_) | refine gd rfl rfl rfl (fun hg => ?_) (fun hg => ?_) | refine gn rfl rfl rfl (fun hg => ?_) (fun hg => ?_) | refine dwr (by omega) ?_ | refine dwl ?_ | refine dws lay_ok rfl rfl rfl rfl rfl rfl rfl ?_ | refine dwu lay_ok rfl rfl rfl rfl rfl rfl rfl rfl rfl ?_ | refine dw_end ?_ | refine dw_skip rfl rfl rfl ?_ | refine dwn lay_ok rfl rfl rfl rfl rfl ?_ | refine dwb rfl rfl rfl rfl rfl (by (first | refine st_index (rowS x) lay_ok rfl rfl rfl rfl (by omega) hat ?_ | refine st_pure (hp) b88 rfl rfl rfl rfl ?_); exact fin rfl) rfl rfl ?_ | refine dwg rfl rfl rfl rfl rfl (by (first | refine st_index (rowS x) lay_ok rfl rfl rfl rfl (by omega) hat ?_ | refine st_pure (hp) b88 rfl rfl rfl rfl ?_); exact fin rfl) rfl rfl rfl rfl rfl ?_ | refine dw_dec rfl rfl rfl (fun hg => ?_) (fun hg => ?_) | refine dw_ndec rfl rfl rfl (fun hg => ?_) (fun hg => ?_)
        refine n_rr (k + 1) ?_ (.of [] (by (repeat' first | exact trivial | refine And.intro ?_ ?_ | rfl); first | done | fail) (by (repeat' first | exact trivial | refine And.intro ?_ ?_ | rfl); first | done | fail) rfl) ?_
        · omega
        · exact ⟨hk, by rw [ha, h2]; rfl⟩
    · have hk : k = l.length := by omega
      subst hk
      rw [List.take_length] at h2
      refine f_r [] rfl trivial rfl ⟨?_, rfl⟩
      rw [hpb, h2]; rfl
theorem parts_le (s : ByteArray) : (partsOf s).length ≤ s.size + 1 := by
  rw [parts_len]
  have := List.count_le_length (a := (47 : UInt8)) (l := s.data.toList)
  rw [Array.length_toList] at this
  have e : s.data.size = s.size := rfl
  omega
theorem parts_pos1 (s : ByteArray) : 1 ≤ (partsOf s).length := by rw [parts_len]; omega
theorem partsB_path (s : ByteArray) : partsB (partsOf s) = pathOk s := by
  have := parts_pos1 s
  unfold partsB pathOk
  congr 1
  rw [Bool.eq_iff_iff, decide_eq_true_eq, decide_eq_true_eq]; omega
theorem refPartsOf_ok (s : ByteArray) (hs : s.size ≤ 4000000000 - 1) : ACalls prog 61 0 [.st (.sl 1 ((partsOf s).map rowS))] [] fun r h => r = B (pathOk s) ∧ h = [] := by
  have := parts_le s
  have h2 := refParts_ok (partsOf s) (by omega) (fun x hx => by have := parts_size s x hx; omega)
  rw [partsB_path] at h2
  exact h2
theorem refPath_ok (s : ByteArray) (hs : s.size ≤ 4000000000 - 1) : ACalls prog 36 0 [Sx s] [] fun r h => r = B (pathOk s) ∧ h = [] := by
  have h1 := refSplit_ok s hs
  have h2 := refPartsOf_ok s hs
  refine fnC lay_ok func36 rfl rfl rfl rfl rfl ?_
  repeat' first | refine wr (by omega) ?_ | refine ln ?_ | refine stp lay_ok rfl ?_ | refine fin ?_ | refine n_thn ?_ | refine n_blk ?_ | refine e_thn ?_ | refine e_hit ?_ | refine e_miss rfl ?_ | refine r_thn ?_ | refine r_blk ?_ | refine e_rr ?_ | refine r_rr ?_ | refine e_cr ?_ | refine r_cr ?_ | refine .seq ?_ | refine reg ?_ | refine .block ?_ | refine .skip ?_ | refine .ret ?_ | refine .exit ?_ | refine cndT rfl ?_ | refine cndF rfl ?_ | refine c_dec rfl (fun hc => ?_) (fun hc => ?_) | refine c_ndec rfl (fun hc => ?_) (fun hc => ?_) | refine cnd rfl (fun hc => ?_) (fun hc => ?_) | ((first | refine o_none rfl ?_ | refine o_none_ ?_ | refine o_yes rfl rfl rfl ?_ | refine o_yes_ rfl rfl ?_); first | refine st_pure (h1) b62 rfl rfl rfl rfl ?_ | refine st_pure (h2) b61 rfl rfl rfl rfl ?_) | refine gd rfl rfl rfl (fun hg => ?_) (fun hg => ?_) | refine gn rfl rfl rfl (fun hg => ?_) (fun hg => ?_) | refine dwr (by omega) ?_ | refine dwl ?_ | refine dws lay_ok rfl rfl rfl rfl rfl rfl rfl ?_ | refine dwu lay_ok rfl rfl rfl rfl rfl rfl rfl rfl rfl ?_ | refine dw_end ?_ | refine dw_skip rfl rfl rfl ?_ | refine dwn lay_ok rfl rfl rfl rfl rfl ?_ | refine dwb rfl rfl rfl rfl rfl (by (first | refine st_pure (h1) b62 rfl rfl rfl rfl ?_ | refine st_pure (h2) b61 rfl rfl rfl rfl ?_); exact fin rfl) rfl rfl ?_ | refine dwg rfl rfl rfl rfl rfl (by (first | refine st_pure (h1) b62 rfl rfl rfl rfl ?_ | refine st_pure (h2) b61 rfl rfl rfl rfl ?_); exact fin rfl) rfl rfl rfl rfl rfl ?_ | refine dw_dec rfl rfl rfl (fun hg => ?_) (fun hg => ?_) | refine dw_ndec rfl rfl rfl (fun hg => ?_) (fun hg => ?_)
  refine f_r [] rfl trivial rfl ⟨?_, rfl⟩; rfl
/-! ### under: by parts, and by the text ahead -/
def joi : List (List UInt8) → List UInt8
  | [] => []
  | [x] => x
  | x :: y :: r => x ++ 47 :: joi (y :: r)
theorem joi_spl : ∀ l : List UInt8, joi (spl l) = l
  | [] => rfl
  | b :: r => by
    have ih := joi_spl r
    have hne := spl_ne r
    by_cases hb : b = 47
    · subst hb
      simp only [spl, if_true]
      cases h : spl r with
      | nil => exact absurd h hne
      | cons x xs =>
        rw [h] at ih
        simp only [joi, List.nil_append, ih]
    · simp only [spl, hb, if_false]
      cases h : spl r with
      | nil => exact absurd h hne
      | cons x xs =>
        rw [h] at ih
        cases xs with
        | nil => simp only [joi] at ih ⊢; rw [ih]
        | cons y ys => simp only [joi, List.cons_append] at ih ⊢; rw [ih]
theorem spl_app : ∀ (a b : List UInt8), spl (a ++ 47 :: b) = spl a ++ spl b
  | [], b => by simp [spl]
  | x :: a, b => by
    have ih := spl_app a b
    have hne := spl_ne a
    by_cases hx : x = 47
    · subst hx; simp only [List.cons_append, spl, if_true, ih]
    · simp only [List.cons_append, spl, hx, if_false, ih]
      cases h : spl a with
      | nil => exact absurd h hne
      | cons y ys => rfl
theorem joi_app : ∀ (a b : List (List UInt8)), a ≠ [] → b ≠ [] → joi (a ++ b) = joi a ++ 47 :: joi b
  | [], b, h, _ => absurd rfl h
  | [x], b, _, hb => by
    cases b with
    | nil => exact absurd rfl hb
    | cons y r => rfl
  | x :: y :: r, b, _, hb => by
    have ih := joi_app (y :: r) b (by simp) hb
    simp only [List.cons_append, joi] at ih ⊢
    rw [ih, List.append_assoc]; rfl
theorem pre_list (d s : ByteArray) : ((d ++ slash).size ≤ s.size ∧ s.extract 0 (d ++ slash).size = d ++ slash) ↔ ∃ t, s.data.toList = d.data.toList ++ 47 :: t := by
  have hds : (d ++ slash).data.toList = d.data.toList ++ [47] := by simp [ByteArray.data_append]
  have hsz : (d ++ slash).size = d.data.toList.length + 1 := by
    rw [ByteArray.size_append, Array.length_toList]; rfl
  have hss : s.size = s.data.toList.length := by rw [Array.length_toList]; rfl
  constructor
  · rintro ⟨h1, h2⟩
    have h3 := congrArg (fun b : ByteArray => b.data.toList) h2
    rw [ext_list, List.drop_zero, hds] at h3
    refine ⟨s.data.toList.drop (d ++ slash).size, ?_⟩
    conv => lhs; rw [← List.take_append_drop (d ++ slash).size s.data.toList, h3]
    simp
  · rintro ⟨t, h⟩
    refine ⟨by rw [hsz, hss, h]; simp, ?_⟩
    apply ByteArray.ext
    apply Array.toList_inj.1
    rw [ext_list, List.drop_zero, hds, h, hsz, show d.data.toList ++ 47 :: t = (d.data.toList ++ [47]) ++ t by simp]
    exact List.take_left' (by simp)
theorem under_law (d s : ByteArray) : (∃ t, s.data.toList = d.data.toList ++ 47 :: t) ↔ (partsOf d).length < (partsOf s).length ∧ partsOf d = (partsOf s).take (partsOf d).length := by
  unfold partsOf
  rw [List.length_map, List.length_map, ← List.map_take]
  have hinj : ∀ a b : List (List UInt8), a.map (fun l => (⟨l.toArray⟩ : ByteArray)) = b.map (fun l => (⟨l.toArray⟩ : ByteArray)) → a = b := by
    intro a b h
    have := congrArg (List.map fun b : ByteArray => b.data.toList) h
    simpa [List.map_map, Function.comp_def] using this
  constructor
  · rintro ⟨t, h⟩
    rw [h, spl_app]
    have hne := spl_ne t
    have hpos : 0 < (spl t).length := List.length_pos_iff.2 hne
    refine ⟨by rw [List.length_append]; omega, ?_⟩
    rw [List.take_left']; rfl
  · rintro ⟨h1, h2⟩
    have h3 := hinj _ _ h2
    have h4 : spl s.data.toList = spl d.data.toList ++ (spl s.data.toList).drop (spl d.data.toList).length := by
      conv => lhs; rw [← List.take_append_drop (spl d.data.toList).length (spl s.data.toList), ← h3]
    have h5 : (spl s.data.toList).drop (spl d.data.toList).length ≠ [] := by
      intro e
      have := List.drop_eq_nil_iff.1 e; omega
    refine ⟨joi ((spl s.data.toList).drop (spl d.data.toList).length), ?_⟩
    conv => lhs; rw [← joi_spl s.data.toList, h4]
    rw [joi_app _ _ (spl_ne _) h5, joi_spl]
def underP (d s : ByteArray) : Bool := pathOk d && pathOk s && decide ((partsOf d).length < (partsOf s).length) && decide (partsOf d = (partsOf s).take (partsOf d).length)
theorem underP_eq (d s : ByteArray) : underP d s = under d s := by
  unfold underP under
  rw [Bool.and_assoc]
  congr 1
  rw [Bool.eq_iff_iff, Bool.and_eq_true, decide_eq_true_eq, decide_eq_true_eq, decide_eq_true_eq, pre_list, under_law]
set_option maxRecDepth 4000 in
theorem refUnder_ok (d s : ByteArray) (hd : d.size ≤ 4000000000 - 1) (hs : s.size ≤ 4000000000 - 1) : ACalls prog 45 0 [Sx d, Sx s] [] fun r h => r = B (under d s) ∧ h = [] := by
  rw [← underP_eq]
  have h1 := refSplit_ok d hd
  have h2 := refSplit_ok s hs
  have h3 := refPartsOf_ok d hd
  have h4 := refPartsOf_ok s hs
  have l1 := parts_le d
  have l2 := parts_le s
  have hu : underP d s = (pathOk d && pathOk s && decide ((partsOf d).length < (partsOf s).length) && decide (partsOf d = (partsOf s).take (partsOf d).length)) := rfl
  generalize underP d s = W at *
  generalize partsOf d = a at *
  generalize partsOf s = b at *
  have hma : (List.map rowS a).length = a.length := List.length_map _
  have hmb : (List.map rowS b).length = b.length := List.length_map _
  refine fnC lay_ok func45 rfl rfl rfl rfl rfl ?_
  cases hpd : pathOk d <;> rw [hpd] at h3 hu
  · repeat' first | refine wr (by omega) ?_ | refine ln ?_ | refine stp lay_ok rfl ?_ | refine fin ?_ | refine n_thn ?_ | refine n_blk ?_ | refine e_thn ?_ | refine e_hit ?_ | refine e_miss rfl ?_ | refine r_thn ?_ | refine r_blk ?_ | refine e_rr ?_ | refine r_rr ?_ | refine e_cr ?_ | refine r_cr ?_ | refine .seq ?_ | refine reg ?_ | refine .block ?_ | refine .skip ?_ | refine .ret ?_ | refine .exit ?_ | refine cndT rfl ?_ | refine cndF rfl ?_ | refine c_dec rfl (fun hc => ?_) (fun hc => ?_) | refine c_ndec rfl (fun hc => ?_) (fun hc => ?_) | refine cnd rfl (fun hc => ?_) (fun hc => ?_) | ((first | refine o_none rfl ?_ | refine o_none_ ?_ | refine o_yes rfl rfl rfl ?_ | refine o_yes_ rfl rfl ?_); first | refine st_pure (h1) b62 rfl rfl rfl rfl ?_ | refine st_pure (h2) b62 rfl rfl rfl rfl ?_ | refine st_pure (h3) b61 rfl rfl rfl rfl ?_) | refine gd rfl rfl rfl (fun hg => ?_) (fun hg => ?_) | refine gn rfl rfl rfl (fun hg => ?_) (fun hg => ?_) | refine dwr (by omega) ?_ | refine dwl ?_ | refine dws lay_ok rfl rfl rfl rfl rfl rfl rfl ?_ | refine dwu lay_ok rfl rfl rfl rfl rfl rfl rfl rfl rfl ?_ | refine dw_end ?_ | refine dw_skip rfl rfl rfl ?_ | refine dwn lay_ok rfl rfl rfl rfl rfl ?_ | refine dwb rfl rfl rfl rfl rfl (by (first | refine st_pure (h1) b62 rfl rfl rfl rfl ?_ | refine st_pure (h2) b62 rfl rfl rfl rfl ?_ | refine st_pure (h3) b61 rfl rfl rfl rfl ?_); exact fin rfl) rfl rfl ?_ | refine dwg rfl rfl rfl rfl rfl (by (first | refine st_pure (h1) b62 rfl rfl rfl rfl ?_ | refine st_pure (h2) b62 rfl rfl rfl rfl ?_ | refine st_pure (h3) b61 rfl rfl rfl rfl ?_); exact fin rfl) rfl rfl rfl rfl rfl ?_ | refine dw_dec rfl rfl rfl (fun hg => ?_) (fun hg => ?_) | refine dw_ndec rfl rfl rfl (fun hg => ?_) (fun hg => ?_)
    refine f_r [] rfl trivial rfl ⟨?_, rfl⟩; rw [hu]; rfl
  cases hps : pathOk s <;> rw [hps] at h4 hu
  · repeat' first | refine wr (by omega) ?_ | refine ln ?_ | refine stp lay_ok rfl ?_ | refine fin ?_ | refine n_thn ?_ | refine n_blk ?_ | refine e_thn ?_ | refine e_hit ?_ | refine e_miss rfl ?_ | refine r_thn ?_ | refine r_blk ?_ | refine e_rr ?_ | refine r_rr ?_ | refine e_cr ?_ | refine r_cr ?_ | refine .seq ?_ | refine reg ?_ | refine .block ?_ | refine .skip ?_ | refine .ret ?_ | refine .exit ?_ | refine cndT rfl ?_ | refine cndF rfl ?_ | refine c_dec rfl (fun hc => ?_) (fun hc => ?_) | refine c_ndec rfl (fun hc => ?_) (fun hc => ?_) | refine cnd rfl (fun hc => ?_) (fun hc => ?_) | ((first | refine o_none rfl ?_ | refine o_none_ ?_ | refine o_yes rfl rfl rfl ?_ | refine o_yes_ rfl rfl ?_); first | refine st_pure (h1) b62 rfl rfl rfl rfl ?_ | refine st_pure (h2) b62 rfl rfl rfl rfl ?_ | refine st_pure (h3) b61 rfl rfl rfl rfl ?_ | refine st_pure (h4) b61 rfl rfl rfl rfl ?_) | refine gd rfl rfl rfl (fun hg => ?_) (fun hg => ?_) | refine gn rfl rfl rfl (fun hg => ?_) (fun hg => ?_) | refine dwr (by omega) ?_ | refine dwl ?_ | refine dws lay_ok rfl rfl rfl rfl rfl rfl rfl ?_ | refine dwu lay_ok rfl rfl rfl rfl rfl rfl rfl rfl rfl ?_ | refine dw_end ?_ | refine dw_skip rfl rfl rfl ?_ | refine dwn lay_ok rfl rfl rfl rfl rfl ?_ | refine dwb rfl rfl rfl rfl rfl (by (first | refine st_pure (h1) b62 rfl rfl rfl rfl ?_ | refine st_pure (h2) b62 rfl rfl rfl rfl ?_ | refine st_pure (h3) b61 rfl rfl rfl rfl ?_ | refine st_pure (h4) b61 rfl rfl rfl rfl ?_); exact fin rfl) rfl rfl ?_ | refine dwg rfl rfl rfl rfl rfl (by (first | refine st_pure (h1) b62 rfl rfl rfl rfl ?_ | refine st_pure (h2) b62 rfl rfl rfl rfl ?_ | refine st_pure (h3) b61 rfl rfl rfl rfl ?_ | refine st_pure (h4) b61 rfl rfl rfl rfl ?_); exact fin rfl) rfl rfl rfl rfl rfl ?_ | refine dw_dec rfl rfl rfl (fun hg => ?_) (fun hg => ?_) | refine dw_ndec rfl rfl rfl (fun hg => ?_) (fun hg => ?_)
    refine f_r [] rfl trivial rfl ⟨?_, rfl⟩; rw [hu]; rfl
  simp only [Bool.true_and] at hu
  repeat' first | refine wr (by omega) ?_ | refine ln ?_ | refine stp lay_ok rfl ?_ | refine fin ?_ | refine n_thn ?_ | refine n_blk ?_ | refine e_thn ?_ | refine e_hit ?_ | refine e_miss rfl ?_ | refine r_thn ?_ | refine r_blk ?_ | refine e_rr ?_ | refine r_rr ?_ | refine e_cr ?_ | refine r_cr ?_ | refine .seq ?_ | refine reg ?_ | refine .block ?_ | refine .skip ?_ | refine .ret ?_ | refine .exit ?_ | refine cndT rfl ?_ | refine cndF rfl ?_ | refine c_dec rfl (fun hc => ?_) (fun hc => ?_) | refine c_ndec rfl (fun hc => ?_) (fun hc => ?_) | refine cnd rfl (fun hc => ?_) (fun hc => ?_) | ((first | refine o_none rfl ?_ | refine o_none_ ?_ | refine o_yes rfl rfl rfl ?_ | refine o_yes_ rfl rfl ?_); first | refine st_pure (h1) b62 rfl rfl rfl rfl ?_ | refine st_pure (h2) b62 rfl rfl rfl rfl ?_ | refine st_pure (h3) b61 rfl rfl rfl rfl ?_ | refine st_pure (h4) b61 rfl rfl rfl rfl ?_) | refine gd rfl rfl rfl (fun hg => ?_) (fun hg => ?_) | refine gn rfl rfl rfl (fun hg => ?_) (fun hg => ?_) | refine dwr (by omega) ?_ | refine dwl ?_ | refine dws lay_ok rfl rfl rfl rfl rfl rfl rfl ?_ | refine dwu lay_ok rfl rfl rfl rfl rfl rfl rfl rfl rfl ?_ | refine dw_end ?_ | refine dw_skip rfl rfl rfl ?_ | refine dwn lay_ok rfl rfl rfl rfl rfl ?_ | refine dwb rfl rfl rfl rfl rfl (by (first | refine st_pure (h1) b62 rfl rfl rfl rfl ?_ | refine st_pure (h2) b62 rfl rfl rfl rfl ?_ | refine st_pure (h3) b61 rfl rfl rfl rfl ?_ | refine st_pure (h4) b61 rfl rfl rfl rfl ?_); exact fin rfl) rfl rfl ?_ | refine dwg rfl rfl rfl rfl rfl (by (first | refine st_pure (h1) b62 rfl rfl rfl rfl ?_ | refine st_pure (h2) b62 rfl rfl rfl rfl ?_ | refine st_pure (h3) b61 rfl rfl rfl rfl ?_ | refine st_pure (h4) b61 rfl rfl rfl rfl ?_); exact fin rfl) rfl rfl rfl rfl rfl ?_ | refine dw_dec rfl rfl rfl (fun hg => ?_) (fun hg => ?_) | refine dw_ndec rfl rfl rfl (fun hg => ?_) (fun hg => ?_)
  · refine f_r [] rfl trivial rfl ⟨?_, rfl⟩; rw [hu, decide_eq_false (by omega)]; rfl
  · rw [decide_eq_true (by omega), Bool.true_and] at hu
    refine lpR (fun k => k ≤ a.length ∧ ∀ j (h1 : j < a.length) (h2 : j < b.length), j < k → a[j] = b[j]) (fun k => a.length - k) (fun k => [(7, I k)]) (fun k => []) (0) [5, 6] [] [] rfl rfl rfl (.of [] (by (repeat' first | exact trivial | refine And.intro ?_ ?_ | rfl); first | done | fail) (by (repeat' first | exact trivial | refine And.intro ?_ ?_ | rfl); first | done | fail) rfl) ?_ ?_
    · exact ⟨Nat.zero_le _, fun j h1 h2 h3 => by omega⟩
    rintro k ⟨hk, hall⟩
    refine nrm rfl rfl ?_
    repeat' first | refine wr (by omega) ?_ | refine ln ?_ | refine stp lay_ok rfl ?_ | refine fin ?_ | refine n_thn ?_ | refine n_blk ?_ | refine e_thn ?_ | refine e_hit ?_ | refine e_miss rfl ?_ | refine r_thn ?_ | refine r_blk ?_ | refine e_rr ?_ | refine r_rr ?_ | refine e_cr ?_ | refine r_cr ?_ | refine .seq ?_ | refine reg ?_ | refine .block ?_ | refine .skip ?_ | refine .ret ?_ | refine .exit ?_ | refine cndT rfl ?_ | refine cndF rfl ?_ | refine c_dec rfl (fun hc => ?_) (fun hc => ?_) | refine c_ndec rfl (fun hc => ?_) (fun hc => ?_) | refine cnd rfl (fun hc => ?_) (fun hc => ?_) | refine gd rfl rfl rfl (fun hg => ?_) (fun hg => ?_) | refine gn rfl rfl rfl (fun hg => ?_) (fun hg => ?_) | refine dwr (by omega) ?_ | refine dwl ?_ | refine dws lay_ok rfl rfl rfl rfl rfl rfl rfl ?_ | refine dwu lay_ok rfl rfl rfl rfl rfl rfl rfl rfl rfl ?_ | refine dw_end ?_ | refine dw_skip rfl rfl rfl ?_ | refine dwn lay_ok rfl rfl rfl rfl rfl ?_ | refine dw_dec rfl rfl rfl (fun hg => ?_) (fun hg => ?_) | refine dw_ndec rfl rfl rfl (fun hg => ?_) (fun hg => ?_)
    · have hka : k < a.length := by omega
      have hkb : k < b.length := by omega
      have hat := at_rowS hka
      have hbt := at_rowS hkb
      refine dreg [(0, [], [34, 37, 38, 39, 40]), (1, [], [33, 37, 38, 39, 40]), (2, [0, 1], [37, 38, 39, 40]), (3, [0, 1, 2], [37, 38, 39, 40]), (4, [], [33, 34, 35, 36, 38]), (5, [], [33, 34, 35, 36, 37]), (6, [4, 5], [33, 34, 35, 36]), (7, [4, 5, 6], [33, 34, 35, 36]), (8, [0, 1, 2, 3, 4, 5, 6, 7], [])] mixed (by kernel_rfl) ?_
      repeat' first | refine wr (by omega) ?_ | refine ln ?_ | refine stp lay_ok rfl ?_ | refine fin ?_ | refine n_thn ?_ | refine n_blk ?_ | refine e_thn ?_ | refine e_hit ?_ | refine e_miss rfl ?_ | refine r_thn ?_ | refine r_blk ?_ | refine e_rr ?_ | refine r_rr ?_ | refine e_cr ?_ | refine r_cr ?_ | refine .seq ?_ | refine reg ?_ | refine .block ?_ | refine .skip ?_ | refine .ret ?_ | refine .exit ?_ | refine cndT rfl ?_ | refine cndF rfl ?_ | refine c_dec rfl (fun hc => ?_) (fun hc => ?_) | refine c_ndec rfl (fun hc => ?_) (fun hc => ?_) | refine cnd rfl (fun hc => ?_) (fun hc => ?_) | ((first | refine o_none rfl ?_ | refine o_none_ ?_ | refine o_yes rfl rfl rfl ?_ | refine o_yes_ rfl rfl ?_); first | refine st_index (rowS a[k]) lay_ok rfl rfl rfl rfl (by omega) hat ?_ | refine st_index (rowS b[k]) lay_ok rfl rfl rfl rfl (by omega) hbt ?_) | refine gd rfl rfl rfl (fun hg => ?_) (fun hg => ?_) | refine gn rfl rfl rfl (fun hg => ?_) (fun hg => ?_) | refine dwr (by omega) ?_ | refine dwl ?_ | refine dws lay_ok rfl rfl rfl rfl rfl rfl rfl ?_ | refine dwu lay_ok rfl rfl rfl rfl rfl rfl rfl rfl rfl ?_ | refine dw_end ?_ | refine dw_skip rfl rfl rfl ?_ | refine dwn lay_ok rfl rfl rfl rfl rfl ?_ | refine dwb rfl rfl rfl rfl rfl (by (first | refine st_index (rowS a[k]) lay_ok rfl rfl rfl rfl (by omega) hat ?_ | refine st_index (rowS b[k]) lay_ok rfl rfl rfl rfl (by omega) hbt ?_); exact fin rfl) rfl rfl ?_ | refine dwg rfl rfl rfl rfl rfl (by (first | refine st_index (rowS a[k]) lay_ok rfl rfl rfl rfl (by omega) hat ?_ | refine st_index (rowS b[k]) lay_ok rfl rfl rfl rfl (by omega) hbt ?_); exact fin rfl) rfl rfl rfl rfl rfl ?_ | refine dw_dec rfl rfl rfl (fun hg => ?_) (fun hg => ?_) | refine dw_ndec rfl rfl rfl (fun hg => ?_) (fun hg => ?_)
      · refine f_r [] rfl trivial rfl ⟨?_, rfl⟩
        rw [hu, decide_eq_false (fun e => hc (by
          have e2 := congrArg (fun l => l[k]?) e
          simp only [List.getElem?_take, hka, if_true] at e2
          rw [List.getElem?_eq_getElem hka, List.getElem?_eq_getElem hkb] at e2
          exact Option.some.inj e2))]; rfl
      · refine n_rr (k + 1) ?_ (.of [] (by (repeat' first | exact trivial | refine And.intro ?_ ?_ | rfl); first | done | fail) (by (repeat' first | exact trivial | refine And.intro ?_ ?_ | rfl); first | done | fail) rfl) ?_
        · omega
        · refine ⟨hka, fun j h1 h2 h3 => ?_⟩
          by_cases hj : j = k
          · subst hj; exact Decidable.not_not.1 hc
          · exact hall j h1 h2 (by omega)
    · refine f_r [] rfl trivial rfl ⟨?_, rfl⟩
      rw [hu, decide_eq_true (List.ext_getElem (by rw [List.length_take]; omega) fun j h1 h2 => by
        rw [List.getElem_take]; exact hall j h1 (by rw [List.length_take] at h2; omega) (by omega))]; rfl
end Go.Proofs.YtmekcbbieacioaaGreatDoorFn
namespace Go.Proofs.YtmekcbbieacioaaGreatDoorFn
open Go.Proofs.YtmekcbbieacioaaGreatDoorAl Go.Proofs.Tryz
/-! ### under, by the text -/
theorem partOk_nil : partOk ⟨#[]⟩ = false := by
  unfold partOk runs
  rfl
theorem pathOk_spl (s : ByteArray) : pathOk s = (decide ((spl s.data.toList).length ≤ 8) && (spl s.data.toList).all fun l => partOk ⟨l.toArray⟩) := by
  unfold pathOk partsOf
  rw [List.length_map, List.all_map]; rfl
/-- The law's own words. -/
def textU (d p : ByteArray) : Prop := p.size > d.size + 1 ∧ p.extract 0 (d.size + 1) = d ++ slash
instance (d p : ByteArray) : Decidable (textU d p) := inferInstanceAs (Decidable (_ ∧ _))
theorem cat_size (d : ByteArray) : (d ++ slash).size = d.size + 1 := by rw [ByteArray.size_append]; rfl
theorem textU_iff {d p : ByteArray} (hp : pathOk p = true) : textU d p ↔ under d p = true := by
  have hpre := pre_list d p
  rw [cat_size] at hpre
  have hu : under d p = true ↔ pathOk d = true ∧ ∃ t, p.data.toList = d.data.toList ++ 47 :: t := by
    unfold under
    rw [hp, Bool.and_true, Bool.and_eq_true, decide_eq_true_eq, cat_size, hpre]
  rw [hu]
  have hps := hp
  rw [pathOk_spl, Bool.and_eq_true, decide_eq_true_eq] at hps
  constructor
  · rintro ⟨h1, h2⟩
    obtain ⟨t, ht⟩ := hpre.1 ⟨by omega, h2⟩
    refine ⟨?_, t, ht⟩
    rw [ht, spl_app, List.length_append, List.all_append, Bool.and_eq_true] at hps
    rw [pathOk_spl, Bool.and_eq_true, decide_eq_true_eq]
    exact ⟨by omega, hps.2.1⟩
  · rintro ⟨h1, t, ht⟩
    obtain ⟨h3, h4⟩ := hpre.2 ⟨t, ht⟩
    refine ⟨?_, h4⟩
    rcases Nat.lt_or_ge (d.size + 1) p.size with h | h
    · exact h
    · exfalso
      have hsz : p.data.toList.length = d.data.toList.length + 1 := by
        rw [Array.length_toList, Array.length_toList]
        show p.size = d.size + 1
        omega
      rw [ht, List.length_append, List.length_cons] at hsz
      have htn : t = [] := List.length_eq_zero_iff.1 (by omega)
      subst htn
      rw [ht, spl_app, List.all_append, Bool.and_eq_true] at hps
      have := hps.2.2
      simp only [spl, List.all_cons, List.all_nil, Bool.and_true] at this
      rw [partOk_nil] at this
      cases this
theorem tree_path {l : List EV} (hb : badFrom l l.length 0 = none) (i : Nat) (hi : i < l.length) : pathOk l[i].path = true := by
  have h := badFrom_none l l.length 0 hb i (Nat.zero_le _) (by omega) hi
  unfold entryC at h
  cases hp : pathOk l[i].path with
  | true => rfl
  | false => rw [hp] at h; cases h
theorem tree_whole {l : List EV} (hb : badFrom l l.length 0 = none) (i : Nat) (hi : i < l.length) : wholeB l[i] = true := by
  have h := badFrom_none l l.length 0 hb i (Nat.zero_le _) (by omega) hi
  unfold entryC at h
  rw [if_pos (tree_path hb i hi)] at h
  have key : ∀ (X W : Bool), (if X = true then some (4 : Int) else if W = true then none else some 1) = none → W = true := by
    intro X W h; cases X <;> cases W <;> simp at h ⊢
  exact key _ _ h
/-- Where a path's entry is, in a tree. -/
theorem find_at {l : List EV} (hb : badFrom l l.length 0 = none) (i : Nat) (hi : i < l.length) : loE l l[i].path = i := by
  refine loE_eq (by omega) (fun q hq hqi => ?_) (fun q hq hiq => ?_)
  · rw [cmS_lt]; exact tree_sorted hb q i hqi hi
  · rw [cmS_lt]
    intro h
    by_cases hiq' : i = q
    · subst hiq'
      rw [strLt_iff] at h
      exact List.lt_irrefl _ h
    · have h2 := tree_sorted hb i q (by omega) hq
      rw [strLt_iff] at h h2
      exact List.lt_irrefl _ (List.lt_trans h h2)
theorem findR_hit {l : List EV} (h32 : ¬ 32 < l.length) (hb : badFrom l l.length 0 = none) (i : Nat) (hi : i < l.length) : findR l l[i].path = .tuple [.st (.agg (rowE l[i])), nilE] := by
  unfold findR
  rw [if_neg h32, hb]
  simp only
  rw [find_at hb i hi, List.getElem?_eq_getElem hi]
  simp
theorem findR_miss {l : List EV} {t : ByteArray} (h32 : ¬ 32 < l.length) (hb : badFrom l l.length 0 = none) (h : ∀ e ∈ l, e.path ≠ t) : findR l t = .tuple [.st (.agg zE), errE 3] := by
  unfold findR
  rw [if_neg h32, hb]
  simp only
  split
  · rename_i e he
    rw [if_neg (h e (List.mem_of_getElem? he))]
  · rfl
end Go.Proofs.YtmekcbbieacioaaGreatDoorFn
namespace Go.Proofs.YtmekcbbieacioaaGreatDoorFn
open Go.Proofs.YtmekcbbieacioaaGreatDoorAl Go.Proofs.Tryz Go.ChangeAt Go.RowKit
/-! ### what arguments of the laws' types read as -/
abbrev ΦI (xs : List SV) : Prop := ∃ n, xs = [.int .i64 n] ∧ (Lit.int .i64 n).wf = true
theorem rdI : Rd prog 3 ΦI := rd_int underlying3
abbrev ΦU8 (xs : List SV) : Prop := ∃ n, xs = [.int .u8 n] ∧ (Lit.int .u8 n).wf = true
theorem rdU8 : Rd prog 5 ΦU8 := rd_int underlying5
abbrev ΦB (xs : List SV) : Prop := ∃ b, xs = [.bool b]
theorem rdB : Rd prog 4 ΦB := rd_bool underlying4
abbrev ΦS (xs : List SV) : Prop := ∃ s : ByteArray, xs = [.str s] ∧ s.size ≤ reachBytes
theorem rdS : Rd prog 9 ΦS := rd_str underlying9
abbrev ΦL (sz bytes : Nat) (Φ : List SV → Prop) (xs : List SV) : Prop := ∃ rows, xs = [.sl sz rows] ∧ (∀ row ∈ rows, Φ row) ∧ rows.length * bytes ≤ reachBytes
theorem rdLB : Rd prog 131 (ΦL 1 1 ΦU8) := rd_slice underlying131 (by kernel_rfl) (by kernel_rfl) rfl rdU8
theorem rdLS : Rd prog 39 (ΦL 1 16 ΦS) := rd_slice underlying39 (by kernel_rfl) (by kernel_rfl) rfl rdS
theorem cI : prog.cellsOf 3 = 1 := by kernel_rfl
theorem cB : prog.cellsOf 4 = 1 := by kernel_rfl
theorem cS : prog.cellsOf 9 = 1 := by kernel_rfl
theorem cLS : prog.cellsOf 39 = 1 := by kernel_rfl
theorem cE : prog.cellsOf 41 = 3 := by kernel_rfl
theorem cLE : prog.cellsOf 27 = 1 := by kernel_rfl
abbrev ΦE : List SV → Prop := Pieces [ΦS, ΦI, ΦL 1 16 ΦS]
theorem rdE : Rd prog 41 ΦE := rd_struct underlying41 ⟨rfl, rdS, by rw [cS], rdI, by rw [cI, cS], rdLS, by rw [cE, cI, cS, cLS]; rfl⟩
theorem rdLE : Rd prog 27 (ΦL 3 48 ΦE) := rd_slice underlying27 (by kernel_rfl) (by kernel_rfl) rfl rdE
/-- What is true of whatever a reader of memory brings: sizes that memory has room for. -/
def EV.inMem (e : EV) : Prop := e.path.size ≤ reachBytes ∧ e.keys.length * 16 ≤ reachBytes ∧ ∀ k ∈ e.keys, k.size ≤ reachBytes
theorem ofSs {rows : List (List SV)} (h : ∀ row ∈ rows, ΦS row) : ∃ l : List ByteArray, rows = l.map rowS ∧ ∀ s ∈ l, s.size ≤ reachBytes :=
  rows_map (f := rowS) (Ok := fun s => s.size ≤ reachBytes) h
theorem ofE {xs : List SV} (h : ΦE xs) : ∃ e : EV, xs = rowE e ∧ e.inMem := by
  obtain ⟨_, _, rfl, ⟨p, rfl, hp⟩, _, _, rfl, ⟨z, rfl, _⟩, _, _, rfl, ⟨rows, rfl, hr, hl⟩, rfl⟩ := h
  obtain ⟨l, rfl, hs⟩ := ofSs hr
  exact ⟨⟨p, z, l⟩, rfl, hp, by simpa using hl, hs⟩
/-! ### files and cuts -/
theorem cF : prog.cellsOf 58 = 2 := by kernel_rfl
abbrev ΦF : List SV → Prop := Pieces [ΦS, ΦS]
theorem rdF : Rd prog 58 ΦF := rd_struct underlying58 ⟨rfl, rdS, by rw [cS], rdS, by rw [cF, cS]; rfl⟩
theorem rdLF : Rd prog 22 (ΦL 2 32 ΦF) := rd_slice underlying22 (by kernel_rfl) (by kernel_rfl) rfl rdF
theorem cC : prog.cellsOf 24 = 3 := by kernel_rfl
abbrev ΦC : List SV → Prop := Pieces [ΦI, ΦI, ΦI]
theorem rdC : Rd prog 24 ΦC := rd_struct underlying24 ⟨rfl, rdI, by rw [cI], rdI, by rw [cI], rdI, by rw [cC, cI]; rfl⟩
end Go.Proofs.YtmekcbbieacioaaGreatDoorFn
namespace Go.Proofs.YtmekcbbieacioaaGreatDoorFn
open Go.Proofs.YtmekcbbieacioaaGreatDoorAl Go.Proofs.Tryz Go.ChangeAt Go.RowKit
/-! ### what files and cuts read as -/
def FV.inMem (e : FV) : Prop := e.path.size ≤ reachBytes ∧ e.bytes.size ≤ reachBytes
theorem ofF {xs : List SV} (h : ΦF xs) : ∃ e : FV, xs = rowF e ∧ e.inMem := by
  obtain ⟨_, _, rfl, ⟨p, rfl, hp⟩, _, _, rfl, ⟨z, rfl, hz⟩, rfl⟩ := h
  exact ⟨⟨p, z⟩, rfl, hp, hz⟩
theorem ofC {xs : List SV} (h : ΦC xs) : ∃ c : CV, xs = [.int .i64 c.mn, .int .i64 c.mx, .int .i64 c.ms] := by
  obtain ⟨_, _, rfl, ⟨a, rfl, _⟩, _, _, rfl, ⟨b, rfl, _⟩, _, _, rfl, ⟨m, rfl, _⟩, rfl⟩ := h
  exact ⟨⟨a, b, m⟩, rfl⟩
end Go.Proofs.YtmekcbbieacioaaGreatDoorFn
namespace Go.Proofs.YtmekcbbieacioaaGreatDoorFn
open Go.Proofs.YtmekcbbieacioaaGreatDoorAl Go.Proofs.Tryz
attribute [local irreducible] IntKind.wrap CodeOk OpsL OpG ACalls thn inBlk rndR cutR WkR Wk fnR DW ExtOk partsOf
theorem b16 : HasBody prog 16 := ⟨f16, func16, Option.some_ne_none _, by decide⟩
def shortK (l : List ByteArray) : Bool := l.all fun k => decide (k.size ≤ 2000)
def shortV (e : EV) : Bool := decide (e.path.size ≤ 2000) && decide (e.keys.length ≤ 1200) && shortK e.keys
def shortE (l : List EV) : Bool := decide (l.length ≤ 100) && l.all shortV
set_option maxRecDepth 4000 in
theorem short4_ok (l : List EV) : ACalls prog 16 0 [.st (.sl 3 (l.map rowE))] [] fun r h => r = B (shortE l) ∧ h = [] := by
  have hm : (List.map rowE l).length = l.length := List.length_map _
  have hW : shortE l = (decide (l.length ≤ 100) && l.all shortV) := rfl
  generalize shortE l = W at *
  refine fnC lay_ok func16 rfl rfl rfl rfl rfl ?_
  repeat' first | refine wr (by omega) ?_ | refine ln ?_ | refine stp lay_ok rfl ?_ | refine fin ?_ | refine n_thn ?_ | refine n_blk ?_ | refine e_thn ?_ | refine e_hit ?_ | refine e_miss rfl ?_ | refine r_thn ?_ | refine r_blk ?_ | refine e_rr ?_ | refine r_rr ?_ | refine e_cr ?_ | refine r_cr ?_ | refine .seq ?_ | refine reg ?_ | refine .block ?_ | refine .skip ?_ | refine .ret ?_ | refine .exit ?_ | refine cndT rfl ?_ | refine cndF rfl ?_ | refine c_dec rfl (fun hc => ?_) (fun hc => ?_) | refine c_ndec rfl (fun hc => ?_) (fun hc => ?_) | refine cnd rfl (fun hc => ?_) (fun hc => ?_) | refine gd rfl rfl rfl (fun hg => ?_) (fun hg => ?_) | refine gn rfl rfl rfl (fun hg => ?_) (fun hg => ?_)
  · refine f_r [] rfl trivial rfl ⟨?_, rfl⟩
    rw [hW, decide_eq_false (by omega)]; rfl
  have h100 : l.length ≤ 100 := by omega
  rw [decide_eq_true h100, Bool.true_and] at hW
  refine lpR (fun k => k ≤ l.length ∧ (l.take k).all shortV = true) (fun k => l.length - k) (fun k => [(3, I k)]) (fun k => []) (0) [0] [] [] rfl rfl rfl (.of [] (by (repeat' first | exact trivial | refine And.intro ?_ ?_ | rfl); first | done | fail) (by (repeat' first | exact trivial | refine And.intro ?_ ?_ | rfl); first | done | fail) rfl) ?_ ?_
  · exact ⟨Nat.zero_le _, rfl⟩
  rintro k ⟨h1, h2⟩
  refine nrm rfl rfl ?_
  by_cases hk : k < l.length
  case neg =>
    have hke : k = l.length := by omega
    subst hke
    rw [List.take_length] at h2
    repeat' first | refine wr (by omega) ?_ | refine ln ?_ | refine stp lay_ok rfl ?_ | refine fin ?_ | refine n_thn ?_ | refine n_blk ?_ | refine e_thn ?_ | refine e_hit ?_ | refine e_miss rfl ?_ | refine r_thn ?_ | refine r_blk ?_ | refine e_rr ?_ | refine r_rr ?_ | refine e_cr ?_ | refine r_cr ?_ | refine .seq ?_ | refine reg ?_ | refine .block ?_ | refine .skip ?_ | refine .ret ?_ | refine .exit ?_ | refine cndT rfl ?_ | refine cndF rfl ?_ | refine c_dec rfl (fun hc => ?_) (fun hc => ?_) | refine c_ndec rfl (fun hc => ?_) (fun hc => ?_) | refine cnd rfl (fun hc => ?_) (fun hc => ?_) | refine gd rfl rfl rfl (fun hg => ?_) (fun hg => ?_) | refine gn rfl rfl rfl (fun hg => ?_) (fun hg => ?_)
    all_goals first
      | (exfalso; omega)
      | (refine f_r [] rfl trivial rfl ⟨?_, rfl⟩; rw [hW, h2]; rfl)
  have hat := at_rowE hk
  have ha := all_take (p := shortV) hk
  have hna := all_not (p := shortV) hk
  have hsv : shortV l[k] = (decide (l[k].path.size ≤ 2000) && decide (l[k].keys.length ≤ 1200) && shortK l[k].keys) := rfl
  generalize l[k] = e at *
  obtain ⟨p, z, ks⟩ := e
  simp only at hsv
  generalize shortV ⟨p, z, ks⟩ = V at *
  have hmk : (List.map rowS ks).length = ks.length := List.length_map _
  by_cases hc1 : p.size ≤ 2000 ∧ ks.length ≤ 1200
  case neg =>
    have hV : V = false := by
      rw [hsv]
      rcases Nat.lt_or_ge 2000 p.size with h | h
      · rw [decide_eq_false (by omega)]; rfl
      · rw [decide_eq_false (p := ks.length ≤ 1200) (by omega)]; simp
    have hWf := hW.trans (hna hV)
    repeat' first | refine wr (by omega) ?_ | refine ln ?_ | refine stp lay_ok rfl ?_ | refine fin ?_ | refine n_thn ?_ | refine n_blk ?_ | refine e_thn ?_ | refine e_hit ?_ | refine e_miss rfl ?_ | refine r_thn ?_ | refine r_blk ?_ | refine e_rr ?_ | refine r_rr ?_ | refine e_cr ?_ | refine r_cr ?_ | refine .seq ?_ | refine reg ?_ | refine .block ?_ | refine .skip ?_ | refine .ret ?_ | refine .exit ?_ | refine cndT rfl ?_ | refine cndF rfl ?_ | refine c_dec rfl (fun hc => ?_) (fun hc => ?_) | refine c_ndec rfl (fun hc => ?_) (fun hc => ?_) | refine cnd rfl (fun hc => ?_) (fun hc => ?_) | ((first | refine o_none rfl ?_ | refine o_none_ ?_ | refine o_yes rfl rfl rfl ?_ | refine o_yes_ rfl rfl ?_); first | refine st_index (rowE ⟨p, z, ks⟩) lay_ok rfl rfl rfl rfl (by omega) hat ?_) | refine gd rfl rfl rfl (fun hg => ?_) (fun hg => ?_) | refine gn rfl rfl rfl (fun hg => ?_) (fun hg => ?_)
    all_goals first
      | (exfalso; omega)
      | (refine f_r [] rfl trivial rfl ⟨?_, rfl⟩; rw [hWf]; rfl)
      | (exfalso; simp only at *; omega)
  rw [decide_eq_true hc1.1, decide_eq_true hc1.2, Bool.true_and, Bool.true_and] at hsv
  repeat' first | refine wr (by omega) ?_ | refine ln ?_ | refine stp lay_ok rfl ?_ | refine fin ?_ | refine n_thn ?_ | refine n_blk ?_ | refine e_thn ?_ | refine e_hit ?_ | refine e_miss rfl ?_ | refine r_thn ?_ | refine r_blk ?_ | refine e_rr ?_ | refine r_rr ?_ | refine e_cr ?_ | refine r_cr ?_ | refine .seq ?_ | refine reg ?_ | refine .block ?_ | refine .skip ?_ | refine .ret ?_ | refine .exit ?_ | refine cndT rfl ?_ | refine cndF rfl ?_ | refine c_dec rfl (fun hc => ?_) (fun hc => ?_) | refine c_ndec rfl (fun hc => ?_) (fun hc => ?_) | refine cnd rfl (fun hc => ?_) (fun hc => ?_) | ((first | refine o_none rfl ?_ | refine o_none_ ?_ | refine o_yes rfl rfl rfl ?_ | refine o_yes_ rfl rfl ?_); first | refine st_index (rowE ⟨p, z, ks⟩) lay_ok rfl rfl rfl rfl (by omega) hat ?_) | refine gd rfl rfl rfl (fun hg => ?_) (fun hg => ?_) | refine gn rfl rfl rfl (fun hg => ?_) (fun hg => ?_)
  all_goals first
    | (exfalso; omega)
    | (exfalso; simp only at *; omega)
    | skip
  refine lpR (fun j => j ≤ ks.length ∧ shortK (ks.take j) = true) (fun j => ks.length - j) (fun j => [(4, I j)]) (fun j => []) (0) [0, 3] [] [] rfl rfl rfl (.of [] (by (repeat' first | exact trivial | refine And.intro ?_ ?_ | rfl); first | done | fail) (by (repeat' first | exact trivial | refine And.intro ?_ ?_ | rfl); first | done | fail) rfl) ?_ ?_
  · exact ⟨Nat.zero_le _, rfl⟩
  rintro j ⟨j1, j2⟩
  refine nrm rfl rfl ?_
  by_cases hj : j < ks.length
  · have hatk := at_rowS hj
    have hak := all_take (p := fun k : ByteArray => decide (k.size ≤ 2000)) hj
    have hnk := all_not (p := fun k : ByteArray => decide (k.size ≤ 2000)) hj
    generalize ks[j] = x at *
    by_cases hx : x.size ≤ 2000
    · repeat' first | refine wr (by omega) ?_ | refine ln ?_ | refine stp lay_ok rfl ?_ | refine fin ?_ | refine n_thn ?_ | refine n_blk ?_ | refine e_thn ?_ | refine e_hit ?_ | refine e_miss rfl ?_ | refine r_thn ?_ | refine r_blk ?_ | refine e_rr ?_ | refine r_rr ?_ | refine e_cr ?_ | refine r_cr ?_ | refine .seq ?_ | refine reg ?_ | refine .block ?_ | refine .skip ?_ | refine .ret ?_ | refine .exit ?_ | refine cndT rfl ?_ | refine cndF rfl ?_ | refine c_dec rfl (fun hc => ?_) (fun hc => ?_) | refine c_ndec rfl (fun hc => ?_) (fun hc => ?_) | refine cnd rfl (fun hc => ?_) (fun hc => ?_) | ((first | refine o_none rfl ?_ | refine o_none_ ?_ | refine o_yes rfl rfl rfl ?_ | refine o_yes_ rfl rfl ?_); first | refine st_index (rowE ⟨p, z, ks⟩) lay_ok rfl rfl rfl rfl (by omega) hat ?_ | refine st_index (rowS x) lay_ok rfl rfl rfl rfl (by omega) hatk ?_) | refine gd rfl rfl rfl (fun hg => ?_) (fun hg => ?_) | refine gn rfl rfl rfl (fun hg => ?_) (fun hg => ?_)
      all_goals first
        | (exfalso; omega)
        | (exfalso; simp only at *; omega)
        | skip
      refine n_rr (j + 1) ?_ (.of [] (by (repeat' first | exact trivial | refine And.intro ?_ ?_ | rfl); first | done | fail) (by (repeat' first | exact trivial | refine And.intro ?_ ?_ | rfl); first | done | fail) rfl) ?_
      · omega
      · refine ⟨hj, ?_⟩
        show (List.take (j + 1) ks).all (fun k : ByteArray => decide (k.size ≤ 2000)) = true
        rw [hak, show (List.take j ks).all (fun k : ByteArray => decide (k.size ≤ 2000)) = true from j2, decide_eq_true hx]; rfl
    · have hkf : shortK ks = false := hnk (decide_eq_false hx)
      have hWf := hW.trans (hna (hsv.trans hkf))
      repeat' first | refine wr (by omega) ?_ | refine ln ?_ | refine stp lay_ok rfl ?_ | refine fin ?_ | refine n_thn ?_ | refine n_blk ?_ | refine e_thn ?_ | refine e_hit ?_ | refine e_miss rfl ?_ | refine r_thn ?_ | refine r_blk ?_ | refine e_rr ?_ | refine r_rr ?_ | refine e_cr ?_ | refine r_cr ?_ | refine .seq ?_ | refine reg ?_ | refine .block ?_ | refine .skip ?_ | refine .ret ?_ | refine .exit ?_ | refine cndT rfl ?_ | refine cndF rfl ?_ | refine c_dec rfl (fun hc => ?_) (fun hc => ?_) | refine c_ndec rfl (fun hc => ?_) (fun hc => ?_) | refine cnd rfl (fun hc => ?_) (fun hc => ?_) | ((first | refine o_none rfl ?_ | refine o_none_ ?_ | refine o_yes rfl rfl rfl ?_ | refine o_yes_ rfl rfl ?_); first | refine st_index (rowE ⟨p, z, ks⟩) lay_ok rfl rfl rfl rfl (by omega) hat ?_ | refine st_index (rowS x) lay_ok rfl rfl rfl rfl (by omega) hatk ?_) | refine gd rfl rfl rfl (fun hg => ?_) (fun hg => ?_) | refine gn rfl rfl rfl (fun hg => ?_) (fun hg => ?_)
      all_goals first
        | (exfalso; omega)
        | (exfalso; simp only at *; omega)
        | (refine f_r [] rfl trivial rfl ⟨?_, rfl⟩; rw [hWf]; rfl)
  · have hje : j = ks.length := by omega
    subst hje
    rw [List.take_length] at j2
    repeat' first | refine wr (by omega) ?_ | refine ln ?_ | refine stp lay_ok rfl ?_ | refine fin ?_ | refine n_thn ?_ | refine n_blk ?_ | refine e_thn ?_ | refine e_hit ?_ | refine e_miss rfl ?_ | refine r_thn ?_ | refine r_blk ?_ | refine e_rr ?_ | refine r_rr ?_ | refine e_cr ?_ | refine r_cr ?_ | refine .seq ?_ | refine reg ?_ | refine .block ?_ | refine .skip ?_ | refine .ret ?_ | refine .exit ?_ | refine cndT rfl ?_ | refine cndF rfl ?_ | refine c_dec rfl (fun hc => ?_) (fun hc => ?_) | refine c_ndec rfl (fun hc => ?_) (fun hc => ?_) | refine cnd rfl (fun hc => ?_) (fun hc => ?_) | ((first | refine o_none rfl ?_ | refine o_none_ ?_ | refine o_yes rfl rfl rfl ?_ | refine o_yes_ rfl rfl ?_); first | refine st_index (rowE ⟨p, z, ks⟩) lay_ok rfl rfl rfl rfl (by omega) hat ?_) | refine gd rfl rfl rfl (fun hg => ?_) (fun hg => ?_) | refine gn rfl rfl rfl (fun hg => ?_) (fun hg => ?_)
    all_goals first
      | (exfalso; omega)
      | (exfalso; simp only at *; omega)
      | skip
    refine n_rr (k + 1) ?_ (.of [] (by (repeat' first | exact trivial | refine And.intro ?_ ?_ | rfl); first | done | fail) (by (repeat' first | exact trivial | refine And.intro ?_ ?_ | rfl); first | done | fail) rfl) ?_
    · omega
    · exact ⟨hk, by rw [ha, h2, hsv, j2]; rfl⟩
end Go.Proofs.YtmekcbbieacioaaGreatDoorFn
namespace Go.Proofs.YtmekcbbieacioaaGreatDoorFn
open Go.Proofs.YtmekcbbieacioaaGreatDoorAl Go.Proofs.Tryz
attribute [local irreducible] IntKind.wrap CodeOk OpsL OpG ACalls thn inBlk rndR cutR WkR Wk fnR DW ExtOk partsOf
theorem b5 : HasBody prog 5 := ⟨f5, func5, Option.some_ne_none _, by decide⟩
theorem short_bounds' {l : List EV} (h : shortE l = true) : l.length ≤ 100 ∧ ∀ e ∈ l, e.path.size ≤ 2000 ∧ e.keys.length ≤ 1200 := by
  unfold shortE at h
  rw [Bool.and_eq_true, decide_eq_true_eq] at h
  refine ⟨h.1, fun e he => ?_⟩
  have := List.all_eq_true.1 h.2 e he
  unfold shortV at this
  simp only [Bool.and_eq_true, decide_eq_true_eq] at this
  exact this.1
theorem belP_path {t : ByteArray} {e e' : EV} (h : e.path = e'.path) : belP t e = belP t e' := by unfold belP; rw [h]
theorem belL_nil (l : List EV) : belL' l ⟨#[]⟩ = l.map (·.path) := by
  unfold belL'
  congr 1
  exact List.filter_eq_self.2 fun e _ => by simp [belP]
theorem belL_drop {l : List EV} {b : Nat} (t : ByteArray) (h : b < l.length) : belL' (l.drop b) t = if belP t l[b] = true then l[b].path :: belL' (l.drop (b + 1)) t else belL' (l.drop (b + 1)) t := by
  rw [List.drop_eq_getElem_cons h]
  unfold belL'
  cases hb : belP t l[b] <;> simp only [List.filter_cons, hb, if_true, List.map_cons, Bool.false_eq_true, if_false]
theorem belL_bel {l : List EV} {t p : ByteArray} (h : p ∈ belL' l t) {e : EV} (he : e.path = p) : belP t e = true := by
  unfold belL' at h
  obtain ⟨e', h1, rfl⟩ := List.mem_map.1 h
  rw [belP_path he]
  exact (List.mem_filter.1 h1).2
theorem belL_len (l : List EV) (t : ByteArray) : (belL' l t).length ≤ l.length := by
  unfold belL'
  rw [List.length_map]
  exact List.length_filter_le _ _
set_option maxHeartbeats 4000000 in
theorem below_long (o' : Obj) (l : List EV) (t : ByteArray) (hu : ACalls prog 10 1 [] [(0, .fact 0 o')] fun r h => r = B true ∧ h = [(0, .fact 0 o')])
    (hs : ACalls prog 16 0 [.st (.sl 3 (l.map rowE))] [] fun r h => r = B (shortE l) ∧ h = []) (h : shortE l = false ∨ 2000 < t.size) (ht : t.size ≤ 140737488351232) :
    ACalls prog 5 1 [.st (.sl 3 (l.map rowE)), Sx t] [(0, .fact 0 o')] fun r h => r = B true ∧ h = [(0, .fact 0 o')] := by
  refine fnC lay_ok func5 rfl rfl rfl rfl rfl ?_
  cases hse : shortE l with
  | false =>
    rw [hse] at hs
    repeat' first | refine wr (by omega) ?_ | refine ln ?_ | refine stp lay_ok rfl ?_ | refine fin ?_ | refine n_thn ?_ | refine n_blk ?_ | refine e_thn ?_ | refine e_hit ?_ | refine e_miss rfl ?_ | refine r_thn ?_ | refine r_blk ?_ | refine e_rr ?_ | refine r_rr ?_ | refine e_cr ?_ | refine r_cr ?_ | refine .seq ?_ | refine reg ?_ | refine .block ?_ | refine .skip ?_ | refine .ret ?_ | refine .exit ?_ | refine cndT rfl ?_ | refine cndF rfl ?_ | refine c_dec rfl (fun hc => ?_) (fun hc => ?_) | refine c_ndec rfl (fun hc => ?_) (fun hc => ?_) | refine cnd rfl (fun hc => ?_) (fun hc => ?_) | ((first | refine o_none rfl ?_ | refine o_none_ ?_ | refine o_yes rfl rfl rfl ?_ | refine o_yes_ rfl rfl ?_); first | refine st_callK [0] (hu) b10 rfl rfl rfl rfl rfl (by (repeat' first | exact trivial | refine And.intro ?_ ?_ | rfl); first | done | fail) ?_ | refine st_pure (hs) b16 rfl rfl rfl rfl ?_) | refine gd rfl rfl rfl (fun hg => ?_) (fun hg => ?_) | refine gn rfl rfl rfl (fun hg => ?_) (fun hg => ?_) | refine dwr (by omega) ?_ | refine dwl ?_ | refine dws lay_ok rfl rfl rfl rfl rfl rfl rfl ?_ | refine dwu lay_ok rfl rfl rfl rfl rfl rfl rfl rfl rfl ?_ | refine dw_end ?_ | refine dw_skip rfl rfl rfl ?_ | refine dwn lay_ok rfl rfl rfl rfl rfl ?_ | refine dwb rfl rfl rfl rfl rfl (by (first | refine st_callK [0] (hu) b10 rfl rfl rfl rfl rfl (by (repeat' first | exact trivial | refine And.intro ?_ ?_ | rfl); first | done | fail) ?_ | refine st_pure (hs) b16 rfl rfl rfl rfl ?_); exact fin rfl) rfl rfl ?_ | refine dwg rfl rfl rfl rfl rfl (by (first | refine st_callK [0] (hu) b10 rfl rfl rfl rfl rfl (by (repeat' first | exact trivial | refine And.intro ?_ ?_ | rfl); first | done | fail) ?_ | refine st_pure (hs) b16 rfl rfl rfl rfl ?_); exact fin rfl) rfl rfl rfl rfl rfl ?_ | refine dw_dec rfl rfl rfl (fun hg => ?_) (fun hg => ?_) | refine dw_ndec rfl rfl rfl (fun hg => ?_) (fun hg => ?_)
    refine f_r [(0, .fact 0 o')] rfl (by (repeat' first | exact trivial | refine And.intro ?_ ?_ | rfl); first | done | fail) rfl ⟨?_, rfl⟩
    rfl
  | true =>
    have h2 : 2000 < t.size := by
      rcases h with h | h
      · rw [hse] at h; cases h
      · exact h
    rw [hse] at hs
    repeat' first | refine wr (by omega) ?_ | refine ln ?_ | refine stp lay_ok rfl ?_ | refine fin ?_ | refine n_thn ?_ | refine n_blk ?_ | refine e_thn ?_ | refine e_hit ?_ | refine e_miss rfl ?_ | refine r_thn ?_ | refine r_blk ?_ | refine e_rr ?_ | refine r_rr ?_ | refine e_cr ?_ | refine r_cr ?_ | refine .seq ?_ | refine reg ?_ | refine .block ?_ | refine .skip ?_ | refine .ret ?_ | refine .exit ?_ | refine cndT rfl ?_ | refine cndF rfl ?_ | refine c_dec rfl (fun hc => ?_) (fun hc => ?_) | refine c_ndec rfl (fun hc => ?_) (fun hc => ?_) | refine cnd rfl (fun hc => ?_) (fun hc => ?_) | ((first | refine o_none rfl ?_ | refine o_none_ ?_ | refine o_yes rfl rfl rfl ?_ | refine o_yes_ rfl rfl ?_); first | refine st_callK [0] (hu) b10 rfl rfl rfl rfl rfl (by (repeat' first | exact trivial | refine And.intro ?_ ?_ | rfl); first | done | fail) ?_ | refine st_pure (hs) b16 rfl rfl rfl rfl ?_) | refine gd rfl rfl rfl (fun hg => ?_) (fun hg => ?_) | refine gn rfl rfl rfl (fun hg => ?_) (fun hg => ?_) | refine dwr (by omega) ?_ | refine dwl ?_ | refine dws lay_ok rfl rfl rfl rfl rfl rfl rfl ?_ | refine dwu lay_ok rfl rfl rfl rfl rfl rfl rfl rfl rfl ?_ | refine dw_end ?_ | refine dw_skip rfl rfl rfl ?_ | refine dwn lay_ok rfl rfl rfl rfl rfl ?_ | refine dwb rfl rfl rfl rfl rfl (by (first | refine st_callK [0] (hu) b10 rfl rfl rfl rfl rfl (by (repeat' first | exact trivial | refine And.intro ?_ ?_ | rfl); first | done | fail) ?_ | refine st_pure (hs) b16 rfl rfl rfl rfl ?_); exact fin rfl) rfl rfl ?_ | refine dwg rfl rfl rfl rfl rfl (by (first | refine st_callK [0] (hu) b10 rfl rfl rfl rfl rfl (by (repeat' first | exact trivial | refine And.intro ?_ ?_ | rfl); first | done | fail) ?_ | refine st_pure (hs) b16 rfl rfl rfl rfl ?_); exact fin rfl) rfl rfl rfl rfl rfl ?_ | refine dw_dec rfl rfl rfl (fun hg => ?_) (fun hg => ?_) | refine dw_ndec rfl rfl rfl (fun hg => ?_) (fun hg => ?_)
    all_goals first
      | (exfalso; omega)
      | skip
    refine f_r [(0, .fact 0 o')] rfl (by (repeat' first | exact trivial | refine And.intro ?_ ?_ | rfl); first | done | fail) rfl ⟨?_, rfl⟩
    rfl
set_option maxHeartbeats 4000000 in
theorem below_bad (o' : Obj) (l : List EV) (t : ByteArray) (hu : ACalls prog 10 1 [] [(0, .fact 0 o')] fun r h => r = B true ∧ h = [(0, .fact 0 o')])
    (hs : ACalls prog 16 0 [.st (.sl 3 (l.map rowE))] [] fun r h => r = B true ∧ h = []) (ht : t.size ≤ 2000)
    (hb0 : ACalls prog 19 0 [.st (.sl 3 (l.map rowE)), Sx ⟨#[]⟩] [] fun r h => r = .st .nilsl ∧ h = [])
    (hb : ACalls prog 19 0 [.st (.sl 3 (l.map rowE)), Sx t] [] fun r h => r = .st .nilsl ∧ h = []) :
    ACalls prog 5 1 [.st (.sl 3 (l.map rowE)), Sx t] [(0, .fact 0 o')] fun r h => r = B true ∧ h = [(0, .fact 0 o')] := by
  refine fnC lay_ok func5 rfl rfl rfl rfl rfl ?_
  repeat' first | refine wr (by omega) ?_ | refine ln ?_ | refine stp lay_ok rfl ?_ | refine fin ?_ | refine n_thn ?_ | refine n_blk ?_ | refine e_thn ?_ | refine e_hit ?_ | refine e_miss rfl ?_ | refine r_thn ?_ | refine r_blk ?_ | refine e_rr ?_ | refine r_rr ?_ | refine e_cr ?_ | refine r_cr ?_ | refine .seq ?_ | refine reg ?_ | refine .block ?_ | refine .skip ?_ | refine .ret ?_ | refine .exit ?_ | refine cndT rfl ?_ | refine cndF rfl ?_ | refine c_dec rfl (fun hc => ?_) (fun hc => ?_) | refine c_ndec rfl (fun hc => ?_) (fun hc => ?_) | refine cnd rfl (fun hc => ?_) (fun hc => ?_) | ((first | refine o_none rfl ?_ | refine o_none_ ?_ | refine o_yes rfl rfl rfl ?_ | refine o_yes_ rfl rfl ?_); first | refine st_callK [0] (hu) b10 rfl rfl rfl rfl rfl (by (repeat' first | exact trivial | refine And.intro ?_ ?_ | rfl); first | done | fail) ?_ | refine st_pure (hs) b16 rfl rfl rfl rfl ?_ | refine st_pure (hb0) b19 rfl rfl rfl rfl ?_ | refine st_pure (hb) b19 rfl rfl rfl rfl ?_) | refine gd rfl rfl rfl (fun hg => ?_) (fun hg => ?_) | refine gn rfl rfl rfl (fun hg => ?_) (fun hg => ?_) | refine dwr (by omega) ?_ | refine dwl ?_ | refine dws lay_ok rfl rfl rfl rfl rfl rfl rfl ?_ | refine dwu lay_ok rfl rfl rfl rfl rfl rfl rfl rfl rfl ?_ | refine dw_end ?_ | refine dw_skip rfl rfl rfl ?_ | refine dwn lay_ok rfl rfl rfl rfl rfl ?_ | refine dwb rfl rfl rfl rfl rfl (by (first | refine st_callK [0] (hu) b10 rfl rfl rfl rfl rfl (by (repeat' first | exact trivial | refine And.intro ?_ ?_ | rfl); first | done | fail) ?_ | refine st_pure (hs) b16 rfl rfl rfl rfl ?_ | refine st_pure (hb0) b19 rfl rfl rfl rfl ?_ | refine st_pure (hb) b19 rfl rfl rfl rfl ?_); exact fin rfl) rfl rfl ?_ | refine dwg rfl rfl rfl rfl rfl (by (first | refine st_callK [0] (hu) b10 rfl rfl rfl rfl rfl (by (repeat' first | exact trivial | refine And.intro ?_ ?_ | rfl); first | done | fail) ?_ | refine st_pure (hs) b16 rfl rfl rfl rfl ?_ | refine st_pure (hb0) b19 rfl rfl rfl rfl ?_ | refine st_pure (hb) b19 rfl rfl rfl rfl ?_); exact fin rfl) rfl rfl rfl rfl rfl ?_ | refine dw_dec rfl rfl rfl (fun hg => ?_) (fun hg => ?_) | refine dw_ndec rfl rfl rfl (fun hg => ?_) (fun hg => ?_)
  all_goals first
    | (exfalso; omega)
    | skip
  refine lpR (fun (i, a) => i = 0 ∧ a = 0) (fun (i, a) => 0) (fun (i, a) => [(10, I i), (9, I a)]) (fun (i, a) => []) ((0, 0)) [0, 5, 7, 8] [] [] rfl rfl rfl (.of [] (by (repeat' first | exact trivial | refine And.intro ?_ ?_ | rfl); first | done | fail) (by (repeat' first | exact trivial | refine And.intro ?_ ?_ | rfl); first | done | fail) rfl) ?_ ?_
  · exact ⟨rfl, rfl⟩
  rintro ⟨i, a⟩ ⟨rfl, rfl⟩
  refine nrm rfl rfl ?_
  repeat' first | refine wr (by omega) ?_ | refine ln ?_ | refine stp lay_ok rfl ?_ | refine fin ?_ | refine n_thn ?_ | refine n_blk ?_ | refine e_thn ?_ | refine e_hit ?_ | refine e_miss rfl ?_ | refine r_thn ?_ | refine r_blk ?_ | refine e_rr ?_ | refine r_rr ?_ | refine e_cr ?_ | refine r_cr ?_ | refine .seq ?_ | refine reg ?_ | refine .block ?_ | refine .skip ?_ | refine .ret ?_ | refine .exit ?_ | refine cndT rfl ?_ | refine cndF rfl ?_ | refine c_dec rfl (fun hc => ?_) (fun hc => ?_) | refine c_ndec rfl (fun hc => ?_) (fun hc => ?_) | refine cnd rfl (fun hc => ?_) (fun hc => ?_) | refine gd rfl rfl rfl (fun hg => ?_) (fun hg => ?_) | refine gn rfl rfl rfl (fun hg => ?_) (fun hg => ?_) | refine dwr (by omega) ?_ | refine dwl ?_ | refine dws lay_ok rfl rfl rfl rfl rfl rfl rfl ?_ | refine dwu lay_ok rfl rfl rfl rfl rfl rfl rfl rfl rfl ?_ | refine dw_end ?_ | refine dw_skip rfl rfl rfl ?_ | refine dwn lay_ok rfl rfl rfl rfl rfl ?_ | refine dw_dec rfl rfl rfl (fun hg => ?_) (fun hg => ?_) | refine dw_ndec rfl rfl rfl (fun hg => ?_) (fun hg => ?_)
  all_goals first
    | (exfalso; simp at *; done)
    | skip
  refine f_r [(0, .fact 0 o')] rfl (by (repeat' first | exact trivial | refine And.intro ?_ ?_ | rfl); first | done | fail) rfl ⟨?_, rfl⟩
  rfl
set_option maxHeartbeats 8000000 in
set_option maxRecDepth 4000 in
theorem below_tree (o' : Obj) (l : List EV) (t : ByteArray) (hu : ACalls prog 10 1 [] [(0, .fact 0 o')] fun r h => r = B true ∧ h = [(0, .fact 0 o')])
    (hs : ACalls prog 16 0 [.st (.sl 3 (l.map rowE))] [] fun r h => r = B true ∧ h = []) (ht : t.size ≤ 2000) (hl : l.length ≤ 32)
    (hb0 : ACalls prog 19 0 [.st (.sl 3 (l.map rowE)), Sx ⟨#[]⟩] [] fun r h => r = .st (.sl 1 ((l.map (·.path)).map rowS)) ∧ h = [])
    (hb : ACalls prog 19 0 [.st (.sl 3 (l.map rowE)), Sx t] [] fun r h => r = .st (.sl 1 ((belL' l t).map rowS)) ∧ h = [])
    (hf : ∀ i (h : i < l.length), ACalls prog 18 0 [.st (.sl 3 (l.map rowE)), Sx l[i].path] [] fun r h' => r = .tuple [.st (.agg (rowE l[i])), nilE] ∧ h' = []) :
    ACalls prog 5 1 [.st (.sl 3 (l.map rowE)), Sx t] [(0, .fact 0 o')] fun r h => r = B true ∧ h = [(0, .fact 0 o')] := by
  have hS := belL_len l t
  have hSd : (belL' l t).drop 0 = belL' (l.drop 0) t := rfl
  generalize hSS : belL' l t = S at *
  have hA : ∀ i (h : i < l.length), (List.map rowS (l.map (·.path)))[((i : Nat) : Int).toNat]? = some (rowS l[i].path) := fun i h => by simp [h]
  have hAl : (List.map rowS (l.map (·.path))).length = l.length := by simp
  have hAl2 : (l.map (·.path)).length = l.length := List.length_map _
  have hms : (List.map rowS S).length = S.length := List.length_map _
  generalize l.map (·.path) = A at *
  refine fnC lay_ok func5 rfl rfl rfl rfl rfl ?_
  repeat' first | refine wr (by omega) ?_ | refine ln ?_ | refine stp lay_ok rfl ?_ | refine fin ?_ | refine n_thn ?_ | refine n_blk ?_ | refine e_thn ?_ | refine e_hit ?_ | refine e_miss rfl ?_ | refine r_thn ?_ | refine r_blk ?_ | refine e_rr ?_ | refine r_rr ?_ | refine e_cr ?_ | refine r_cr ?_ | refine .seq ?_ | refine reg ?_ | refine .block ?_ | refine .skip ?_ | refine .ret ?_ | refine .exit ?_ | refine cndT rfl ?_ | refine cndF rfl ?_ | refine c_dec rfl (fun hc => ?_) (fun hc => ?_) | refine c_ndec rfl (fun hc => ?_) (fun hc => ?_) | refine cnd rfl (fun hc => ?_) (fun hc => ?_) | ((first | refine o_none rfl ?_ | refine o_none_ ?_ | refine o_yes rfl rfl rfl ?_ | refine o_yes_ rfl rfl ?_); first | refine st_callK [0] (hu) b10 rfl rfl rfl rfl rfl (by (repeat' first | exact trivial | refine And.intro ?_ ?_ | rfl); first | done | fail) ?_ | refine st_pure (hs) b16 rfl rfl rfl rfl ?_ | refine st_pure (hb0) b19 rfl rfl rfl rfl ?_ | refine st_pure (hb) b19 rfl rfl rfl rfl ?_) | refine gd rfl rfl rfl (fun hg => ?_) (fun hg => ?_) | refine gn rfl rfl rfl (fun hg => ?_) (fun hg => ?_) | refine dwr (by omega) ?_ | refine dwl ?_ | refine dws lay_ok rfl rfl rfl rfl rfl rfl rfl ?_ | refine dwu lay_ok rfl rfl rfl rfl rfl rfl rfl rfl rfl ?_ | refine dw_end ?_ | refine dw_skip rfl rfl rfl ?_ | refine dwn lay_ok rfl rfl rfl rfl rfl ?_ | refine dwb rfl rfl rfl rfl rfl (by (first | refine st_callK [0] (hu) b10 rfl rfl rfl rfl rfl (by (repeat' first | exact trivial | refine And.intro ?_ ?_ | rfl); first | done | fail) ?_ | refine st_pure (hs) b16 rfl rfl rfl rfl ?_ | refine st_pure (hb0) b19 rfl rfl rfl rfl ?_ | refine st_pure (hb) b19 rfl rfl rfl rfl ?_); exact fin rfl) rfl rfl ?_ | refine dwg rfl rfl rfl rfl rfl (by (first | refine st_callK [0] (hu) b10 rfl rfl rfl rfl rfl (by (repeat' first | exact trivial | refine And.intro ?_ ?_ | rfl); first | done | fail) ?_ | refine st_pure (hs) b16 rfl rfl rfl rfl ?_ | refine st_pure (hb0) b19 rfl rfl rfl rfl ?_ | refine st_pure (hb) b19 rfl rfl rfl rfl ?_); exact fin rfl) rfl rfl rfl rfl rfl ?_ | refine dw_dec rfl rfl rfl (fun hg => ?_) (fun hg => ?_) | refine dw_ndec rfl rfl rfl (fun hg => ?_) (fun hg => ?_)
  all_goals first
    | (exfalso; omega)
    | skip
  clear hu hs hb0 hb
  refine lpR (fun (i, a) => i ≤ S.length ∧ a ≤ l.length ∧ S.drop i = belL' (l.drop a) t) (fun (i, a) => S.length - i) (fun (i, a) => [(10, I i), (9, I a)]) (fun (i, a) => []) ((0, 0)) [0, 5, 7, 8] [] [] rfl rfl rfl (.of [] (by (repeat' first | exact trivial | refine And.intro ?_ ?_ | rfl); first | done | fail) (by (repeat' first | exact trivial | refine And.intro ?_ ?_ | rfl); first | done | fail) rfl) ?_ ?_
  · exact ⟨Nat.zero_le _, Nat.zero_le _, hSd⟩
  rintro ⟨i, a⟩ ⟨g1, g2, g3⟩
  refine nrm rfl rfl ?_
  by_cases hi : i < S.length
  case neg =>
    repeat' first | refine wr (by omega) ?_ | refine ln ?_ | refine stp lay_ok rfl ?_ | refine fin ?_ | refine n_thn ?_ | refine n_blk ?_ | refine e_thn ?_ | refine e_hit ?_ | refine e_miss rfl ?_ | refine r_thn ?_ | refine r_blk ?_ | refine e_rr ?_ | refine r_rr ?_ | refine e_cr ?_ | refine r_cr ?_ | refine .seq ?_ | refine reg ?_ | refine .block ?_ | refine .skip ?_ | refine .ret ?_ | refine .exit ?_ | refine cndT rfl ?_ | refine cndF rfl ?_ | refine c_dec rfl (fun hc => ?_) (fun hc => ?_) | refine c_ndec rfl (fun hc => ?_) (fun hc => ?_) | refine cnd rfl (fun hc => ?_) (fun hc => ?_) | refine gd rfl rfl rfl (fun hg => ?_) (fun hg => ?_) | refine gn rfl rfl rfl (fun hg => ?_) (fun hg => ?_) | refine dwr (by omega) ?_ | refine dwl ?_ | refine dws lay_ok rfl rfl rfl rfl rfl rfl rfl ?_ | refine dwu lay_ok rfl rfl rfl rfl rfl rfl rfl rfl rfl ?_ | refine dw_end ?_ | refine dw_skip rfl rfl rfl ?_ | refine dwn lay_ok rfl rfl rfl rfl rfl ?_ | refine dw_dec rfl rfl rfl (fun hg => ?_) (fun hg => ?_) | refine dw_ndec rfl rfl rfl (fun hg => ?_) (fun hg => ?_)
    all_goals first
      | (exfalso; omega)
      | skip
    refine f_r [(0, .fact 0 o')] rfl (by (repeat' first | exact trivial | refine And.intro ?_ ?_ | rfl); first | done | fail) rfl ⟨?_, rfl⟩
    first | rfl | (simp [retOf, hms, hAl]; omega) | (simp [retOf]; omega)
  have hat := at_rowS hi
  have hdr := List.drop_eq_getElem_cons hi
  generalize hx : S[i] = x at *
  repeat' first | refine wr (by omega) ?_ | refine ln ?_ | refine stp lay_ok rfl ?_ | refine fin ?_ | refine n_thn ?_ | refine n_blk ?_ | refine e_thn ?_ | refine e_hit ?_ | refine e_miss rfl ?_ | refine r_thn ?_ | refine r_blk ?_ | refine e_rr ?_ | refine r_rr ?_ | refine e_cr ?_ | refine r_cr ?_ | refine .seq ?_ | refine reg ?_ | refine .block ?_ | refine .skip ?_ | refine .ret ?_ | refine .exit ?_ | refine cndT rfl ?_ | refine cndF rfl ?_ | refine c_dec rfl (fun hc => ?_) (fun hc => ?_) | refine c_ndec rfl (fun hc => ?_) (fun hc => ?_) | refine cnd rfl (fun hc => ?_) (fun hc => ?_) | refine gd rfl rfl rfl (fun hg => ?_) (fun hg => ?_) | refine gn rfl rfl rfl (fun hg => ?_) (fun hg => ?_) | refine dwr (by omega) ?_ | refine dwl ?_ | refine dws lay_ok rfl rfl rfl rfl rfl rfl rfl ?_ | refine dwu lay_ok rfl rfl rfl rfl rfl rfl rfl rfl rfl ?_ | refine dw_end ?_ | refine dw_skip rfl rfl rfl ?_ | refine dwn lay_ok rfl rfl rfl rfl rfl ?_ | refine dw_dec rfl rfl rfl (fun hg => ?_) (fun hg => ?_) | refine dw_ndec rfl rfl rfl (fun hg => ?_) (fun hg => ?_)
  all_goals first
    | (exfalso; omega)
    | skip
  refine lpR (fun b => b ≤ l.length ∧ S.drop i = belL' (l.drop b) t) (fun b => l.length - b) (fun b => [(9, I b)]) (fun b => []) (a) [0, 5, 7, 8, 10] [] [] rfl rfl rfl (.of [] (by (repeat' first | exact trivial | refine And.intro ?_ ?_ | rfl); first | done | fail) (by (repeat' first | exact trivial | refine And.intro ?_ ?_ | rfl); first | done | fail) rfl) ?_ ?_
  · exact ⟨g2, g3⟩
  rintro b ⟨q1, q2⟩
  refine nrm rfl rfl ?_
  have hbl : b < l.length := by
    rcases Nat.lt_or_ge b l.length with h | h
    · exact h
    · exfalso
      rw [List.drop_eq_nil_of_le h, hdr] at q2
      cases q2
  have hAt := hA b hbl
  have hdp := belL_drop t hbl
  have hfb := hf b hbl
  have hbel : l[b].path = x → belP t l[b] = true := fun h => by
    refine belL_bel (l := l.drop b) ?_ h
    rw [← q2, hdr]; exact List.mem_cons_self
  generalize l[b] = e at *
  obtain ⟨p, z, ks⟩ := e
  simp only at hbel hdp hAt hfb
  by_cases hpx : p = x
  · rw [if_pos (hbel hpx)] at hdp
    have hnx : S.drop (i + 1) = belL' (l.drop (b + 1)) t := by
      rw [hdp, hdr] at q2
      exact (List.cons.inj q2).2
    subst hpx
    repeat' first | refine wr (by omega) ?_ | refine ln ?_ | refine stp lay_ok rfl ?_ | refine fin ?_ | refine n_thn ?_ | refine n_blk ?_ | refine e_thn ?_ | refine e_hit ?_ | refine e_miss rfl ?_ | refine r_thn ?_ | refine r_blk ?_ | refine e_rr ?_ | refine r_rr ?_ | refine e_cr ?_ | refine r_cr ?_ | refine .seq ?_ | refine reg ?_ | refine .block ?_ | refine .skip ?_ | refine .ret ?_ | refine .exit ?_ | refine cndT rfl ?_ | refine cndF rfl ?_ | refine c_dec rfl (fun hc => ?_) (fun hc => ?_) | refine c_ndec rfl (fun hc => ?_) (fun hc => ?_) | refine cnd rfl (fun hc => ?_) (fun hc => ?_) | refine gd rfl rfl rfl (fun hg => ?_) (fun hg => ?_) | refine gn rfl rfl rfl (fun hg => ?_) (fun hg => ?_) | refine dwr (by omega) ?_ | refine dwl ?_ | refine dws lay_ok rfl rfl rfl rfl rfl rfl rfl ?_ | refine dwu lay_ok rfl rfl rfl rfl rfl rfl rfl rfl rfl ?_ | refine dw_end ?_ | refine dw_skip rfl rfl rfl ?_ | refine dwn lay_ok rfl rfl rfl rfl rfl ?_ | refine dw_dec rfl rfl rfl (fun hg => ?_) (fun hg => ?_) | refine dw_ndec rfl rfl rfl (fun hg => ?_) (fun hg => ?_)
    all_goals first
      | (exfalso; omega)
      | skip
    refine dreg [(0, [], [36, 37]), (1, [], [35]), (2, [1], [35]), (3, [0, 1, 2], []), (4, [0, 1, 2, 3], []), (5, [0, 1, 2, 3, 4], [41, 44, 45, 46, 47]), (6, [0, 1, 2, 3, 4], [40, 44, 45, 46, 47]), (7, [0, 1, 2, 3, 4, 5, 6], [44, 45, 46, 47]), (8, [0, 1, 2, 3, 4, 5, 6, 7], [44, 45, 46, 47]), (9, [0, 1, 2, 3, 4], [40, 41, 42, 43, 45]), (10, [0, 1, 2, 3, 4], [40, 41, 42, 43, 44]), (11, [0, 1, 2, 3, 4, 9, 10], [40, 41, 42, 43]), (12, [0, 1, 2, 3, 4, 9, 10, 11], [40, 41, 42, 43]), (13, [0, 1, 2, 3, 4, 5, 6, 7, 8, 9, 10, 11, 12], []), (14, [0, 1, 2, 3, 4, 5, 6, 7, 8, 9, 10, 11, 12, 13], [])] mixed (by kernel_rfl) ?_
    repeat' first | refine wr (by omega) ?_ | refine ln ?_ | refine stp lay_ok rfl ?_ | refine fin ?_ | refine n_thn ?_ | refine n_blk ?_ | refine e_thn ?_ | refine e_hit ?_ | refine e_miss rfl ?_ | refine r_thn ?_ | refine r_blk ?_ | refine e_rr ?_ | refine r_rr ?_ | refine e_cr ?_ | refine r_cr ?_ | refine .seq ?_ | refine reg ?_ | refine .block ?_ | refine .skip ?_ | refine .ret ?_ | refine .exit ?_ | refine cndT rfl ?_ | refine cndF rfl ?_ | refine c_dec rfl (fun hc => ?_) (fun hc => ?_) | refine c_ndec rfl (fun hc => ?_) (fun hc => ?_) | refine cnd rfl (fun hc => ?_) (fun hc => ?_) | ((first | refine o_none rfl ?_ | refine o_none_ ?_ | refine o_yes rfl rfl rfl ?_ | refine o_yes_ rfl rfl ?_); first | refine st_index (rowS p) lay_ok rfl rfl rfl rfl (by omega) hAt ?_ | refine st_index (rowS p) lay_ok rfl rfl rfl rfl (by omega) hat ?_ | refine st_pure (hfb) b18 rfl rfl rfl rfl ?_) | refine gd rfl rfl rfl (fun hg => ?_) (fun hg => ?_) | refine gn rfl rfl rfl (fun hg => ?_) (fun hg => ?_) | refine dwr (by omega) ?_ | refine dwl ?_ | refine dws lay_ok rfl rfl rfl rfl rfl rfl rfl ?_ | refine dwu lay_ok rfl rfl rfl rfl rfl rfl rfl rfl rfl ?_ | refine dw_end ?_ | refine dw_skip rfl rfl rfl ?_ | refine dwn lay_ok rfl rfl rfl rfl rfl ?_ | refine dwb rfl rfl rfl rfl rfl (by (first | refine st_index (rowS p) lay_ok rfl rfl rfl rfl (by omega) hAt ?_ | refine st_index (rowS p) lay_ok rfl rfl rfl rfl (by omega) hat ?_ | refine st_pure (hfb) b18 rfl rfl rfl rfl ?_); exact fin rfl) rfl rfl ?_ | refine dwg rfl rfl rfl rfl rfl (by (first | refine st_index (rowS p) lay_ok rfl rfl rfl rfl (by omega) hAt ?_ | refine st_index (rowS p) lay_ok rfl rfl rfl rfl (by omega) hat ?_ | refine st_pure (hfb) b18 rfl rfl rfl rfl ?_); exact fin rfl) rfl rfl rfl rfl rfl ?_ | refine dw_dec rfl rfl rfl (fun hg => ?_) (fun hg => ?_) | refine dw_ndec rfl rfl rfl (fun hg => ?_) (fun hg => ?_)
    all_goals first
      | (exfalso; omega)
      | (exfalso; contradiction)
      | skip
    refine n_rr ((i + 1, b + 1)) ?_ (.of [] (by (repeat' first | exact trivial | refine And.intro ?_ ?_ | rfl | exact congrArg (fun z : Int => some (AV.st (.int .i64 z))) (show (i : Int) + 1 = ((i + 1 : Nat) : Int) by omega) | exact congrArg (fun z : Int => some (AV.st (.int .i64 z))) (show (b : Int) + 1 = ((b + 1 : Nat) : Int) by omega)); first | done | fail) (by (repeat' first | exact trivial | refine And.intro ?_ ?_ | rfl | exact congrArg (fun z : Int => some (AV.st (.int .i64 z))) (show (i : Int) + 1 = ((i + 1 : Nat) : Int) by omega) | exact congrArg (fun z : Int => some (AV.st (.int .i64 z))) (show (b : Int) + 1 = ((b + 1 : Nat) : Int) by omega)); first | done | fail) rfl) ?_
    · show S.length - (i + 1) < S.length - i; omega
    · exact ⟨hi, hbl, hnx⟩
  · have hnb : belP t ⟨p, z, ks⟩ = false := by
      cases h : belP t ⟨p, z, ks⟩ with
      | false => rfl
      | true =>
        rw [if_pos h] at hdp
        rw [hdp, hdr] at q2
        exact absurd (List.cons.inj q2).1.symm hpx
    rw [hnb, if_neg (by simp)] at hdp
    repeat' first | refine wr (by omega) ?_ | refine ln ?_ | refine stp lay_ok rfl ?_ | refine fin ?_ | refine n_thn ?_ | refine n_blk ?_ | refine e_thn ?_ | refine e_hit ?_ | refine e_miss rfl ?_ | refine r_thn ?_ | refine r_blk ?_ | refine e_rr ?_ | refine r_rr ?_ | refine e_cr ?_ | refine r_cr ?_ | refine .seq ?_ | refine reg ?_ | refine .block ?_ | refine .skip ?_ | refine .ret ?_ | refine .exit ?_ | refine cndT rfl ?_ | refine cndF rfl ?_ | refine c_dec rfl (fun hc => ?_) (fun hc => ?_) | refine c_ndec rfl (fun hc => ?_) (fun hc => ?_) | refine cnd rfl (fun hc => ?_) (fun hc => ?_) | refine gd rfl rfl rfl (fun hg => ?_) (fun hg => ?_) | refine gn rfl rfl rfl (fun hg => ?_) (fun hg => ?_) | refine dwr (by omega) ?_ | refine dwl ?_ | refine dws lay_ok rfl rfl rfl rfl rfl rfl rfl ?_ | refine dwu lay_ok rfl rfl rfl rfl rfl rfl rfl rfl rfl ?_ | refine dw_end ?_ | refine dw_skip rfl rfl rfl ?_ | refine dwn lay_ok rfl rfl rfl rfl rfl ?_ | refine dw_dec rfl rfl rfl (fun hg => ?_) (fun hg => ?_) | refine dw_ndec rfl rfl rfl (fun hg => ?_) (fun hg => ?_)
    all_goals first
      | (exfalso; omega)
      | skip
    refine dreg [(0, [], [36, 37]), (1, [], [35]), (2, [1], [35]), (3, [0, 1, 2], []), (4, [0, 1, 2, 3], []), (5, [0, 1, 2, 3, 4], [41, 44, 45, 46, 47]), (6, [0, 1, 2, 3, 4], [40, 44, 45, 46, 47]), (7, [0, 1, 2, 3, 4, 5, 6], [44, 45, 46, 47]), (8, [0, 1, 2, 3, 4, 5, 6, 7], [44, 45, 46, 47]), (9, [0, 1, 2, 3, 4], [40, 41, 42, 43, 45]), (10, [0, 1, 2, 3, 4], [40, 41, 42, 43, 44]), (11, [0, 1, 2, 3, 4, 9, 10], [40, 41, 42, 43]), (12, [0, 1, 2, 3, 4, 9, 10, 11], [40, 41, 42, 43]), (13, [0, 1, 2, 3, 4, 5, 6, 7, 8, 9, 10, 11, 12], []), (14, [0, 1, 2, 3, 4, 5, 6, 7, 8, 9, 10, 11, 12, 13], [])] mixed (by kernel_rfl) ?_
    repeat' first | refine wr (by omega) ?_ | refine ln ?_ | refine stp lay_ok rfl ?_ | refine fin ?_ | refine n_thn ?_ | refine n_blk ?_ | refine e_thn ?_ | refine e_hit ?_ | refine e_miss rfl ?_ | refine r_thn ?_ | refine r_blk ?_ | refine e_rr ?_ | refine r_rr ?_ | refine e_cr ?_ | refine r_cr ?_ | refine .seq ?_ | refine reg ?_ | refine .block ?_ | refine .skip ?_ | refine .ret ?_ | refine .exit ?_ | refine cndT rfl ?_ | refine cndF rfl ?_ | refine c_dec rfl (fun hc => ?_) (fun hc => ?_) | refine c_ndec rfl (fun hc => ?_) (fun hc => ?_) | refine cnd rfl (fun hc => ?_) (fun hc => ?_) | ((first | refine o_none rfl ?_ | refine o_none_ ?_ | refine o_yes rfl rfl rfl ?_ | refine o_yes_ rfl rfl ?_); first | refine st_index (rowS p) lay_ok rfl rfl rfl rfl (by omega) hAt ?_ | refine st_index (rowS x) lay_ok rfl rfl rfl rfl (by omega) hat ?_) | refine gd rfl rfl rfl (fun hg => ?_) (fun hg => ?_) | refine gn rfl rfl rfl (fun hg => ?_) (fun hg => ?_) | refine dwr (by omega) ?_ | refine dwl ?_ | refine dws lay_ok rfl rfl rfl rfl rfl rfl rfl ?_ | refine dwu lay_ok rfl rfl rfl rfl rfl rfl rfl rfl rfl ?_ | refine dw_end ?_ | refine dw_skip rfl rfl rfl ?_ | refine dwn lay_ok rfl rfl rfl rfl rfl ?_ | refine dwb rfl rfl rfl rfl rfl (by (first | refine st_index (rowS p) lay_ok rfl rfl rfl rfl (by omega) hAt ?_ | refine st_index (rowS x) lay_ok rfl rfl rfl rfl (by omega) hat ?_); exact fin rfl) rfl rfl ?_ | refine dwg rfl rfl rfl rfl rfl (by (first | refine st_index (rowS p) lay_ok rfl rfl rfl rfl (by omega) hAt ?_ | refine st_index (rowS x) lay_ok rfl rfl rfl rfl (by omega) hat ?_); exact fin rfl) rfl rfl rfl rfl rfl ?_ | refine dw_dec rfl rfl rfl (fun hg => ?_) (fun hg => ?_) | refine dw_ndec rfl rfl rfl (fun hg => ?_) (fun hg => ?_)
    all_goals first
      | (exfalso; omega)
      | (exfalso; contradiction)
      | skip
    refine n_rr (b + 1) ?_ (.of [] (by (repeat' first | exact trivial | refine And.intro ?_ ?_ | rfl | exact congrArg (fun z : Int => some (AV.st (.int .i64 z))) (show (b : Int) + 1 = ((b + 1 : Nat) : Int) by omega)); first | done | fail) (by (repeat' first | exact trivial | refine And.intro ?_ ?_ | rfl | exact congrArg (fun z : Int => some (AV.st (.int .i64 z))) (show (b : Int) + 1 = ((b + 1 : Nat) : Int) by omega)); first | done | fail) rfl) ?_
    · omega
    · exact ⟨hbl, q2.trans hdp⟩
theorem lawBelow_ok (o' : Obj) (hO : LaidE o') (l : List EV) (t : ByteArray) (ht : t.size ≤ 140737488351232) :
    ACalls prog 5 1 [.st (.sl 3 (l.map rowE)), Sx t] [(0, .fact 0 o')] fun r h => r = B true ∧ h = [(0, .fact 0 o')] := by
  have hu := up_ok o' hO
  have hs := short4_ok l
  by_cases hno : shortE l = false ∨ 2000 < t.size
  · exact below_long o' l t hu hs hno ht
  have hse : shortE l = true := by
    cases h : shortE l with
    | true => rfl
    | false => exact absurd (.inl h) hno
  have ht2 : t.size ≤ 2000 := by
    rcases Nat.lt_or_ge 2000 t.size with h | h
    · exact absurd (.inr h) hno
    · exact h
  rw [hse] at hs
  obtain ⟨h100, hall⟩ := short_bounds' hse
  have hl : l.length ≤ 4000000000 := by omega
  have hp : ∀ e ∈ l, e.path.size ≤ 4000000000 - 1 := fun e he => by have := hall e he; omega
  have hk : ∀ e ∈ l, e.keys.length ≤ 4000000000 := fun e he => by have := hall e he; omega
  have h0 := below_ok l ⟨#[]⟩ hl hp hk (by decide)
  have h3 := below_ok l t hl hp hk (by omega)
  unfold belR at h0 h3
  by_cases h32 : 32 < l.length
  · rw [if_pos h32] at h0 h3
    exact below_bad o' l t hu hs ht2 h0 h3
  rw [if_neg h32] at h0 h3
  cases hb : badFrom l l.length 0 with
  | some x =>
    rw [hb] at h0 h3
    exact below_bad o' l t hu hs ht2 h0 h3
  | none =>
    rw [hb] at h0 h3
    simp only [belL_nil] at h0 h3
    refine below_tree o' l t hu hs ht2 (by omega) h0 h3 fun i hi => ?_
    have h2 := find_ok l l[i].path hl hp hk
    rw [findR_hit h32 hb i hi] at h2
    exact h2
end Go.Proofs.YtmekcbbieacioaaGreatDoorFn
namespace Go.Proofs.YtmekcbbieacioaaGreatDoor
open Go.Proofs.YtmekcbbieacioaaGreatDoorAl Go.ChangeAt Go.RowKit
open Go.Proofs.YtmekcbbieacioaaGreatDoorFn
theorem own : ownKnob Tryz.prog.godebug = none := by kernel_rfl
theorem laidOut : laidOutB Tryz.prog = true := by kernel_rfl
def pars : List Par := [⟨27, false, ΦL 3 48 ΦE⟩, ⟨9, false, ΦS⟩]
theorem pars_ok : ParsOk Tryz.prog pars :=
  ⟨rdLE, ⟨_, Tryz.underlying27, rfl⟩, by kernel_rfl, of_decide_eq_true (by kernel_rfl),
   rdS, ⟨_, Tryz.underlying9, rfl⟩, by kernel_rfl, of_decide_eq_true (by kernel_rfl), trivial⟩
theorem law_ok : LawOkF Tryz.prog 5 pars LaidE := by
  rintro svs ⟨_, _, rfl, ⟨r0, h0, hr0, hl0⟩, _, _, rfl, ⟨x1, h1, hm1⟩, rfl⟩ o hO
  cases h0
  obtain ⟨x0, rfl, hm0⟩ := rows_map (f := rowE) (Ok := EV.inMem) (fun row hm => ofE (hr0 row hm))
  simp only [List.length_map] at hl0
  cases h1
  have hreach : reachBytes ≤ 140737488351232 := by decide
  exact lawBelow_ok o hO x0 x1 (by omega)
theorem hE (W : World) (h : laidMetH Tryz.prog Rows.treeBelowRow.laid W) : ∃ o, W.heap[0]? = some o ∧ LaidE o := by
  have h' : laidMet Tryz.prog [("unicode/utf8.acceptRanges", Rows.laid_unicode_utf8_acceptRanges), ("unicode/utf8.first", Rows.laid_unicode_utf8_first)] W ∧ handlesMet Tryz.prog [("errors.errorType", Rows.laid_errors_errorType)] W := h
  obtain ⟨name, u, ty, e1, e2, e3, e4, e5⟩ := h'.2 _ (List.mem_singleton.2 rfl)
  have en : name = [101, 114, 114, 111, 114] := (Option.some.inj e1).symm
  subst en
  obtain rfl := Option.some.inj ((show (Tryz.prog.cutTypes.find? (·.1 == "internal/reflectlite.rtype")).map (·.2) = some 139 by kernel_rfl).symm.trans e2)
  have hm : ty ∈ (List.range Tryz.prog.types.size).filter fun t => Tryz.prog.rowNamed t [101, 114, 114, 111, 114] := List.mem_filter.2 ⟨List.mem_range.2 e3, e4⟩
  rw [show ((List.range Tryz.prog.types.size).filter fun t => Tryz.prog.rowNamed t [101, 114, 114, 111, 114]) = [29] by kernel_rfl] at hm
  obtain rfl := List.mem_singleton.1 hm
  rw [show typeHandle Tryz.prog 29 = .pointer (some ⟨4, 29, none⟩) by kernel_rfl] at e5
  have hc := World.var?_cell (show Tryz.prog.globalNamed "errors.errorType" = some 0 by kernel_rfl) e5 0
  unfold World.cell? at hc
  split at hc
  · rename_i c T fr ho
    exact ⟨_, ho, c, T, fr, rfl, by simpa using hc⟩
  · cases hc
def plain : List (String × DataW Unit) := [("unicode/utf8.acceptRanges", Rows.laid_unicode_utf8_acceptRanges), ("unicode/utf8.first", Rows.laid_unicode_utf8_first)]
noncomputable def w0 (os : Os) : World := { World.holding Tryz.prog os ⟨#[], #[], []⟩ with heap := (World.holding Tryz.prog os ⟨#[], #[], []⟩).heap.modify 0 fun
  | .cells _ t fr => .cells #[.iface 139 (.agg #[.pointer (some ⟨4, 29, none⟩)])] t fr
  | o => o }
noncomputable def w1 (os : Os) : World := (w0 os).layVars Tryz.prog plain
theorem plain_met (os : Os) : laidMet Tryz.prog plain (w1 os) := by
  have e1 : (plain.filter fun x => (plain.map (·.1)).contains x.1) = plain := List.filter_eq_self.2 fun x hx => List.contains_iff_mem.2 (List.mem_map.2 ⟨x, hx, rfl⟩)
  have e2 : (plain.filter fun x => !(plain.map (·.1)).contains x.1) = [] := List.filter_eq_nil_iff.2 fun x hx => by rw [List.contains_iff_mem.2 (List.mem_map.2 ⟨x, hx, rfl⟩)]; simp
  exact laidMet_layVars (w0 := w0 os) (plain.map (·.1)) [] (by rw [e1]; rfl) (by rw [e1]; kernel_rfl) (by rw [e1]; kernel_rfl) (by rw [e2]; exact LaidIn.none)
theorem door_met (os : Os) (args : Array Value) : laidMetH Tryz.prog Rows.treeBelowRow.laid ((w1 os).forCall (fun _ _ => 0) ⟨#[], args, []⟩).memory :=
  laidMetH_of_parts (show laidMet Tryz.prog plain _ from (plain_met os).of_heap (by simp [World.memory, World.forCall, Input.heap])) (by kernel_rfl)
set_option maxRecDepth 100000 in
theorem law_lift (os : Os) (started : os.Started) (H : Type) (enc : TypeId × Value → H) :
    ReturnsInHanded {} Tryz.checked os 5 .any (fun w args => (Rows.treeBelowSpec.pre enc Tryz.prog Tryz.f5 [] false w args ∧ laidMetH Tryz.prog Rows.treeBelowRow.laid w) ∧ sizedMet enc Tryz.prog Tryz.f5 (OpenSpec.ofChange Rows.treeBelowSpec) false w args) (Rows.treeBelowSpec.post enc Tryz.prog Tryz.f5 false true false false) :=
  law_liftedF (C := Tryz.checked) (ps := pars) own started (by kernel_rfl) Tryz.func5
    (ChangeSpec.witness_shaped (enc := enc) (C := Tryz.checked) (os := os) (X := fun w _ => laidMetH Tryz.prog Rows.treeBelowRow.laid w) false (w1 os) #[.slice none 0 0, .string ByteArray.empty] 8 (World.layVars_os _ _ _)
      (World.shaped_of_ZipB (by kernel_rfl) (by kernel_rfl)) (by kernel_rfl) (by kernel_rfl) (by kernel_rfl) (door_met os _))
    laidOut rfl rfl Tryz.underlying4 rfl
    (fun ds hds => by
      match ds, hds with
      | [_, _], _ => rfl) pars_ok LaidE hE law_ok
theorem law_over : Rows.treeBelowRow.holds Tryz.pinned (OpenSpec.ofChange Rows.treeBelowSpec) :=
  OpenClaim.holds_of_wide 5 Tryz.f5 rfl rfl rfl rfl rfl rfl rfl ⟨rfl, rfl, rfl, rfl, rfl⟩ rfl rfl rfl rfl rfl (by kernel_rfl) Tryz.func5 (by kernel_rfl)
    (of_decide_eq_true (by kernel_rfl)) (by unfold Func.isWrapper; first | (rw [if_pos (by decide +kernel)]; kernel_rfl) | (rw [if_neg (by decide +kernel)]; exact ⟨rfl, rfl⟩))
    (fun os started H enc _ => law_lift os started H enc)
theorem TreeBelow_holds : Rows.TreeBelowCardSaid :=
  Claim7.holds_tied_plain_at .later [] [.data, .handle, .pinned] true Rows.treeBelowCard.stood.harness Rows.treeBelowCard.stood.looks law_over (fun _ h => by cases h) (by kernel_rfl) (fun _ h => by cases h) treeBelow_row_tie rfl ⟨rfl, rfl⟩ (by kernel_rfl) rfl
    (fun f fn hf hfn => by
      obtain rfl : f = 5 := Option.some.inj ((show Tryz.prog.funcNamed "becket/becketlaw04.TreeBelow" = some 5 by kernel_rfl).symm.trans hf) |>.symm
      obtain rfl : fn = Tryz.f5 := (Option.some.inj (Tryz.func5.symm.trans hfn)).symm
      exact ⟨by kernel_rfl, fun j t ht => by
        have hm : t ∈ ([27, 9] : List Nat) := by
          have e := Array.mem_of_getElem? ht
          rw [Tryz.params5] at e
          simpa using e
        have hall : (([27, 9] : List Nat).all fun u => !Tryz.prog.wantsStandIn u) = true := by kernel_rfl
        exact (show Tryz.prog.wantsStandIn t = false by simpa using List.all_eq_true.1 hall t hm)⟩)
    (by kernel_rfl)
#print axioms TreeBelow_holds
end Go.Proofs.YtmekcbbieacioaaGreatDoor
