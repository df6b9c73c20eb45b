/- The law CatalogAborts: for every input it says true: What was begun, added to, and aborted, left no trace. No condition. -/
import Derived.Test.YtligkfhplinjlaaGreatDoorP3
import Derived.Test.YtligkfhplinjlaaGreatDoorRows
import Derived.Test.YtligkfhplinjlaaGreatDoorTie
import Derived.Test.YtligkfhplinjlaaGreatDoorCards
set_option linter.all false
namespace Go.Proofs.YtligkfhplinjlaaGreatDoorFn
open Go.Proofs.YtligkfhplinjlaaGreatDoorAl Go.Proofs.Tryz
attribute [local irreducible] IntKind.wrap CodeOk OpsL OpG ACalls thn inBlk rndR cutR WkR Wk fnR DW ExtOk partsOf
/-! ### what was begun, and aborted, left no trace -/
theorem find_last {l : List NV} {c : Int} {nm : ByteArray} (d : Bool) (es : List EV) (h : l.any (isS c nm) = false) : (l ++ [(⟨c, nm, d, es⟩ : NV)]).findIdx? (isS c nm) = some l.length := by
  have h1 : l.findIdx? (isS c nm) = none := List.findIdx?_eq_none_iff.2 fun x hx => by
    have := List.any_eq_false.1 h x hx
    simpa using this
  rw [List.findIdx?_append, h1]
  simp [isS]
theorem begin_code {l : List NV} {c : Int} {nm : ByteArray} (h : (doP l c ⟨1, nm, ⟨#[]⟩, [], 0⟩).2.code = 0) : reqOk c ⟨1, nm, ⟨#[]⟩, [], 0⟩ = true ∧ l.any (isS c nm) = false ∧ doP l c ⟨1, nm, ⟨#[]⟩, [], 0⟩ = (l ++ [⟨c, nm, false, []⟩], noA 0) := by
  cases hr : reqOk c ⟨1, nm, ⟨#[]⟩, [], 0⟩ with
  | false =>
    have e : doP l c ⟨1, nm, ⟨#[]⟩, [], 0⟩ = (l, noA 1) := by unfold doP; rw [if_pos hr]
    rw [e] at h
    exact absurd h (by simp [noA])
  | true =>
    have e : doP l c ⟨1, nm, ⟨#[]⟩, [], 0⟩ = if (l.any (isS c nm)) = true then (l, noA 4) else if 8 ≤ many c l then (l, noA 5) else (l ++ [⟨c, nm, false, []⟩], noA 0) := by
      unfold doP
      rw [if_neg (by simp [hr]), if_pos rfl]
    rw [e] at h ⊢
    cases ha : l.any (isS c nm) with
    | true => rw [ha, if_pos rfl] at h; exact absurd h (by simp [noA])
    | false =>
      rw [ha, if_neg (by simp)] at h
      rw [if_neg (by simp)]
      by_cases h8 : 8 ≤ many c l
      · rw [if_pos h8] at h; exact absurd h (by simp [noA])
      · rw [if_neg h8]; exact ⟨rfl, rfl, rfl⟩
theorem named_req {c : Int} {nm : ByteArray} (k : Int) (hk : k = 3 ∨ k = 4 ∨ k = 7) (h : reqOk c ⟨1, nm, ⟨#[]⟩, [], 0⟩ = true) : reqOk c ⟨k, nm, ⟨#[]⟩, [], 0⟩ = true := by
  rcases hk with rfl | rfl | rfl <;> exact h
theorem at_last (l : List NV) (s : NV) (h : l.length < (l ++ [s]).length) : (l ++ [s])[l.length] = s := by simp
theorem add_last {l : List NV} {c : Int} {nm : ByteArray} (es : List EV) (p : ByteArray) (ks : List ByteArray) (n : Int) (h : l.any (isS c nm) = false) : ∃ es', (doP (l ++ [(⟨c, nm, false, es⟩ : NV)]) c ⟨2, nm, p, ks, n⟩).1 = l ++ [⟨c, nm, false, es'⟩] := by
  cases hr : reqOk c ⟨2, nm, p, ks, n⟩ with
  | false =>
    refine ⟨es, ?_⟩
    unfold doP
    rw [if_pos hr]
  | true =>
    rw [doP_some hr (.inl rfl) (find_last false es h) (by simp), at_last l _ (by simp)]
    unfold oneP
    rw [if_pos rfl]
    have : ∃ es', (addP ⟨c, nm, false, es⟩ ⟨2, nm, p, ks, n⟩).1 = ⟨c, nm, false, es'⟩ := by
      unfold addP
      repeat' split
      all_goals exact ⟨_, rfl⟩
    obtain ⟨es', he⟩ := this
    refine ⟨es', ?_⟩
    simp only [he]
    rw [List.set_append_right _ _ (Nat.le_refl _)]
    simp
theorem abort_last {l : List NV} {c : Int} {nm : ByteArray} (es : List EV) (hr : reqOk c ⟨4, nm, ⟨#[]⟩, [], 0⟩ = true) (h : l.any (isS c nm) = false) : doP (l ++ [(⟨c, nm, false, es⟩ : NV)]) c ⟨4, nm, ⟨#[]⟩, [], 0⟩ = (l, noA 0) := by
  rw [doP_some hr (.inr (.inr (.inl rfl))) (find_last false es h) (by simp), at_last l _ (by simp)]
  unfold oneP
  rw [if_neg (by simp), if_neg (by simp), if_pos rfl, if_neg (by simp)]
  rw [List.eraseIdx_append_of_length_le (Nat.le_refl _)]
  simp
end Go.Proofs.YtligkfhplinjlaaGreatDoorFn
namespace Go.Proofs.YtligkfhplinjlaaGreatDoorFn
open Go.Proofs.YtligkfhplinjlaaGreatDoorAl Go.Proofs.Tryz
attribute [local irreducible] IntKind.wrap CodeOk OpsL OpG ACalls thn inBlk rndR cutR WkR Wk fnR DW ExtOk partsOf
theorem b6 : HasBody prog 6 := ⟨f6, func6, Option.some_ne_none _, by decide⟩
set_option maxHeartbeats 16000000 in
set_option maxRecDepth 4000 in
theorem lawAborts_ok (ds : List DV) (cl : Int) (nm : ByteArray) (ps : List ByteArray) : ACalls prog 6 0 [.st (.sl 6 (ds.map rowD)), I cl, Sx nm, .st (.sl 1 (ps.map rowS))] [] fun r h => r = B true ∧ h = [] := by
  have hup := up9_ok
  have hsh := shortD_ok ds
  have hN := newC_ok
  have hm : (List.map rowD ds).length = ds.length := List.length_map _
  have hmp : (List.map rowS ps).length = ps.length := List.length_map _
  cases hS : shortD ds <;> rw [hS] at hsh
  · refine fnC lay_ok func6 rfl rfl rfl rfl rfl ?_
    repeat' first | refine wr (by omega) ?_ | refine ln ?_ | refine stp lay_ok rfl ?_ | refine fin ?_ | refine n_thn ?_ | refine n_blk ?_ | refine e_thn ?_ | refine e_hit ?_ | refine e_miss rfl ?_ | refine r_thn ?_ | refine r_blk ?_ | refine e_rr ?_ | refine r_rr ?_ | refine e_cr ?_ | refine r_cr ?_ | refine .seq ?_ | refine reg ?_ | refine .block ?_ | refine .skip ?_ | refine .ret ?_ | refine .exit ?_ | refine cndT rfl ?_ | refine cndF rfl ?_ | refine c_dec rfl (fun hc => ?_) (fun hc => ?_) | refine c_ndec rfl (fun hc => ?_) (fun hc => ?_) | refine cnd rfl (fun hc => ?_) (fun hc => ?_) | ((first | refine o_none rfl ?_ | refine o_none_ ?_ | refine o_yes rfl rfl rfl ?_ | refine o_yes_ rfl rfl ?_); first | refine st_pure (hup) b11 rfl rfl rfl rfl ?_ | refine st_pure (hsh) b12 rfl rfl rfl rfl ?_ | refine st_callF 2 (hN) b13 rfl rfl rfl rfl rfl rfl (by (repeat' first | exact trivial | refine And.intro ?_ ?_ | rfl); first | done | fail) rfl ?_) | refine gd rfl rfl rfl (fun hg => ?_) (fun hg => ?_) | refine gn rfl rfl rfl (fun hg => ?_) (fun hg => ?_)
    refine f_r [] rfl trivial rfl ⟨?_, rfl⟩
    rfl
  by_cases hsz : nm.size ≤ 2000 ∧ ps.length ≤ 50
  case neg =>
    refine fnC lay_ok func6 rfl rfl rfl rfl rfl ?_
    repeat' first | refine wr (by omega) ?_ | refine ln ?_ | refine stp lay_ok rfl ?_ | refine fin ?_ | refine n_thn ?_ | refine n_blk ?_ | refine e_thn ?_ | refine e_hit ?_ | refine e_miss rfl ?_ | refine r_thn ?_ | refine r_blk ?_ | refine e_rr ?_ | refine r_rr ?_ | refine e_cr ?_ | refine r_cr ?_ | refine .seq ?_ | refine reg ?_ | refine .block ?_ | refine .skip ?_ | refine .ret ?_ | refine .exit ?_ | refine cndT rfl ?_ | refine cndF rfl ?_ | refine c_dec rfl (fun hc => ?_) (fun hc => ?_) | refine c_ndec rfl (fun hc => ?_) (fun hc => ?_) | refine cnd rfl (fun hc => ?_) (fun hc => ?_) | ((first | refine o_none rfl ?_ | refine o_none_ ?_ | refine o_yes rfl rfl rfl ?_ | refine o_yes_ rfl rfl ?_); first | refine st_pure (hup) b11 rfl rfl rfl rfl ?_ | refine st_pure (hsh) b12 rfl rfl rfl rfl ?_ | refine st_callF 2 (hN) b13 rfl rfl rfl rfl rfl rfl (by (repeat' first | exact trivial | refine And.intro ?_ ?_ | rfl); first | done | fail) rfl ?_) | refine gd rfl rfl rfl (fun hg => ?_) (fun hg => ?_) | refine gn rfl rfl rfl (fun hg => ?_) (fun hg => ?_)
    all_goals first
      | (exfalso; omega)
      | skip
    all_goals
      refine f_r [] rfl trivial rfl ⟨?_, rfl⟩
      rfl
  obtain ⟨hn2, hp50⟩ := hsz
  refine fnC lay_ok func6 rfl rfl rfl rfl rfl ?_
  repeat' first | refine wr (by omega) ?_ | refine ln ?_ | refine stp lay_ok rfl ?_ | refine fin ?_ | refine n_thn ?_ | refine n_blk ?_ | refine e_thn ?_ | refine e_hit ?_ | refine e_miss rfl ?_ | refine r_thn ?_ | refine r_blk ?_ | refine e_rr ?_ | refine r_rr ?_ | refine e_cr ?_ | refine r_cr ?_ | refine .seq ?_ | refine reg ?_ | refine .block ?_ | refine .skip ?_ | refine .ret ?_ | refine .exit ?_ | refine cndT rfl ?_ | refine cndF rfl ?_ | refine c_dec rfl (fun hc => ?_) (fun hc => ?_) | refine c_ndec rfl (fun hc => ?_) (fun hc => ?_) | refine cnd rfl (fun hc => ?_) (fun hc => ?_) | ((first | refine o_none rfl ?_ | refine o_none_ ?_ | refine o_yes rfl rfl rfl ?_ | refine o_yes_ rfl rfl ?_); first | refine st_pure (hup) b11 rfl rfl rfl rfl ?_ | refine st_pure (hsh) b12 rfl rfl rfl rfl ?_ | refine st_callF 2 (hN) b13 rfl rfl rfl rfl rfl rfl (by (repeat' first | exact trivial | refine And.intro ?_ ?_ | rfl); first | done | fail) rfl ?_) | refine gd rfl rfl rfl (fun hg => ?_) (fun hg => ?_) | refine gn rfl rfl rfl (fun hg => ?_) (fun hg => ?_)
  all_goals first
    | (exfalso; omega)
    | skip
  refine lpR (fun (k, l, b) => k ≤ ds.length ∧ k ≤ 80 ∧ CatP l ∧ (b = true → l = [])) (fun (k, l, b) => ds.length - k) (fun (k, l, b) => [(12, I k)]) (fun (k, l, b) => [(0, .cells [.lsl 2 4 (gN b) (l.map rowN).length]), (2, .arr 4 (l.map rowN ++ gR b))]) ((0, [], false)) [0, 1, 2, 3, 9, 11] [0] [1] rfl rfl rfl (.of [1] (by (repeat' first | exact trivial | refine And.intro ?_ ?_ | rfl); first | done | fail) (by (repeat' first | exact trivial | refine And.intro ?_ ?_ | rfl); first | done | fail) rfl) ?_ ?_
  · exact ⟨Nat.zero_le _, Nat.zero_le _, catP_nil, by simp⟩
  rintro ⟨k, l, b⟩ ⟨g1, g2, g3, g4⟩
  refine nrm rfl rfl ?_
  by_cases hk : k < ds.length ∧ k < 80
  · obtain ⟨hk, hk80⟩ := hk
    have hat : (ds.map rowD)[((k : Nat) : Int).toNat]? = some (rowD ds[k]) := by simp [hk]
    have hfit := shortD_at hS hk hk80
    generalize ds[k] = d at *
    obtain ⟨c, o⟩ := d
    simp only at hfit
    have hdo := do_ok l b c o g4 g3 hfit
    have hC2 := doP_cat c o g3
    have hB2 := fun h => doB_nil (c := c) (o := o) g4 h
    generalize doP l c o = R at *
    generalize doB l b c o = b2 at *
    obtain ⟨l2, a⟩ := R
    simp only at hC2 hB2 hdo
    obtain ⟨kd, nm, p, oks, n⟩ := o
    repeat' first | refine wr (by omega) ?_ | refine ln ?_ | refine stp lay_ok rfl ?_ | refine fin ?_ | refine n_thn ?_ | refine n_blk ?_ | refine e_thn ?_ | refine e_hit ?_ | refine e_miss rfl ?_ | refine r_thn ?_ | refine r_blk ?_ | refine e_rr ?_ | refine r_rr ?_ | refine e_cr ?_ | refine r_cr ?_ | refine .seq ?_ | refine reg ?_ | refine .block ?_ | refine .skip ?_ | refine .ret ?_ | refine .exit ?_ | refine cndT rfl ?_ | refine cndF rfl ?_ | refine c_dec rfl (fun hc => ?_) (fun hc => ?_) | refine c_ndec rfl (fun hc => ?_) (fun hc => ?_) | refine cnd rfl (fun hc => ?_) (fun hc => ?_) | refine gd rfl rfl rfl (fun hg => ?_) (fun hg => ?_) | refine gn rfl rfl rfl (fun hg => ?_) (fun hg => ?_)
    all_goals first
      | (exfalso; omega)
      | skip
    refine dreg [(0, [], [53, 54, 55, 56, 57, 58, 59, 60, 61, 62]), (1, [], [52, 54, 58, 59, 60, 61, 62]), (2, [], [52, 53, 58, 59, 60, 61, 62]), (3, [1, 2], [52, 58, 59, 60, 61, 62]), (4, [1, 2, 3], [52, 58, 59, 60, 61, 62]), (5, [1, 2, 3, 4], [52, 58, 59, 60, 61, 62]), (6, [], [52, 53, 54, 55, 56, 57, 59]), (7, [], [52, 53, 54, 55, 56, 57, 58]), (8, [6, 7], [52, 53, 54, 55, 56, 57]), (9, [6, 7, 8], [52, 53, 54, 55, 56, 57]), (10, [6, 7, 8, 9], [52, 53, 54, 55, 56, 57]), (11, [0, 1, 2, 3, 4, 5, 6, 7, 8, 9, 10], [])] mixed (by kernel_rfl) ?_
    repeat' first | refine wr (by omega) ?_ | refine ln ?_ | refine stp lay_ok rfl ?_ | refine fin ?_ | refine n_thn ?_ | refine n_blk ?_ | refine e_thn ?_ | refine e_hit ?_ | refine e_miss rfl ?_ | refine r_thn ?_ | refine r_blk ?_ | refine e_rr ?_ | refine r_rr ?_ | refine e_cr ?_ | refine r_cr ?_ | refine .seq ?_ | refine reg ?_ | refine .block ?_ | refine .skip ?_ | refine .ret ?_ | refine .exit ?_ | refine cndT rfl ?_ | refine cndF rfl ?_ | refine c_dec rfl (fun hc => ?_) (fun hc => ?_) | refine c_ndec rfl (fun hc => ?_) (fun hc => ?_) | refine cnd rfl (fun hc => ?_) (fun hc => ?_) | ((first | refine o_none rfl ?_ | refine o_none_ ?_ | refine o_yes rfl rfl rfl ?_ | refine o_yes_ rfl rfl ?_); first | refine st_index (rowD ⟨c, kd, nm, p, oks, n⟩) lay_ok rfl rfl rfl rfl (by omega) hat ?_ | refine st_callG [0,2] 1 (hdo) b14 rfl rfl rfl rfl rfl (by (repeat' first | exact trivial | refine And.intro ?_ ?_ | rfl); first | done | fail) rfl ?_) | refine gd rfl rfl rfl (fun hg => ?_) (fun hg => ?_) | refine gn rfl rfl rfl (fun hg => ?_) (fun hg => ?_) | refine dwr (by omega) ?_ | refine dwl ?_ | refine dws lay_ok rfl rfl rfl rfl rfl rfl rfl ?_ | refine dwu lay_ok rfl rfl rfl rfl rfl rfl rfl rfl rfl ?_ | refine dw_end ?_ | refine dw_skip rfl rfl rfl ?_ | refine dwn lay_ok rfl rfl rfl rfl rfl ?_ | refine dwG [0,2] rfl rfl rfl rfl (by refine st_callG [0,2] 1 (hdo) b14 rfl rfl rfl rfl rfl (by (repeat' first | exact trivial | refine And.intro ?_ ?_ | rfl); first | done | fail) rfl ?_; exact fin rfl) rfl rfl rfl rfl rfl ?_ | refine dwb rfl rfl rfl rfl rfl (by (first | refine st_index (rowD ⟨c, kd, nm, p, oks, n⟩) lay_ok rfl rfl rfl rfl (by omega) hat ?_ | refine st_callG [0,2] 1 (hdo) b14 rfl rfl rfl rfl rfl (by (repeat' first | exact trivial | refine And.intro ?_ ?_ | rfl); first | done | fail) rfl ?_); exact fin rfl) rfl rfl ?_ | refine dwg rfl rfl rfl rfl rfl (by (first | refine st_index (rowD ⟨c, kd, nm, p, oks, n⟩) lay_ok rfl rfl rfl rfl (by omega) hat ?_ | refine st_callG [0,2] 1 (hdo) b14 rfl rfl rfl rfl rfl (by (repeat' first | exact trivial | refine And.intro ?_ ?_ | rfl); first | done | fail) rfl ?_); exact fin rfl) rfl rfl rfl rfl rfl ?_ | refine dw_dec rfl rfl rfl (fun hg => ?_) (fun hg => ?_) | refine dw_ndec rfl rfl rfl (fun hg => ?_) (fun hg => ?_)
    refine n_rr ((k + 1, l2, b2)) ?_ (.of [3] (by (repeat' first | exact trivial | refine And.intro ?_ ?_ | rfl | exact congrArg (fun z : Int => some (AV.st (.int .i64 z))) (show (k : Int) + 1 = ((k + 1 : Nat) : Int) by omega)); first | done | fail) (by (repeat' first | exact trivial | refine And.intro ?_ ?_ | rfl | exact congrArg (fun z : Int => some (AV.st (.int .i64 z))) (show (k : Int) + 1 = ((k + 1 : Nat) : Int) by omega)); first | done | fail) rfl) ?_
    · show ds.length - (k + 1) < ds.length - k; omega
    · exact ⟨hk, hk80, hC2, hB2⟩
  obtain ⟨c1, c2⟩ := catP_fits g3
  have hsn := snapsX_ok l b g4 c1 c2
  have hbg := do_nil l b cl 1 0 nm ⟨#[]⟩ g4 g3 (by omega) (by decide)
  have hbc := begin_code (l := l) (c := cl) (nm := nm)
  have hC1 := doP_cat cl ⟨1, nm, ⟨#[]⟩, [], 0⟩ g3
  by_cases hcode : (doP l cl ⟨1, nm, ⟨#[]⟩, [], 0⟩).2.code = 0
  case neg =>
    generalize doP l cl ⟨1, nm, ⟨#[]⟩, [], 0⟩ = R at *
    generalize doB l b cl ⟨1, nm, ⟨#[]⟩, [], 0⟩ = b2 at *
    obtain ⟨l2, a⟩ := R
    obtain ⟨xc, xn, xs, xk, xe⟩ := a
    simp only at hcode hbg
    repeat' first | refine wr (by omega) ?_ | refine ln ?_ | refine stp lay_ok rfl ?_ | refine fin ?_ | refine n_thn ?_ | refine n_blk ?_ | refine e_thn ?_ | refine e_hit ?_ | refine e_miss rfl ?_ | refine r_thn ?_ | refine r_blk ?_ | refine e_rr ?_ | refine r_rr ?_ | refine e_cr ?_ | refine r_cr ?_ | refine .seq ?_ | refine reg ?_ | refine .block ?_ | refine .skip ?_ | refine .ret ?_ | refine .exit ?_ | refine cndT rfl ?_ | refine cndF rfl ?_ | refine c_dec rfl (fun hc => ?_) (fun hc => ?_) | refine c_ndec rfl (fun hc => ?_) (fun hc => ?_) | refine cnd rfl (fun hc => ?_) (fun hc => ?_) | ((first | refine o_none rfl ?_ | refine o_none_ ?_ | refine o_yes rfl rfl rfl ?_ | refine o_yes_ rfl rfl ?_); first | refine st_callK [0,2] (hsn) b17 rfl rfl rfl rfl rfl (by (repeat' first | exact trivial | refine And.intro ?_ ?_ | rfl); first | done | fail) ?_ | refine st_callG [0,2] 1 (hbg) b14 rfl rfl rfl rfl rfl (by (repeat' first | exact trivial | refine And.intro ?_ ?_ | rfl); first | done | fail) rfl ?_) | refine gd rfl rfl rfl (fun hg => ?_) (fun hg => ?_) | refine gn rfl rfl rfl (fun hg => ?_) (fun hg => ?_) | refine dwr (by omega) ?_ | refine dwl ?_ | refine dws lay_ok rfl rfl rfl rfl rfl rfl rfl ?_ | refine dwu lay_ok rfl rfl rfl rfl rfl rfl rfl rfl rfl ?_ | refine dw_end ?_ | refine dw_skip rfl rfl rfl ?_ | refine dwn lay_ok rfl rfl rfl rfl rfl ?_ | refine dwG [0,2] rfl rfl rfl rfl (by refine st_callK [0,2] (hsn) b17 rfl rfl rfl rfl rfl (by (repeat' first | exact trivial | refine And.intro ?_ ?_ | rfl); first | done | fail) ?_; exact fin rfl) rfl rfl rfl rfl rfl ?_ | refine dwG [0,2] rfl rfl rfl rfl (by refine st_callG [0,2] 1 (hbg) b14 rfl rfl rfl rfl rfl (by (repeat' first | exact trivial | refine And.intro ?_ ?_ | rfl); first | done | fail) rfl ?_; exact fin rfl) rfl rfl rfl rfl rfl ?_ | refine dwb rfl rfl rfl rfl rfl (by (first | refine st_callK [0,2] (hsn) b17 rfl rfl rfl rfl rfl (by (repeat' first | exact trivial | refine And.intro ?_ ?_ | rfl); first | done | fail) ?_ | refine st_callG [0,2] 1 (hbg) b14 rfl rfl rfl rfl rfl (by (repeat' first | exact trivial | refine And.intro ?_ ?_ | rfl); first | done | fail) rfl ?_); exact fin rfl) rfl rfl ?_ | refine dwg rfl rfl rfl rfl rfl (by (first | refine st_callK [0,2] (hsn) b17 rfl rfl rfl rfl rfl (by (repeat' first | exact trivial | refine And.intro ?_ ?_ | rfl); first | done | fail) ?_ | refine st_callG [0,2] 1 (hbg) b14 rfl rfl rfl rfl rfl (by (repeat' first | exact trivial | refine And.intro ?_ ?_ | rfl); first | done | fail) rfl ?_); exact fin rfl) rfl rfl rfl rfl rfl ?_ | refine dw_dec rfl rfl rfl (fun hg => ?_) (fun hg => ?_) | refine dw_ndec rfl rfl rfl (fun hg => ?_) (fun hg => ?_)
    all_goals first
      | (exfalso; omega)
      | (exfalso; simp only at *; omega)
      | skip
    all_goals
      refine f_r [] rfl trivial rfl ⟨?_, rfl⟩
      rfl
  obtain ⟨hreq, hany, hdoP⟩ := hbc hcode
  have hb2 : doB l b cl ⟨1, nm, ⟨#[]⟩, [], 0⟩ = false := by
    cases hd : doB l b cl ⟨1, nm, ⟨#[]⟩, [], 0⟩ with
    | false => rfl
    | true =>
      have := doB_nil g4 hd
      rw [hdoP] at this
      simp at this
  rw [hdoP, hb2] at hbg
  rw [hdoP] at hC1
  simp only at hbg hC1
  clear hbc hcode hdoP hb2
  repeat' first | refine wr (by omega) ?_ | refine ln ?_ | refine stp lay_ok rfl ?_ | refine fin ?_ | refine n_thn ?_ | refine n_blk ?_ | refine e_thn ?_ | refine e_hit ?_ | refine e_miss rfl ?_ | refine r_thn ?_ | refine r_blk ?_ | refine e_rr ?_ | refine r_rr ?_ | refine e_cr ?_ | refine r_cr ?_ | refine .seq ?_ | refine reg ?_ | refine .block ?_ | refine .skip ?_ | refine .ret ?_ | refine .exit ?_ | refine cndT rfl ?_ | refine cndF rfl ?_ | refine c_dec rfl (fun hc => ?_) (fun hc => ?_) | refine c_ndec rfl (fun hc => ?_) (fun hc => ?_) | refine cnd rfl (fun hc => ?_) (fun hc => ?_) | ((first | refine o_none rfl ?_ | refine o_none_ ?_ | refine o_yes rfl rfl rfl ?_ | refine o_yes_ rfl rfl ?_); first | refine st_callK [0,2] (hsn) b17 rfl rfl rfl rfl rfl (by (repeat' first | exact trivial | refine And.intro ?_ ?_ | rfl); first | done | fail) ?_ | refine st_callG [0,2] 1 (hbg) b14 rfl rfl rfl rfl rfl (by (repeat' first | exact trivial | refine And.intro ?_ ?_ | rfl); first | done | fail) rfl ?_) | refine gd rfl rfl rfl (fun hg => ?_) (fun hg => ?_) | refine gn rfl rfl rfl (fun hg => ?_) (fun hg => ?_) | refine dwr (by omega) ?_ | refine dwl ?_ | refine dws lay_ok rfl rfl rfl rfl rfl rfl rfl ?_ | refine dwu lay_ok rfl rfl rfl rfl rfl rfl rfl rfl rfl ?_ | refine dw_end ?_ | refine dw_skip rfl rfl rfl ?_ | refine dwn lay_ok rfl rfl rfl rfl rfl ?_ | refine dwG [0,2] rfl rfl rfl rfl (by refine st_callK [0,2] (hsn) b17 rfl rfl rfl rfl rfl (by (repeat' first | exact trivial | refine And.intro ?_ ?_ | rfl); first | done | fail) ?_; exact fin rfl) rfl rfl rfl rfl rfl ?_ | refine dwG [0,2] rfl rfl rfl rfl (by refine st_callG [0,2] 1 (hbg) b14 rfl rfl rfl rfl rfl (by (repeat' first | exact trivial | refine And.intro ?_ ?_ | rfl); first | done | fail) rfl ?_; exact fin rfl) rfl rfl rfl rfl rfl ?_ | refine dwb rfl rfl rfl rfl rfl (by (first | refine st_callK [0,2] (hsn) b17 rfl rfl rfl rfl rfl (by (repeat' first | exact trivial | refine And.intro ?_ ?_ | rfl); first | done | fail) ?_ | refine st_callG [0,2] 1 (hbg) b14 rfl rfl rfl rfl rfl (by (repeat' first | exact trivial | refine And.intro ?_ ?_ | rfl); first | done | fail) rfl ?_); exact fin rfl) rfl rfl ?_ | refine dwg rfl rfl rfl rfl rfl (by (first | refine st_callK [0,2] (hsn) b17 rfl rfl rfl rfl rfl (by (repeat' first | exact trivial | refine And.intro ?_ ?_ | rfl); first | done | fail) ?_ | refine st_callG [0,2] 1 (hbg) b14 rfl rfl rfl rfl rfl (by (repeat' first | exact trivial | refine And.intro ?_ ?_ | rfl); first | done | fail) rfl ?_); exact fin rfl) rfl rfl rfl rfl rfl ?_ | refine dw_dec rfl rfl rfl (fun hg => ?_) (fun hg => ?_) | refine dw_ndec rfl rfl rfl (fun hg => ?_) (fun hg => ?_)
  all_goals first
    | (exfalso; omega)
    | skip
  all_goals
    refine lpR (fun (j, es) => j ≤ ps.length ∧ CatP (l ++ [(⟨cl, nm, false, es⟩ : NV)])) (fun (j, es) => ps.length - j) (fun (j, es) => [(15, I j)]) (fun (j, es) => [(0, .cells [.lsl 5 4 (gN false) ((l ++ [(⟨cl, nm, false, es⟩ : NV)]).map rowN).length]), (5, .arr 4 ((l ++ [(⟨cl, nm, false, es⟩ : NV)]).map rowN ++ gR false))]) ((0, [])) [1, 2, 3, 9, 11, 13] [0] [3] rfl rfl rfl (.of [3] (by (repeat' first | exact trivial | refine And.intro ?_ ?_ | rfl); first | done | fail) (by (repeat' first | exact trivial | refine And.intro ?_ ?_ | rfl); first | done | fail) rfl) ?_ ?_
    · exact ⟨Nat.zero_le _, hC1⟩
    clear hC1 hbg
    rintro ⟨j, es⟩ ⟨j1, j2⟩
    refine nrm rfl rfl ?_
    by_cases hj : j < ps.length
    · have hat := at_rowS hj
      generalize ps[j] = p at *
      by_cases hp : p.size ≤ 2000
      case neg =>
        repeat' first | refine wr (by omega) ?_ | refine ln ?_ | refine stp lay_ok rfl ?_ | refine fin ?_ | refine n_thn ?_ | refine n_blk ?_ | refine e_thn ?_ | refine e_hit ?_ | refine e_miss rfl ?_ | refine r_thn ?_ | refine r_blk ?_ | refine e_rr ?_ | refine r_rr ?_ | refine e_cr ?_ | refine r_cr ?_ | refine .seq ?_ | refine reg ?_ | refine .block ?_ | refine .skip ?_ | refine .ret ?_ | refine .exit ?_ | refine cndT rfl ?_ | refine cndF rfl ?_ | refine c_dec rfl (fun hc => ?_) (fun hc => ?_) | refine c_ndec rfl (fun hc => ?_) (fun hc => ?_) | refine cnd rfl (fun hc => ?_) (fun hc => ?_) | ((first | refine o_none rfl ?_ | refine o_none_ ?_ | refine o_yes rfl rfl rfl ?_ | refine o_yes_ rfl rfl ?_); first | refine st_index [SV.str p] lay_ok rfl rfl rfl rfl (by omega) hat ?_) | refine gd rfl rfl rfl (fun hg => ?_) (fun hg => ?_) | refine gn rfl rfl rfl (fun hg => ?_) (fun hg => ?_)
        all_goals first
          | (exfalso; omega)
          | skip
        all_goals
          refine f_r [] rfl trivial rfl ⟨?_, rfl⟩
          rfl
      have hdo := do_ok (l ++ [(⟨cl, nm, false, es⟩ : NV)]) false cl ⟨2, nm, p, [⟨#[120]⟩], 0⟩ (by simp) j2 ⟨by show nm.size ≤ _; omega, by show p.size ≤ _; omega, by simp⟩
      have hC2 := doP_cat cl ⟨2, nm, p, [⟨#[120]⟩], 0⟩ j2
      obtain ⟨es', he⟩ := add_last es p [⟨#[120]⟩] 0 hany
      rw [doB_keep (by simp) (by simp) (by simp), he] at hdo
      rw [he] at hC2
      generalize (doP (l ++ [(⟨cl, nm, false, es⟩ : NV)]) cl ⟨2, nm, p, [⟨#[120]⟩], 0⟩).2 = a at *
      obtain ⟨xc, xn, xs, xk, xe⟩ := a
      repeat' first | refine wr (by omega) ?_ | refine ln ?_ | refine stp lay_ok rfl ?_ | refine fin ?_ | refine n_thn ?_ | refine n_blk ?_ | refine e_thn ?_ | refine e_hit ?_ | refine e_miss rfl ?_ | refine r_thn ?_ | refine r_blk ?_ | refine e_rr ?_ | refine r_rr ?_ | refine e_cr ?_ | refine r_cr ?_ | refine .seq ?_ | refine reg ?_ | refine .block ?_ | refine .skip ?_ | refine .ret ?_ | refine .exit ?_ | refine cndT rfl ?_ | refine cndF rfl ?_ | refine c_dec rfl (fun hc => ?_) (fun hc => ?_) | refine c_ndec rfl (fun hc => ?_) (fun hc => ?_) | refine cnd rfl (fun hc => ?_) (fun hc => ?_) | ((first | refine o_none rfl ?_ | refine o_none_ ?_ | refine o_yes rfl rfl rfl ?_ | refine o_yes_ rfl rfl ?_); first | refine st_index [SV.str p] lay_ok rfl rfl rfl rfl (by omega) hat ?_ | refine st_callG [0,5] 1 (hdo) b14 rfl rfl rfl rfl rfl (by (repeat' first | exact trivial | refine And.intro ?_ ?_ | rfl); first | done | fail) rfl ?_) | refine gd rfl rfl rfl (fun hg => ?_) (fun hg => ?_) | refine gn rfl rfl rfl (fun hg => ?_) (fun hg => ?_)
      all_goals first
        | (exfalso; omega)
        | skip
      refine n_rr ((j + 1, es')) ?_ (.of [6] (by (repeat' first | exact trivial | refine And.intro ?_ ?_ | rfl | exact congrArg (fun z : Int => some (AV.st (.int .i64 z))) (show (j : Int) + 1 = ((j + 1 : Nat) : Int) by omega)); first | done | fail) (by (repeat' first | exact trivial | refine And.intro ?_ ?_ | rfl | exact congrArg (fun z : Int => some (AV.st (.int .i64 z))) (show (j : Int) + 1 = ((j + 1 : Nat) : Int) by omega)); first | done | fail) rfl) ?_
      · show ps.length - (j + 1) < ps.length - j; omega
      · exact ⟨hj, hC2⟩
    have hab := do_nil (l ++ [(⟨cl, nm, false, es⟩ : NV)]) false cl 4 0 nm ⟨#[]⟩ (by simp) j2 (by omega) (by decide)
    have hB2 := fun h => doB_nil (c := cl) (o := ⟨4, nm, ⟨#[]⟩, [], 0⟩) (l := l ++ [(⟨cl, nm, false, es⟩ : NV)]) (b := false) (by simp) h
    rw [abort_last es (named_req 4 (.inr (.inl rfl)) hreq) hany] at hab hB2
    generalize doB (l ++ [(⟨cl, nm, false, es⟩ : NV)]) false cl ⟨4, nm, ⟨#[]⟩, [], 0⟩ = b2 at *
    have hsn2 := snapsX_ok l b2 hB2 c1 c2
    have hsame := same9_ok l l c1 c1 c2 c2
    rw [decide_eq_true rfl] at hsame
    repeat' first | refine wr (by omega) ?_ | refine ln ?_ | refine stp lay_ok rfl ?_ | refine fin ?_ | refine n_thn ?_ | refine n_blk ?_ | refine e_thn ?_ | refine e_hit ?_ | refine e_miss rfl ?_ | refine r_thn ?_ | refine r_blk ?_ | refine e_rr ?_ | refine r_rr ?_ | refine e_cr ?_ | refine r_cr ?_ | refine .seq ?_ | refine reg ?_ | refine .block ?_ | refine .skip ?_ | refine .ret ?_ | refine .exit ?_ | refine cndT rfl ?_ | refine cndF rfl ?_ | refine c_dec rfl (fun hc => ?_) (fun hc => ?_) | refine c_ndec rfl (fun hc => ?_) (fun hc => ?_) | refine cnd rfl (fun hc => ?_) (fun hc => ?_) | ((first | refine o_none rfl ?_ | refine o_none_ ?_ | refine o_yes rfl rfl rfl ?_ | refine o_yes_ rfl rfl ?_); first | refine st_callG [0,5] 1 (hab) b14 rfl rfl rfl rfl rfl (by (repeat' first | exact trivial | refine And.intro ?_ ?_ | rfl); first | done | fail) rfl ?_ | refine st_callK [0,6] (hsn2) b17 rfl rfl rfl rfl rfl (by (repeat' first | exact trivial | refine And.intro ?_ ?_ | rfl); first | done | fail) ?_ | refine st_pure (hsame) b18 rfl rfl rfl rfl ?_) | refine gd rfl rfl rfl (fun hg => ?_) (fun hg => ?_) | refine gn rfl rfl rfl (fun hg => ?_) (fun hg => ?_)
    all_goals first
      | (exfalso; omega)
      | skip
    all_goals
      refine f_r [] rfl trivial rfl ⟨?_, rfl⟩
      rfl
end Go.Proofs.YtligkfhplinjlaaGreatDoorFn
namespace Go.Proofs.YtligkfhplinjlaaGreatDoor
open Go.Proofs.YtligkfhplinjlaaGreatDoorAl Go.ChangeAt Go.RowKit
open Go.Proofs.YtligkfhplinjlaaGreatDoorFn
theorem own : ownKnob Tryz.prog.godebug = none := by kernel_rfl
theorem laidOut : laidOutB Tryz.prog = true := by kernel_rfl
def pars : List Par := [⟨22, false, ΦL 6 80 ΦD⟩, ⟨3, false, ΦI⟩, ⟨9, false, ΦS⟩, ⟨27, false, ΦL 1 16 ΦS⟩]
theorem pars_ok : ParsOk Tryz.prog pars :=
  ⟨rdLD, ⟨_, Tryz.underlying22, rfl⟩, by kernel_rfl, of_decide_eq_true (by kernel_rfl),
   rdI, ⟨_, Tryz.underlying3, rfl⟩, by kernel_rfl, of_decide_eq_true (by kernel_rfl),
   rdS, ⟨_, Tryz.underlying9, rfl⟩, by kernel_rfl, of_decide_eq_true (by kernel_rfl),
   rdLS, ⟨_, Tryz.underlying27, rfl⟩, by kernel_rfl, of_decide_eq_true (by kernel_rfl), trivial⟩
theorem law_ok : LawOk Tryz.prog 6 pars := by
  rintro svs ⟨_, _, rfl, ⟨r0, h0, hr0, hl0⟩, _, _, rfl, ⟨x1, h1, hm1⟩, _, _, rfl, ⟨x2, h2, hm2⟩, _, _, rfl, ⟨r3, h3, hr3, hl3⟩, rfl⟩
  cases h0
  obtain ⟨x0, rfl, hm0⟩ := rows_map (f := rowD) (Ok := DV.inMem) (fun row hm => ofD (hr0 row hm))
  simp only [List.length_map] at hl0
  cases h1
  cases h2
  cases h3
  obtain ⟨x3, rfl, hm3⟩ := ofSs hr3
  simp only [List.length_map] at hl3
  have hreach : reachBytes ≤ 140737488351232 := by decide
  exact lawAborts_ok x0 x1 x2 x3
set_option maxRecDepth 100000 in
theorem law_lift (os : Os) (started : os.Started) (H : Type) (enc : TypeId × Value → H) :
    ReturnsInHanded {} Tryz.checked os 6 .any (fun w args => (Rows.catalogAbortsSpec.pre enc Tryz.prog Tryz.f6 [] false w args ∧ laidMetH Tryz.prog Rows.catalogAbortsRow.laid w) ∧ sizedMet enc Tryz.prog Tryz.f6 (OpenSpec.ofChange Rows.catalogAbortsSpec) false w args) (Rows.catalogAbortsSpec.post enc Tryz.prog Tryz.f6 false true false false) :=
  law_liftedL (C := Tryz.checked) (ps := pars) own started (by kernel_rfl) Tryz.func6
    (ChangeSpec.witness_shaped (enc := enc) (C := Tryz.checked) (os := os) (X := fun w _ => laidMetH Tryz.prog Rows.catalogAbortsRow.laid w) false (World.laidAll Tryz.prog os Rows.catalogAbortsRow.laid) #[.slice none 0 0, .int .i64 0, .string ByteArray.empty, .slice none 0 0] 8 (World.laidAll_os _ _ _)
      (World.shaped_of_ZipB (by kernel_rfl) (by kernel_rfl)) (by kernel_rfl) (by kernel_rfl) (by kernel_rfl)
      (by rw [MakeChecks.laidMetH_plain _ _ _ (by kernel_rfl)]; exact laidMet_laidAll _ (by kernel_rfl) (by kernel_rfl)))
    laidOut rfl rfl Tryz.underlying4 rfl
    (fun ds hds => by
      match ds, hds with
      | [_, _, _, _], _ => rfl) pars_ok law_ok
theorem law_over : Rows.catalogAbortsRow.holds Tryz.pinned (OpenSpec.ofChange Rows.catalogAbortsSpec) :=
  OpenClaim.holds_of_wide 6 Tryz.f6 rfl rfl rfl rfl rfl rfl rfl ⟨rfl, rfl, rfl, rfl, rfl⟩ rfl rfl rfl rfl rfl (by kernel_rfl) Tryz.func6 (by kernel_rfl)
    (of_decide_eq_true (by kernel_rfl)) (by unfold Func.isWrapper; first | (rw [if_pos (by decide +kernel)]; kernel_rfl) | (rw [if_neg (by decide +kernel)]; exact ⟨rfl, rfl⟩))
    (fun os started H enc _ => law_lift os started H enc)
theorem CatalogAborts_holds : Rows.CatalogAbortsCardSaid :=
  Claim7.holds_tied_plain_at .later [] [.data, .pinned] true Rows.catalogAbortsCard.stood.harness Rows.catalogAbortsCard.stood.looks law_over (fun _ h => by cases h) (by kernel_rfl) (fun _ h => by cases h) catalogAborts_row_tie rfl ⟨rfl, rfl⟩ (by kernel_rfl) rfl
    (fun f fn hf hfn => by
      obtain rfl : f = 6 := Option.some.inj ((show Tryz.prog.funcNamed "becket/becketlaw09.CatalogAborts" = some 6 by kernel_rfl).symm.trans hf) |>.symm
      obtain rfl : fn = Tryz.f6 := (Option.some.inj (Tryz.func6.symm.trans hfn)).symm
      exact ⟨by kernel_rfl, fun j t ht => by
        have hm : t ∈ ([22, 3, 9, 27] : List Nat) := by
          have e := Array.mem_of_getElem? ht
          rw [Tryz.params6] at e
          simpa using e
        have hall : (([22, 3, 9, 27] : List Nat).all fun u => !Tryz.prog.wantsStandIn u) = true := by kernel_rfl
        exact (show Tryz.prog.wantsStandIn t = false by simpa using List.all_eq_true.1 hall t hm)⟩)
    (by kernel_rfl)
#print axioms CatalogAborts_holds
end Go.Proofs.YtligkfhplinjlaaGreatDoor
