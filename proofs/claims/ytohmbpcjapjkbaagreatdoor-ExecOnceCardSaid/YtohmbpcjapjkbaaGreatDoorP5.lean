/- Texts that the law's proof uses: part 5. -/
import Derived.Test.YtohmbpcjapjkbaaGreatDoorP4
import Derived.KernelRfl
set_option linter.all false
namespace Go.Proofs.YtohmbpcjapjkbaaGreatDoorFn
open Go.Proofs.YtohmbpcjapjkbaaGreatDoorAl Go.Proofs.Tryz
attribute [local irreducible] IntKind.wrap CodeOk OpsL OpG ACalls thn inBlk rndR cutR WkR Wk fnR DW ExtOk partsOf
theorem b44 : HasBody prog 44 := ⟨f44, func44, Option.some_ne_none _, by decide⟩
theorem b13 : HasBody prog 13 := ⟨f13, func13, Option.some_ne_none _, by decide⟩
theorem b14 : HasBody prog 14 := ⟨f14, func14, Option.some_ne_none _, by decide⟩
/-! ### a request's bytes, as the document writes them; the head of the Exec laws -/
def numsQ (c t k n : Nat) : List Nat := [c, t, k, n]
def reqN (c t k n i : Nat) : List UInt8 := (((numsQ c t k n).take i).map numL).flatten
def reqL (c t k n : Nat) (nm p : ByteArray) (ks : List ByteArray) (j : Nat) : List UInt8 := reqN c t k n 4 ++ textL nm ++ textL p ++ numL ks.length ++ ((ks.take j).map textL).flatten
theorem flat_bd (ks : List ByteArray) (h : ∀ k ∈ ks, k.size ≤ 5000) : ((ks.map textL).flatten).length ≤ ks.length * 5010 := by
  induction ks with
  | nil => simp
  | cons x r ih =>
    have h1 := textL_len x
    have h2 := h x (by simp)
    have h3 := ih (fun k hk => h k (by simp [hk]))
    rw [List.map_cons, List.flatten_cons, List.length_append, List.length_cons, Nat.add_mul]; omega
set_option maxHeartbeats 4000000 in
theorem refPut8_ok (c t k n : Nat) (nm p : ByteArray) (ks : List ByteArray) (hc : c < 2 ^ 62) (ht : t < 2 ^ 62) (hk : k < 2 ^ 62) (hn : n < 2 ^ 62) (hnm : nm.size ≤ 5000) (hp : p.size ≤ 5000) (hks : ks.length ≤ 10000) (hkz : ∀ x ∈ ks, x.size ≤ 5000) :
    ACalls prog 44 0 [.st (.agg [.int .i64 c, .int .i64 t, .int .i64 k, .str nm, .str p, .sl 1 (ks.map rowS), .int .i64 n])] [] fun r h => r = Bs (reqL c t k n nm p ks ks.length) ∧ h = [] := by
  have hm : (List.map rowS ks).length = ks.length := List.length_map _
  have happ : ∀ x y : List UInt8, x.map rowB ++ y.map rowB = (x ++ y).map rowB := fun x y => List.map_append.symm
  have hN1 : (numL c).length ≤ 10 := numF_len 10 _
  have hN2 : (numL t).length ≤ 10 := numF_len 10 _
  have hN3 : (numL k).length ≤ 10 := numF_len 10 _
  have hN4 : (numL n).length ≤ 10 := numF_len 10 _
  have hN5 : (numL (ks.length)).length ≤ 10 := numF_len 10 _
  have hT1 := textL_len nm
  have hT2 := textL_len p
  have hF := flat_bd ks hkz
  have hR4 : (reqN c t k n 4).length ≤ 40 := by
    simp only [reqN, numsQ, List.take, List.map_cons, List.map_nil, List.flatten_cons, List.flatten_nil, List.length_append, List.length_nil]; omega
  have hRi : ∀ i, (reqN c t k n i).length ≤ 40 := fun i => by
    have := flat_le numL (numsQ c t k n) i
    have h4 : (reqN c t k n 4).length = (((numsQ c t k n).map numL).flatten).length := rfl
    unfold reqN; unfold reqN at hR4 h4; omega
  have hw1 := refText_ok nm (by omega)
  have hw2 := refText_ok p (by omega)
  have hw3 := refNumW_ok ks.length (by omega)
  refine fnC lay_ok func44 rfl rfl rfl rfl rfl ?_
  repeat' first | refine stp lay_ok rfl ?_ | refine fin ?_ | refine n_thn ?_ | refine .seq ?_ | refine reg ?_ | refine .block ?_ | fail
  refine CodeOk.wk (Wk.nilT 1 4 rfl rfl) (Nat.le_succ _) ?_
  refine nrm rfl rfl ?_
  refine lpR (fun i => i ≤ 4) (fun i => 4 - i) (fun i => [(5, I i), (4, .lsl 2 1 0 ((reqN c t k n i).map rowB).length)]) (fun i => [(2, .arr 1 ((reqN c t k n i).map rowB))]) (0) [1, 3] [] [1] rfl rfl rfl (.of [1] (by (repeat' first | exact trivial | refine And.intro ?_ ?_ | rfl); first | done | fail) (by (repeat' first | exact trivial | refine And.intro ?_ ?_ | rfl); first | done | fail) rfl) ?_ ?_
  · exact Nat.zero_le _
  rintro i hi
  refine nrm rfl rfl ?_
  have hmr : (List.map rowB (reqN c t k n i)).length = (reqN c t k n i).length := List.length_map _
  have hri := hRi i
  by_cases hi4 : i < 4
  · have hx : ∃ x : Nat, x < 2 ^ 62 ∧ [[SV.int .i64 (c : Int)], [SV.int .i64 (t : Int)], [SV.int .i64 (k : Int)], [SV.int .i64 (n : Int)]][((i : Nat) : Int).toNat]? = some [SV.int .i64 (x : Int)] ∧ reqN c t k n (i + 1) = reqN c t k n i ++ numL x := by
      rcases (show i = 0 ∨ i = 1 ∨ i = 2 ∨ i = 3 by omega) with rfl | rfl | rfl | rfl
      · exact ⟨c, hc, rfl, by simp [reqN, numsQ]⟩
      · exact ⟨t, ht, rfl, by simp [reqN, numsQ]⟩
      · exact ⟨k, hk, rfl, by simp [reqN, numsQ]⟩
      · exact ⟨n, hn, rfl, by simp [reqN, numsQ]⟩
    obtain ⟨x, hx1, hat, hst⟩ := hx
    have hw := refNumW_ok x (by omega)
    have hxl : (numL x).length ≤ 10 := numF_len 10 x
    have hmx : (List.map rowB (numL x)).length = (numL x).length := List.length_map _
    repeat' first | refine wr (by omega) ?_ | refine stp lay_ok rfl ?_ | refine fin ?_ | refine n_thn ?_ | refine n_blk ?_ | refine e_thn ?_ | refine e_hit ?_ | refine e_rr ?_ | refine .seq ?_ | refine reg ?_ | refine .block ?_ | refine .skip ?_ | refine .exit ?_ | refine c_dec rfl (fun hc => ?_) (fun hc => ?_) | (refine o_none rfl ?_; (first | refine st_index [SV.int .i64 (x : Int)] lay_ok rfl rfl rfl rfl (by omega) hat ?_ | refine st_pure (hw) b78 rfl rfl rfl rfl ?_ | refine st_append lay_ok rfl rfl rfl rfl rfl rfl rfl rfl (.lsl rfl rfl) .sl rfl rowB_one (by omega) (by omega) ?_)) | fail
    all_goals first
      | (exfalso; omega)
      | skip
    rw [happ, ← hst]
    refine n_rr (i + 1) ?_ (.of [3] (by (repeat' first | exact trivial | refine And.intro ?_ ?_ | rfl | exact congrArg (fun z : Int => some (AV.st (.int .i64 z))) (show (i : Int) + 1 = ((i + 1 : Nat) : Int) by omega)); first | done | fail) (by (repeat' first | exact trivial | refine And.intro ?_ ?_ | rfl | exact congrArg (fun z : Int => some (AV.st (.int .i64 z))) (show (i : Int) + 1 = ((i + 1 : Nat) : Int) by omega)); first | done | fail) rfl) ?_
    · omega
    · exact hi4
  have hie : i = 4 := by omega
  subst hie
  have hm1 : (List.map rowB (textL nm)).length = (textL nm).length := List.length_map _
  have hm2 : (List.map rowB (textL p)).length = (textL p).length := List.length_map _
  have hm3 : (List.map rowB (numL ks.length)).length = (numL ks.length).length := List.length_map _
  have hm4 : (List.map rowB (reqN c t k n 4 ++ textL nm)).length = (reqN c t k n 4 ++ textL nm).length := List.length_map _
  have hm5 : (List.map rowB (reqN c t k n 4 ++ textL nm ++ textL p)).length = (reqN c t k n 4 ++ textL nm ++ textL p).length := List.length_map _
  simp only [List.length_append] at hm4 hm5
  repeat' first | refine stp lay_ok rfl ?_ | refine fin ?_ | refine n_thn ?_ | refine e_thn ?_ | refine e_hit ?_ | refine e_rr ?_ | refine .seq ?_ | refine reg ?_ | refine .exit ?_ | refine cndF rfl ?_ | (refine o_none rfl ?_; (first | refine st_pure (hw1) b73 rfl rfl rfl rfl ?_ | refine st_append lay_ok rfl rfl rfl rfl rfl rfl rfl rfl (.lsl rfl rfl) (.sl (rows := (textL nm).map rowB)) rfl rowB_one (by omega) (by omega) ?_)) | fail
  rw [happ]
  repeat' first | refine ln ?_ | refine stp lay_ok rfl ?_ | refine fin ?_ | refine n_thn ?_ | refine .seq ?_ | refine reg ?_ | (refine o_none rfl ?_; (first | refine st_pure (hw2) b73 rfl rfl rfl rfl ?_ | refine st_append lay_ok rfl rfl rfl rfl rfl rfl rfl rfl (.lsl rfl rfl) (.sl (rows := (textL p).map rowB)) rfl rowB_one (by omega) (by omega) ?_)) | fail
  rw [happ]
  repeat' first | refine stp lay_ok rfl ?_ | refine fin ?_ | refine n_thn ?_ | refine .seq ?_ | refine reg ?_ | refine .block ?_ | (refine o_none rfl ?_; (first | refine st_pure (hw3) b78 rfl rfl rfl rfl ?_ | refine st_append lay_ok rfl rfl rfl rfl rfl rfl rfl rfl (.lsl rfl rfl) (.sl (rows := (numL ks.length).map rowB)) rfl rowB_one (by omega) (by omega) ?_)) | fail
  rw [happ]
  rw [show reqN c t k n 4 ++ textL nm ++ textL p ++ numL ks.length = reqL c t k n nm p ks 0 by simp [reqL]]
  clear hw1 hw2 hw3
  refine lpR (fun j => j ≤ ks.length) (fun j => ks.length - j) (fun j => [(6, I j), (4, .lsl 6 1 0 ((reqL c t k n nm p ks j).map rowB).length)]) (fun j => [(6, .arr 1 ((reqL c t k n nm p ks j).map rowB))]) (0) [1] [] [5] rfl rfl rfl (.of [5] (by (repeat' first | exact trivial | refine And.intro ?_ ?_ | rfl); first | done | fail) (by (repeat' first | exact trivial | refine And.intro ?_ ?_ | rfl); first | done | fail) rfl) ?_ ?_
  · exact Nat.zero_le _
  rintro j hj
  refine nrm rfl rfl ?_
  have hmj : (List.map rowB (reqL c t k n nm p ks j)).length = (reqL c t k n nm p ks j).length := List.length_map _
  have hrj : (reqL c t k n nm p ks j).length ≤ 60000000 := by
    have := flat_le textL ks j
    simp only [reqL, List.length_append]
    have : ks.length * 5010 ≤ 50100000 := by omega
    omega
  by_cases hj4 : j < ks.length
  · have hatj := at_rowS hj4
    have hst : reqL c t k n nm p ks (j + 1) = reqL c t k n nm p ks j ++ textL ks[j] := by
      unfold reqL; rw [flat_take _ hj4]; simp only [List.append_assoc]
    have hwx := refText_ok ks[j] (by have := hkz _ (List.getElem_mem hj4); omega)
    have hxl := textL_len ks[j]
    have hxz := hkz _ (List.getElem_mem hj4)
    generalize ks[j] = x at *
    have hmx : (List.map rowB (textL x)).length = (textL x).length := List.length_map _
    repeat' first | refine wr (by omega) ?_ | refine ln ?_ | refine stp lay_ok rfl ?_ | refine fin ?_ | refine n_thn ?_ | refine n_blk ?_ | refine e_thn ?_ | refine e_hit ?_ | refine e_rr ?_ | refine .seq ?_ | refine reg ?_ | refine .block ?_ | refine .skip ?_ | refine .ret ?_ | refine .exit ?_ | refine c_dec rfl (fun hc => ?_) (fun hc => ?_) | (refine o_none rfl ?_; (first | refine st_index (rowS x) lay_ok rfl rfl rfl rfl (by omega) hatj ?_ | refine st_pure (hwx) b73 rfl rfl rfl rfl ?_ | refine st_append lay_ok rfl rfl rfl rfl rfl rfl rfl rfl (.lsl rfl rfl) (.sl (rows := (textL x).map rowB)) rfl rowB_one (by omega) (by omega) ?_)) | fail
    all_goals first
      | (exfalso; omega)
      | skip
    rw [happ, ← hst]
    refine n_rr (j + 1) ?_ (.of [7] (by (repeat' first | exact trivial | refine And.intro ?_ ?_ | rfl | exact congrArg (fun z : Int => some (AV.st (.int .i64 z))) (show (j : Int) + 1 = ((j + 1 : Nat) : Int) by omega)); first | done | fail) (by (repeat' first | exact trivial | refine And.intro ?_ ?_ | rfl | exact congrArg (fun z : Int => some (AV.st (.int .i64 z))) (show (j : Int) + 1 = ((j + 1 : Nat) : Int) by omega)); first | done | fail) rfl) ?_
    · omega
    · exact hj4
  have hje : j = ks.length := by omega
  subst hje
  repeat' first | refine ln ?_ | refine stp lay_ok rfl ?_ | refine fin ?_ | refine n_thn ?_ | refine e_thn ?_ | refine e_hit ?_ | refine e_rr ?_ | refine .seq ?_ | refine reg ?_ | refine .block ?_ | refine .skip ?_ | refine .ret ?_ | refine .exit ?_ | refine c_dec rfl (fun hc => ?_) (fun hc => ?_) | fail
  all_goals first
    | (exfalso; omega)
    | skip
  refine f_end (n0 := 0) (t'' := [(2, Bs (reqL c t k n nm p ks ks.length))]) (h'' := []) (Wk.then (Wk.frz 6 [2] rfl rfl rfl (by (repeat' first | exact trivial | refine And.intro ?_ ?_ | rfl); first | done | fail) (by (repeat' first | exact trivial | refine And.intro ?_ ?_ | rfl); first | done | fail) rfl rfl) (WkR.of [] (by (repeat' first | exact trivial | refine And.intro ?_ ?_ | rfl); first | done | fail) (by (repeat' first | exact trivial | refine And.intro ?_ ?_ | rfl); first | done | fail) rfl)) rfl rfl ⟨?_, rfl⟩
  rfl
def short15 (l : List ByteArray) : Bool := decide (l.length ≤ 100) && l.all fun s => decide (s.size ≤ 5000)
theorem short15_fit {l : List ByteArray} (h : short15 l = true) : l.length ≤ 100 ∧ ∀ s ∈ l, s.size ≤ 5000 := by
  unfold short15 at h
  rw [Bool.and_eq_true, decide_eq_true_eq, List.all_eq_true] at h
  exact ⟨h.1, fun s hs => of_decide_eq_true (h.2 s hs)⟩
theorem short15_ok (l : List ByteArray) : ACalls prog 14 0 [.st (.sl 1 (l.map rowS))] [] fun r h => r = B (short15 l) ∧ h = [] := by
  have hm : (List.map rowS l).length = l.length := List.length_map _
  unfold short15
  by_cases h30 : l.length ≤ 100
  · rw [decide_eq_true h30, Bool.true_and]
    refine fnC lay_ok func14 rfl rfl rfl rfl rfl ?_
    repeat' first | refine ln ?_ | refine stp lay_ok rfl ?_ | refine fin ?_ | refine n_thn ?_ | refine r_thn ?_ | refine .seq ?_ | refine reg ?_ | refine .block ?_ | refine .skip ?_ | refine .ret ?_ | refine c_dec rfl (fun hc => ?_) (fun hc => ?_) | fail
    all_goals first
      | (exfalso; omega)
      | skip
    refine lpR (fun k => k ≤ l.length ∧ (l.take k).all (fun s => decide (s.size ≤ 5000)) = true) (fun k => l.length - k) (fun k => [(3, I k)]) (fun k => []) (0) [0] [] [] rfl rfl rfl (.of [] (by (repeat' first | exact trivial | refine And.intro ?_ ?_ | rfl); first | done | fail) (by (repeat' first | exact trivial | refine And.intro ?_ ?_ | rfl); first | done | fail) rfl) ?_ ?_
    · exact ⟨Nat.zero_le _, rfl⟩
    rintro k ⟨k1, k2⟩
    refine nrm rfl rfl ?_
    by_cases hk : k < l.length
    · have hat2 := at_rowS hk
      have htk2 := all_take (p := fun s : ByteArray => decide (s.size ≤ 5000)) hk
      rw [k2, Bool.true_and] at htk2
      have hno2 := fun h => all_not (p := fun s : ByteArray => decide (s.size ≤ 5000)) (l := l) hk h
      generalize l[k] = y at *
      repeat' first | refine wr (by omega) ?_ | refine ln ?_ | refine stp lay_ok rfl ?_ | refine fin ?_ | refine n_thn ?_ | refine n_blk ?_ | refine e_thn ?_ | refine e_hit ?_ | refine r_thn ?_ | refine r_blk ?_ | refine e_rr ?_ | refine r_rr ?_ | refine .seq ?_ | refine reg ?_ | refine .block ?_ | refine .skip ?_ | refine .ret ?_ | refine .exit ?_ | refine c_dec rfl (fun hc => ?_) (fun hc => ?_) | (refine o_none rfl ?_; refine st_index [SV.str y] lay_ok rfl rfl rfl rfl (by omega) hat2 ?_) | fail
      all_goals first
        | (exfalso; omega)
        | skip
      · refine f_r [] rfl trivial rfl ⟨?_, rfl⟩
        rw [hno2 (decide_eq_false (by omega))]; rfl
      · refine n_rr (k + 1) ?_ (.of [] (by (repeat' first | exact trivial | refine And.intro ?_ ?_ | rfl | exact congrArg (fun z : Int => some (AV.st (.int .i64 z))) (show (k : Int) + 1 = ((k + 1 : Nat) : Int) by omega)); first | done | fail) (by (repeat' first | exact trivial | refine And.intro ?_ ?_ | rfl | exact congrArg (fun z : Int => some (AV.st (.int .i64 z))) (show (k : Int) + 1 = ((k + 1 : Nat) : Int) by omega)); first | done | fail) rfl) ?_
        · omega
        · exact ⟨hk, by rw [htk2]; exact decide_eq_true (by omega)⟩
    · have hke : k = l.length := by omega
      subst hke
      rw [List.take_length] at k2
      repeat' first | refine ln ?_ | refine stp lay_ok rfl ?_ | refine fin ?_ | refine n_thn ?_ | refine e_thn ?_ | refine e_hit ?_ | refine e_rr ?_ | refine .seq ?_ | refine reg ?_ | refine .block ?_ | refine .skip ?_ | refine .ret ?_ | refine .exit ?_ | refine c_dec rfl (fun hc => ?_) (fun hc => ?_) | fail
      all_goals first
        | (exfalso; omega)
        | skip
      refine f_r [] rfl trivial rfl ⟨?_, rfl⟩
      rw [k2]; rfl
  · rw [decide_eq_false h30, Bool.false_and]
    refine fnC lay_ok func14 rfl rfl rfl rfl rfl ?_
    repeat' first | refine ln ?_ | refine stp lay_ok rfl ?_ | refine fin ?_ | refine n_thn ?_ | refine r_thn ?_ | refine .seq ?_ | refine reg ?_ | refine .block ?_ | refine .skip ?_ | refine .ret ?_ | refine c_dec rfl (fun hc => ?_) (fun hc => ?_) | fail
    all_goals first
      | (exfalso; omega)
      | skip
    refine f_r [] rfl trivial rfl ⟨?_, rfl⟩
    rfl
abbrev mt0 : ByteArray := ⟨#[]⟩
abbrev body1 : ByteArray := Go.Proofs.YtohmbpcjapjkbaaGreatDoorAl.strOf (reqL 1 1 5 0 mt0 mt0 [] ([] : List ByteArray).length)
theorem getQ_0 : getQ (bd mt0) = none := by kernel_rfl
theorem getQ_1 : getQ (bd body1) = some ⟨1, 1, ⟨5, mt0, mt0, [], 0⟩⟩ := by kernel_rfl
set_option maxHeartbeats 4000000 in
theorem up15_ok : ACalls prog 13 0 [] [] fun r h => r = B true ∧ h = [] := by
  have hN := execNew_ok
  have h1 := execDo_ok xs0 [] mt0 xp0 (by decide) (by decide)
  have e1 : exD xs0 mt0 = (xs0, none) := by unfold exD; rw [getQ_0]
  rw [e1] at h1
  have h2 := execDo_ok xs0 [mt0] body1 xp0 (by decide) (by decide)
  have hx : ∃ s1 a, exD xs0 body1 = (s1, some a) ∧ (s1.z 1).time = 1 := by
    unfold exD
    rw [getQ_1]
    exact ⟨_, _, if_neg (by decide), rfl⟩
  obtain ⟨s1, a, e2, e3⟩ := hx
  have hX := exD_inv body1 xp0
  rw [e2] at h2 hX
  have h3 := execLast_ok s1 [mt0, body1] 1 hX
  have h4 := execLen_ok s1.l s1.b s1.z [mt0, body1]
  have hL : lastV s1.z 1 = .tuple [I (s1.z 1).time, ansS (s1.z 1).ans] := if_pos (by decide)
  rw [hL, e3] at h3
  have hp := refPut8_ok 1 1 5 0 mt0 mt0 [] (by decide) (by decide) (by decide) (by decide) (by decide) (by decide) (by decide) (by simp)
  simp only [exA] at h1 h2
  simp only [xs0] at h1 h2
  generalize (s1.z 1).ans = a1 at *
  refine fnC lay_ok func13 rfl rfl rfl rfl rfl ?_
  repeat' first | refine stp lay_ok rfl ?_ | refine fin ?_ | refine n_thn ?_ | refine .seq ?_ | refine reg ?_ | refine .skip ?_ | refine .ret ?_ | refine cndF rfl ?_ | ((first | refine o_none rfl ?_ | refine o_yes rfl rfl rfl ?_); (first | refine st_callF 4 (hN) b15 rfl rfl rfl rfl rfl rfl (by (repeat' first | exact trivial | refine And.intro ?_ ?_ | rfl); first | done | fail) rfl ?_ | refine st_callG [0,1,2,3] 2 (h1) b16 rfl rfl rfl rfl rfl (by (repeat' first | exact trivial | refine And.intro ?_ ?_ | rfl); first | done | fail) rfl ?_ | refine st_pureL (hp) b44 rfl (by (repeat' first | exact AVLeL.nil | refine AVLeL.cons ?_ ?_ | exact AVLe.refl _ | refine AVLe.st ?_ | exact SLe.refl _ | exact SLe.nil _ | exact SLe.sl0 _ | refine SLe.agg ?_ | refine SLe.sl ?_ | refine SLe.iface ?_ | exact SLeL.nil | refine SLeL.cons ?_ ?_ | exact RLe.nil' | refine RLe.cons' rfl ?_ ?_); first | done | fail) rfl rfl rfl ?_ | refine st_strOf lay_ok rfl rfl rfl rfl rfl rfl rfl ?_ | refine st_callG [0,1,5,4] 2 (h2) b16 rfl rfl rfl rfl rfl (by (repeat' first | exact trivial | refine And.intro ?_ ?_ | rfl); first | done | fail) rfl ?_ | refine st_callK [0,1,8,7] (h3) b24 rfl rfl rfl rfl rfl (by (repeat' first | exact trivial | refine And.intro ?_ ?_ | rfl); first | done | fail) ?_ | refine st_callK [0,1,8,7] (h4) b23 rfl rfl rfl rfl rfl (by (repeat' first | exact trivial | refine And.intro ?_ ?_ | rfl); first | done | fail) ?_)) | fail
  all_goals first
    | (exfalso; omega)
    | skip
  refine f_r [] rfl trivial rfl ⟨?_, rfl⟩
  rfl
end Go.Proofs.YtohmbpcjapjkbaaGreatDoorFn
