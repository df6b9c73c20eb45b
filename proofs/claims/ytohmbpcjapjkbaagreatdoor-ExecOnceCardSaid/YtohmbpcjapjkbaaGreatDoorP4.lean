/- Texts that the law's proof uses: part 4. -/
import Derived.Test.YtohmbpcjapjkbaaGreatDoorP3
import Derived.Test.YtohmbpcjapjkbaaGreatDoorAlYZ
import Derived.Test.YtohmbpcjapjkbaaGreatDoorAlZn
import Derived.KernelRfl
set_option linter.all false
namespace Go.Proofs.YtohmbpcjapjkbaaGreatDoorFn
open Go.Proofs.YtohmbpcjapjkbaaGreatDoorAl Go.Proofs.Tryz
attribute [local irreducible] IntKind.wrap CodeOk OpsL OpG ACalls thn inBlk rndR cutR WkR Wk fnR DW ExtOk partsOf
/-! ### a catalog of a catalog's snapshots goes on as it does -/
theorem fromC_ok (l : List NV) (hl : l.length ≤ 4000000000) (hk : ∀ s ∈ l, s.fit) (hb : fromB l = true) :
    ACalls prog 47 0 [.st (.sl 4 (l.map rowN))] [] fun r h => r = .tuple [.ptr 0 0, nilE] ∧ h = catX 1 l false := by
  rw [catX_no 1]
  have hsn := snapshotsOO_ok l hl hk
  have hm : (List.map rowN l).length = l.length := List.length_map _
  refine fnC lay_ok func47 rfl rfl rfl rfl rfl ?_
  repeat' first | refine ln ?_ | refine stp lay_ok rfl ?_ | refine fin ?_ | refine n_thn ?_ | refine .seq ?_ | refine reg ?_ | refine .block ?_ | fail
  refine lpR (fun k => k ≤ l.length ∧ fromF (l.take k) (l.drop k) = true) (fun k => l.length - k) (fun k => [(8, I k)]) (fun k => []) (0) [0, 6, 7] [] [] rfl rfl rfl (.of [] (by (repeat' first | exact trivial | refine And.intro ?_ ?_ | rfl); first | done | fail) (by (repeat' first | exact trivial | refine And.intro ?_ ?_ | rfl); first | done | fail) rfl) ?_ ?_
  · exact ⟨Nat.zero_le _, hb⟩
  rintro k ⟨hk0, hk2⟩
  refine nrm rfl rfl ?_
  repeat' first | refine stp lay_ok rfl ?_ | refine fin ?_ | refine n_thn ?_ | refine e_thn ?_ | refine e_hit ?_ | refine e_rr ?_ | refine .seq ?_ | refine reg ?_ | refine .block ?_ | refine .skip ?_ | refine .exit ?_ | refine c_dec rfl (fun hc => ?_) (fun hc => ?_) | fail
  · have hk' : k < l.length := by omega
    have hfit := hk _ (List.getElem_mem hk')
    have hmy := may_ok' (l.take k) l[k] (by simp; omega) hfit
    have hat : (l.map rowN)[((k : Nat) : Int).toNat]? = some (rowN l[k]) := by simp [hk']
    rw [fromF_step hk', Bool.and_eq_true] at hk2
    rw [hk2.1, List.map_take] at hmy
    generalize l[k] = s at *
    obtain ⟨c, n, d, es⟩ := s
    repeat' first | refine o_frb 0 [.int .i64 c, .str n, .bool d, .sl 3 (es.map rowE)] rfl rfl rfl (by (repeat' first | exact trivial | refine And.intro ?_ ?_ | rfl); first | done | fail) (by (repeat' first | exact trivial | refine And.intro ?_ ?_ | rfl); first | done | fail) rfl rfl ?_ | refine stp lay_ok rfl ?_ | refine fin ?_ | refine n_thn ?_ | refine .seq ?_ | (refine o_none rfl ?_; refine st_index (rowN ⟨c, n, d, es⟩) lay_ok rfl rfl rfl rfl (by omega) hat ?_) | fail
    refine dreg [(0, [], [14, 16]), (1, [], [13, 16]), (2, [0, 1], [16]), (3, [], [13, 14, 15]), (4, [0, 1, 2, 3], []), (5, [0, 1, 2, 3, 4], [])] mixed (by kernel_rfl) ?_
    repeat' first | refine wr (by omega) ?_ | refine stp lay_ok rfl ?_ | refine fin ?_ | refine n_thn ?_ | refine n_blk ?_ | refine reg ?_ | refine .skip ?_ | refine cndF rfl ?_ | refine dws lay_ok rfl rfl rfl rfl rfl rfl rfl ?_ | refine dw_end ?_ | refine dwb rfl rfl rfl rfl rfl (by (first | refine st_subL 0 k lay_ok rfl rfl rfl rfl ⟨_, _, rfl, rfl⟩ (Nat.zero_le _) (by omega) ?_ | refine st_pure (hmy) b82 rfl rfl rfl rfl ?_); exact fin rfl) rfl rfl ?_ | fail
    refine n_rr (k + 1) ?_ (.of [] (by (repeat' first | exact trivial | refine And.intro ?_ ?_ | rfl); first | done | fail) (by (repeat' first | exact trivial | refine And.intro ?_ ?_ | rfl); first | done | fail) rfl) ?_
    · omega
    · exact ⟨hk', hk2.2⟩
  · repeat' first | refine stp lay_ok rfl ?_ | refine fin ?_ | refine n_thn ?_ | refine .ret ?_ | (refine o_none rfl ?_; refine st_callF 1 (hsn) b49 rfl rfl rfl rfl rfl rfl (by (repeat' first | exact trivial | refine And.intro ?_ ?_ | rfl); first | done | fail) rfl ?_) | fail
    refine f_end (n0 := 2) (t'' := [(2, .ptr 0 0), (3, nilE)]) (h'' := [(0, .cells [.lsl 1 4 0 (l.map rowN).length]), (1, .arr 4 (l.map rowN))]) (WkR.of [1, 0] (by (repeat' first | exact trivial | refine And.intro ?_ ?_ | rfl); first | done | fail) (by (repeat' first | exact trivial | refine And.intro ?_ ?_ | rfl); first | done | fail) rfl) rfl rfl ⟨?_, rfl⟩
    rfl
end Go.Proofs.YtohmbpcjapjkbaaGreatDoorFn
namespace Go.Proofs.YtohmbpcjapjkbaaGreatDoorFn
open Go.Proofs.YtohmbpcjapjkbaaGreatDoorAl Go.Proofs.Tryz
attribute [local irreducible] IntKind.wrap CodeOk OpsL OpG ACalls thn inBlk rndR cutR WkR Wk fnR DW ExtOk partsOf
theorem b126 : HasBody prog 126 := ⟨f126, func126, Option.some_ne_none _, by decide⟩
/-! ### all chunks of what is planned are held -/
theorem hasK_ok (l : List ByteArray) (s : ByteArray) (hl : l.length ≤ 4000000000) : ACalls prog 126 0 [.st (.sl 1 (l.map rowS)), Sx s] [] fun r h => r = B (memB s l) ∧ h = [] := by
  have hm : (List.map rowS l).length = l.length := List.length_map _
  refine fnC lay_ok func126 rfl rfl rfl rfl rfl ?_
  repeat' first | refine stp lay_ok rfl ?_ | refine fin ?_ | refine n_thn ?_ | refine .seq ?_ | refine reg ?_ | refine .block ?_ | fail
  refine lpR (fun k => k ≤ l.length ∧ memB s (l.take k) = false) (fun k => l.length - k) (fun k => [(5, I k)]) (fun k => []) (0) [0, 1] [] [] rfl rfl rfl (.of [] (by (repeat' first | exact trivial | refine And.intro ?_ ?_ | rfl); first | done | fail) (by (repeat' first | exact trivial | refine And.intro ?_ ?_ | rfl); first | done | fail) rfl) ?_ ?_
  · exact ⟨Nat.zero_le _, rfl⟩
  rintro k ⟨g1, g2⟩
  refine nrm rfl rfl ?_
  by_cases hk : k < l.length
  · have hat := at_rowS hk
    have htk : memB s (l.take (k + 1)) = decide (s = l[k]) := by
      have : memB s (l.take (k + 1)) = (memB s (l.take k) || decide (s = l[k])) := by
        unfold memB
        rw [List.take_succ_eq_append_getElem hk, List.any_append]; simp
      rw [this, g2, Bool.false_or]
    have hmm : s = l[k] → memB s l = true := fun h => memB_iff.2 (h ▸ List.getElem_mem hk)
    generalize l[k] = y at *
    by_cases hy : y = s
    · rw [hmm hy.symm]
      repeat' first | refine wr (by omega) ?_ | refine ln ?_ | refine stp lay_ok rfl ?_ | refine fin ?_ | refine n_thn ?_ | refine n_blk ?_ | refine e_thn ?_ | refine e_hit ?_ | refine r_thn ?_ | refine r_blk ?_ | refine e_rr ?_ | refine r_rr ?_ | refine .seq ?_ | refine reg ?_ | refine .block ?_ | refine .skip ?_ | refine .ret ?_ | refine .exit ?_ | refine c_dec rfl (fun hc => ?_) (fun hc => ?_) | (refine o_none rfl ?_; refine st_index [SV.str y] lay_ok rfl rfl rfl rfl (by omega) hat ?_) | fail
      all_goals first
        | (exfalso; omega)
        | (exfalso; contradiction)
        | skip
      refine f_r [] rfl trivial rfl ⟨?_, rfl⟩
      rfl
    · repeat' first | refine wr (by omega) ?_ | refine ln ?_ | refine stp lay_ok rfl ?_ | refine fin ?_ | refine n_thn ?_ | refine n_blk ?_ | refine e_thn ?_ | refine e_hit ?_ | refine r_thn ?_ | refine r_blk ?_ | refine e_rr ?_ | refine r_rr ?_ | refine .seq ?_ | refine reg ?_ | refine .block ?_ | refine .skip ?_ | refine .ret ?_ | refine .exit ?_ | refine c_dec rfl (fun hc => ?_) (fun hc => ?_) | (refine o_none rfl ?_; refine st_index [SV.str y] lay_ok rfl rfl rfl rfl (by omega) hat ?_) | fail
      all_goals first
        | (exfalso; omega)
        | (exfalso; contradiction)
        | skip
      refine n_rr (k + 1) ?_ (.of [] (by (repeat' first | exact trivial | refine And.intro ?_ ?_ | rfl | exact congrArg (fun z : Int => some (AV.st (.int .i64 z))) (show (k : Int) + 1 = ((k + 1 : Nat) : Int) by omega)); first | done | fail) (by (repeat' first | exact trivial | refine And.intro ?_ ?_ | rfl | exact congrArg (fun z : Int => some (AV.st (.int .i64 z))) (show (k : Int) + 1 = ((k + 1 : Nat) : Int) by omega)); first | done | fail) rfl) ?_
      · omega
      · exact ⟨hk, by rw [htk]; exact decide_eq_false (fun h => hy h.symm)⟩
  · have hke : k = l.length := by omega
    subst hke
    rw [List.take_length] at g2
    rw [g2]
    repeat' first | refine ln ?_ | refine stp lay_ok rfl ?_ | refine fin ?_ | refine n_thn ?_ | refine e_thn ?_ | refine e_hit ?_ | refine e_rr ?_ | refine .seq ?_ | refine reg ?_ | refine .block ?_ | refine .skip ?_ | refine .ret ?_ | refine .exit ?_ | refine c_dec rfl (fun hc => ?_) (fun hc => ?_) | fail
    all_goals first
      | (exfalso; omega)
      | skip
    refine f_r [] rfl trivial rfl ⟨?_, rfl⟩
    rfl
end Go.Proofs.YtohmbpcjapjkbaaGreatDoorFn
namespace Go.Proofs.YtohmbpcjapjkbaaGreatDoorFn
open Go.Proofs.YtohmbpcjapjkbaaGreatDoorAl Go.Proofs.Tryz
attribute [local irreducible] IntKind.wrap CodeOk OpsL OpG ACalls thn inBlk rndR cutR WkR Wk fnR DW ExtOk partsOf
theorem b85 : HasBody prog 85 := ⟨f85, func85, Option.some_ne_none _, by decide⟩
theorem b87 : HasBody prog 87 := ⟨f87, func87, Option.some_ne_none _, by decide⟩
theorem b86 : HasBody prog 86 := ⟨f86, func86, Option.some_ne_none _, by decide⟩
theorem b125 : HasBody prog 125 := ⟨f125, func125, Option.some_ne_none _, by decide⟩
theorem b157 : HasBody prog 157 := ⟨f157, func157, Option.some_ne_none _, by decide⟩
/-! ### the document's catalog: small parts -/
theorem refNo_ok (c : Int) : ACalls prog 85 0 [I c] [] fun r h => r = ansC c ∧ h = [] := by
  refine ACalls.drop1 (h1 := [(0, ansX c)]) trivial ?_
  refine fnC lay_ok func85 rfl rfl rfl rfl rfl ?_
  repeat' first | refine stp lay_ok rfl ?_ | refine fin ?_ | refine n_thn ?_ | refine .seq ?_ | refine reg ?_ | refine .ret ?_ | fail
  refine f_end (n0 := 1) (t'' := [(2, .ptr 0 0)]) (h'' := [(0, ansX c)]) (WkR.of [0] (by (repeat' first | exact trivial | refine And.intro ?_ ?_ | rfl); first | done | fail) (by (repeat' first | exact trivial | refine And.intro ?_ ?_ | rfl); first | done | fail) rfl) rfl rfl ⟨?_, rfl⟩
  rfl
theorem refClash_ok (a b : ByteArray) (ha : a.size ≤ 4000000000 - 1) (hb : b.size ≤ 4000000000 - 1) : ACalls prog 157 0 [Sx a, Sx b] [] fun r h => r = B (clashB a b) ∧ h = [] := by
  have h1 := refUnder_ok a b ha hb
  have h2 := refUnder_ok b a hb ha
  unfold clashB
  generalize under a b = U at *
  generalize under b a = V at *
  refine fnC lay_ok func157 rfl rfl rfl rfl rfl ?_
  cases U <;> cases V
  all_goals
    repeat' first | refine stp lay_ok rfl ?_ | refine fin ?_ | refine n_thn ?_ | refine .seq ?_ | refine reg ?_ | refine .ret ?_ | (refine o_yes rfl rfl rfl ?_; (first | refine st_pure (h1) b186 rfl rfl rfl rfl ?_ | refine st_pure (h2) b186 rfl rfl rfl rfl ?_)) | refine gd rfl rfl rfl (fun hg => ?_) (fun hg => ?_) | fail
    all_goals
      refine f_r [] rfl trivial rfl ⟨?_, rfl⟩
      clear h1 h2
      first
        | (simp_all [retOf, B]; done)
        | rfl
set_option maxHeartbeats 4000000 in
theorem refFind_ok (l : List NV) (c : Int) (nm : ByteArray) (hl : l.length ≤ 4000000) : ACalls prog 87 2 [.ptr 0 0, I c, Sx nm] (catH l) fun r h => r = I (findS l c nm) ∧ h = catH l := by
  have hm : (List.map rowN l).length = l.length := List.length_map _
  refine fnC lay_ok func87 rfl rfl rfl rfl rfl ?_
  repeat' first | refine stp lay_ok rfl ?_ | refine fin ?_ | refine n_thn ?_ | refine .seq ?_ | refine reg ?_ | refine .block ?_ | fail
  refine lpR (fun k => k ≤ l.length ∧ ∀ j (h : j < k), ∀ h2 : j < l.length, isS c nm l[j] = false) (fun k => l.length - k) (fun k => [(7, I k)]) (fun k => []) (0) [0, 1, 2] [] [] rfl rfl rfl (.of [] (by (repeat' first | exact trivial | refine And.intro ?_ ?_ | rfl); first | done | fail) (by (repeat' first | exact trivial | refine And.intro ?_ ?_ | rfl); first | done | fail) rfl) ?_ ?_
  · exact ⟨Nat.zero_le _, fun j h => by omega⟩
  rintro k ⟨hk, hall⟩
  refine nrm rfl rfl ?_
  by_cases hk' : k < l.length
  · have hat : (List.map rowN l)[0 + ((k : Nat) : Int).toNat]? = some (rowN l[k]) := by simp [hk']
    cases hp : isS c nm l[k] with
    | true =>
      have hst := fidx_step (isS c nm) l k hk' (fun j h => hall j h _) hp
      have hst' : findS l c nm = k := hst
      rw [hst']
      clear hall hst hst'
      generalize l[k] = s at *
      obtain ⟨c', n', d', es⟩ := s
      unfold isS at hp
      simp only [Bool.and_eq_true, decide_eq_true_eq] at hp
      repeat' first | refine wr (by omega) ?_ | refine ln ?_ | refine stp lay_ok rfl ?_ | refine fin ?_ | refine n_thn ?_ | refine n_blk ?_ | refine e_thn ?_ | refine e_hit ?_ | refine r_thn ?_ | refine r_blk ?_ | refine e_rr ?_ | refine r_rr ?_ | refine .seq ?_ | refine reg ?_ | refine .block ?_ | refine .skip ?_ | refine .ret ?_ | refine .exit ?_ | refine cndF rfl ?_ | refine c_dec rfl (fun hc => ?_) (fun hc => ?_) | ((first | refine o_none rfl ?_ | refine o_yes rfl rfl rfl ?_); (first | refine st_indexL lay_ok rfl rfl rfl rfl (by omega) (by omega) ?_ | refine st_loadE [SV.int .i64 c', .str n', .bool d', .sl 3 (es.map rowE)] lay_ok rfl rfl rfl hat rfl rfl rfl ?_)) | refine gd rfl rfl rfl (fun hg => ?_) (fun hg => ?_) | fail
      all_goals first
        | (exfalso; omega)
        | (exfalso; simp_all; done)
        | skip
      refine f_r [(0, .cells [.lsl 1 4 0 (l.map rowN).length]), (1, .arr 4 (l.map rowN))] rfl (by (repeat' first | exact trivial | refine And.intro ?_ ?_ | rfl); first | done | fail) rfl ⟨?_, rfl⟩
      rfl
    | false =>
      generalize hs : l[k] = s at *
      obtain ⟨c', n', d', es⟩ := s
      have hpp := hp
      unfold isS at hp
      simp only [Bool.and_eq_false_iff, decide_eq_false_iff_not] at hp
      repeat' first | refine wr (by omega) ?_ | refine ln ?_ | refine stp lay_ok rfl ?_ | refine fin ?_ | refine n_thn ?_ | refine n_blk ?_ | refine e_thn ?_ | refine e_hit ?_ | refine r_thn ?_ | refine r_blk ?_ | refine e_rr ?_ | refine r_rr ?_ | refine .seq ?_ | refine reg ?_ | refine .block ?_ | refine .skip ?_ | refine .ret ?_ | refine .exit ?_ | refine cndF rfl ?_ | refine c_dec rfl (fun hc => ?_) (fun hc => ?_) | ((first | refine o_none rfl ?_ | refine o_yes rfl rfl rfl ?_); (first | refine st_indexL lay_ok rfl rfl rfl rfl (by omega) (by omega) ?_ | refine st_loadE [SV.int .i64 c', .str n', .bool d', .sl 3 (es.map rowE)] lay_ok rfl rfl rfl hat rfl rfl rfl ?_)) | refine gd rfl rfl rfl (fun hg => ?_) (fun hg => ?_) | fail
      all_goals first
        | (exfalso; omega)
        | (exfalso; simp_all; done)
        | skip
      all_goals
        refine n_rr (k + 1) ?_ (.of [] (by (repeat' first | exact trivial | refine And.intro ?_ ?_ | rfl | exact congrArg (fun z : Int => some (AV.st (.int .i64 z))) (show (k : Int) + 1 = ((k + 1 : Nat) : Int) by omega)); first | done | fail) (by (repeat' first | exact trivial | refine And.intro ?_ ?_ | rfl | exact congrArg (fun z : Int => some (AV.st (.int .i64 z))) (show (k : Int) + 1 = ((k + 1 : Nat) : Int) by omega)); first | done | fail) rfl) ?_
        · omega
        · refine ⟨hk', fun j h h2 => ?_⟩
          by_cases hj : j = k
          · subst hj; rw [hs]; exact hpp
          · exact hall j (by omega) h2
  · have hnf : findS l c nm = -1 := fidx_none (isS c nm) l fun j hj => hall j (by omega) hj
    rw [hnf]
    repeat' first | refine ln ?_ | refine stp lay_ok rfl ?_ | refine fin ?_ | refine n_thn ?_ | refine e_thn ?_ | refine e_hit ?_ | refine e_rr ?_ | refine .seq ?_ | refine reg ?_ | refine .block ?_ | refine .skip ?_ | refine .ret ?_ | refine .exit ?_ | refine c_dec rfl (fun hc => ?_) (fun hc => ?_) | fail
    all_goals first
      | (exfalso; omega)
      | skip
    refine f_r [(0, .cells [.lsl 1 4 0 (l.map rowN).length]), (1, .arr 4 (l.map rowN))] rfl (by (repeat' first | exact trivial | refine And.intro ?_ ?_ | rfl); first | done | fail) rfl ⟨?_, rfl⟩
    rfl
theorem count_take (p : NV → Bool) {l : List NV} {k : Nat} (h : k < l.length) : (l.take (k + 1)).countP p = (l.take k).countP p + if p l[k] = true then 1 else 0 := by
  rw [List.take_succ_eq_append_getElem h, List.countP_append]
  cases hp : p l[k] <;> simp [hp]
set_option maxHeartbeats 4000000 in
theorem refMany_ok (l : List NV) (c : Int) (hl : l.length ≤ 4000000) : ACalls prog 86 2 [.ptr 0 0, I c] (catH l) fun r h => r = .tuple [I (many c l), I (l.countP (isO c true) : Nat)] ∧ h = catH l := by
  have hm : (List.map rowN l).length = l.length := List.length_map _
  refine fnC lay_ok func86 rfl rfl rfl rfl rfl ?_
  repeat' first | refine stp lay_ok rfl ?_ | refine fin ?_ | refine n_thn ?_ | refine .seq ?_ | refine reg ?_ | refine .block ?_ | fail
  refine lpR (fun k => k ≤ l.length) (fun k => l.length - k) (fun k => [(8, I k), (6, I (many c (l.take k) : Nat)), (7, I ((l.take k).countP (isO c true) : Nat))]) (fun k => []) (0) [0, 1] [] [] rfl rfl rfl (.of [] (by (repeat' first | exact trivial | refine And.intro ?_ ?_ | rfl); first | done | fail) (by (repeat' first | exact trivial | refine And.intro ?_ ?_ | rfl); first | done | fail) rfl) ?_ ?_
  · exact Nat.zero_le _
  rintro k hk
  refine nrm rfl rfl ?_
  have hle1 := many_le c (l.take k)
  have hle2 : (l.take k).countP (isO c true) ≤ (l.take k).length := List.countP_le_length
  rw [List.length_take] at hle1 hle2
  by_cases hk' : k < l.length
  · have hat : (List.map rowN l)[0 + ((k : Nat) : Int).toNat]? = some (rowN l[k]) := by simp [hk']
    have h1 := many_take c l k hk'
    have h2 := count_take (isO c true) hk'
    generalize many c (l.take k) = M at *
    generalize (l.take k).countP (isO c true) = D at *
    generalize l[k] = s at *
    obtain ⟨c', n', d', es⟩ := s
    simp only at h1
    cases d'
    all_goals
      repeat' first | refine wr (by omega) ?_ | refine ln ?_ | refine stp lay_ok rfl ?_ | refine fin ?_ | refine n_thn ?_ | refine n_blk ?_ | refine e_thn ?_ | refine e_hit ?_ | refine e_rr ?_ | refine .seq ?_ | refine reg ?_ | refine .block ?_ | refine .skip ?_ | refine .ret ?_ | refine .exit ?_ | refine cndT rfl ?_ | refine cndF rfl ?_ | refine c_dec rfl (fun hc => ?_) (fun hc => ?_) | (refine o_none rfl ?_; (first | refine st_indexL lay_ok rfl rfl rfl rfl (by omega) (by omega) ?_ | refine st_loadE [SV.int .i64 c', .str n', .bool _, .sl 3 (es.map rowE)] lay_ok rfl rfl rfl hat rfl rfl rfl ?_)) | fail
      all_goals first
        | (exfalso; omega)
        | skip
      all_goals
        refine n_rr (k + 1) ?_ (.of [] (by (repeat' first | exact trivial | refine And.intro ?_ ?_ | rfl | first | exact congrArg (fun z : Int => some (AV.st (.int .i64 z))) (show (k : Int) + 1 = ((k + 1 : Nat) : Int) by omega) | exact congrArg (fun z : Int => some (AV.st (.int .i64 z))) (by first | (rw [h1]; simp_all; done) | (rw [h2]; simp_all [isO]; done) | (rw [h1]; simp_all; omega) | (rw [h2]; simp_all [isO]; omega))); first | done | fail) (by (repeat' first | exact trivial | refine And.intro ?_ ?_ | rfl | first | exact congrArg (fun z : Int => some (AV.st (.int .i64 z))) (show (k : Int) + 1 = ((k + 1 : Nat) : Int) by omega) | exact congrArg (fun z : Int => some (AV.st (.int .i64 z))) (by first | (rw [h1]; simp_all; done) | (rw [h2]; simp_all [isO]; done) | (rw [h1]; simp_all; omega) | (rw [h2]; simp_all [isO]; omega))); first | done | fail) rfl) ?_
        · omega
        · omega
  · have hke : k = l.length := by omega
    subst hke
    rw [List.take_length] at *
    repeat' first | refine ln ?_ | refine stp lay_ok rfl ?_ | refine fin ?_ | refine n_thn ?_ | refine e_thn ?_ | refine e_hit ?_ | refine e_rr ?_ | refine .seq ?_ | refine reg ?_ | refine .block ?_ | refine .skip ?_ | refine .ret ?_ | refine .exit ?_ | refine c_dec rfl (fun hc => ?_) (fun hc => ?_) | fail
    all_goals first
      | (exfalso; omega)
      | skip
    refine f_r [(0, .cells [.lsl 1 4 0 (l.map rowN).length]), (1, .arr 4 (l.map rowN))] rfl (by (repeat' first | exact trivial | refine And.intro ?_ ?_ | rfl); first | done | fail) rfl ⟨?_, rfl⟩
    rfl
theorem erase_snoc {α : Type} (x : α) : ∀ (a : List α) (i : Nat), (a ++ [x]).eraseIdx i = a.eraseIdx i ++ (if i = a.length then [] else [x])
  | [], 0 => rfl
  | [], i + 1 => by simp
  | y :: a, 0 => by simp
  | y :: a, i + 1 => by
    simp only [List.cons_append, List.eraseIdx_cons_succ, erase_snoc x a i, List.length_cons]
    congr 1
    by_cases h : i = a.length
    · rw [if_pos h, if_pos (by omega)]
    · rw [if_neg h, if_neg (by omega)]
set_option maxHeartbeats 4000000 in
theorem refWithout_ok (l : List NV) (i : Nat) (hl : l.length ≤ 4000000) : ACalls prog 125 2 [.ptr 0 0, I i] (catH l) fun r h => r = .tuple [] ∧ h = catO (l.eraseIdx i) := by
  have hm : (List.map rowN l).length = l.length := List.length_map _
  refine fnC lay_ok func125 rfl rfl rfl rfl rfl ?_
  repeat' first | refine stp lay_ok rfl ?_ | refine fin ?_ | refine n_thn ?_ | refine .seq ?_ | refine reg ?_ | refine .block ?_ | fail
  refine CodeOk.wk (Wk.nilT 4 4 rfl rfl) (Nat.le_succ _) ?_
  refine nrm rfl rfl ?_
  refine lpR (fun (k, out) => k ≤ l.length ∧ out = (l.take k).eraseIdx i ∧ out.length ≤ k) (fun (k, out) => l.length - k) (fun (k, out) => [(5, I k), (4, .lsl 3 4 0 (out.map rowN).length)]) (fun (k, out) => [(3, .arr 4 (out.map rowN))]) ((0, [])) [0, 1] [] [2] rfl rfl rfl (.of [2] (by (repeat' first | exact trivial | refine And.intro ?_ ?_ | rfl); first | done | fail) (by (repeat' first | exact trivial | refine And.intro ?_ ?_ | rfl); first | done | fail) rfl) ?_ ?_
  · exact ⟨Nat.zero_le _, by simp, Nat.le_refl _⟩
  rintro ⟨k, out⟩ ⟨g1, g2, g3⟩
  refine nrm rfl rfl ?_
  have hmr : (List.map rowN out).length = out.length := List.length_map _
  by_cases hk : k < l.length
  case neg =>
    have hke : k = l.length := by omega
    subst hke
    rw [List.take_length] at g2
    rw [← g2]
    repeat' first | refine wr (by omega) ?_ | refine ln ?_ | refine stp lay_ok rfl ?_ | refine fin ?_ | refine n_thn ?_ | refine n_blk ?_ | refine e_thn ?_ | refine e_hit ?_ | refine e_rr ?_ | refine .seq ?_ | refine reg ?_ | refine .block ?_ | refine .skip ?_ | refine .exit ?_ | refine c_dec rfl (fun hc => ?_) (fun hc => ?_) | fail
    all_goals first
      | (exfalso; omega)
      | skip
    refine f_endn (n0 := 3) (t'' := []) (h'' := [(0, .cells [.lsl 2 4 0 (out.map rowN).length]), (2, .arr 4 (out.map rowN))]) (WkR.of [3] (by (repeat' first | exact trivial | refine And.intro ?_ ?_ | rfl); first | done | fail) (by (repeat' first | exact trivial | refine And.intro ?_ ?_ | rfl); first | done | fail) rfl) rfl rfl ⟨?_, rfl⟩
    rfl
  have hat : (List.map rowN l)[0 + ((k : Nat) : Int).toNat]? = some (rowN l[k]) := by simp [hk]
  have hst : (l.take (k + 1)).eraseIdx i = out ++ (if i = k then [] else [l[k]]) := by
    rw [List.take_succ_eq_append_getElem hk, erase_snoc, ← g2, List.length_take, Nat.min_eq_left (by omega)]
  generalize l[k] = s at *
  obtain ⟨c', n', d', es⟩ := s
  have hone : ∀ row ∈ [rowN ⟨c', n', d', es⟩], ∀ y ∈ row, SV.one y = true := rowN_one (b := [⟨c', n', d', es⟩])
  have hr : List.map rowN out ++ [rowN ⟨c', n', d', es⟩] = List.map rowN (out ++ [⟨c', n', d', es⟩]) := by rw [List.map_append]; rfl
  by_cases hik : i = k
  · rw [if_pos hik, List.append_nil] at hst
    repeat' first | refine wr (by omega) ?_ | refine ln ?_ | refine stp lay_ok rfl ?_ | refine fin ?_ | refine n_thn ?_ | refine n_blk ?_ | refine e_thn ?_ | refine e_hit ?_ | refine e_rr ?_ | refine .seq ?_ | refine reg ?_ | refine .block ?_ | refine .skip ?_ | refine .exit ?_ | refine c_dec rfl (fun hc => ?_) (fun hc => ?_) | fail
    all_goals first
      | (exfalso; omega)
      | skip
    refine n_rr ((k + 1, out)) ?_ (.of [3] (by (repeat' first | exact trivial | refine And.intro ?_ ?_ | rfl | exact congrArg (fun z : Int => some (AV.st (.int .i64 z))) (show (k : Int) + 1 = ((k + 1 : Nat) : Int) by omega)); first | done | fail) (by (repeat' first | exact trivial | refine And.intro ?_ ?_ | rfl | exact congrArg (fun z : Int => some (AV.st (.int .i64 z))) (show (k : Int) + 1 = ((k + 1 : Nat) : Int) by omega)); first | done | fail) rfl) ?_
    · show l.length - (k + 1) < l.length - k; omega
    · exact ⟨hk, hst.symm, by omega⟩
  · rw [if_neg hik] at hst
    repeat' first | refine wr (by omega) ?_ | refine ln ?_ | refine stp lay_ok rfl ?_ | refine fin ?_ | refine n_thn ?_ | refine n_blk ?_ | refine e_thn ?_ | refine e_hit ?_ | refine e_rr ?_ | refine .seq ?_ | refine reg ?_ | refine .block ?_ | refine .skip ?_ | refine .exit ?_ | refine c_dec rfl (fun hc => ?_) (fun hc => ?_) | (refine o_none rfl ?_; (first | refine st_indexL lay_ok rfl rfl rfl rfl (by omega) (by omega) ?_ | refine st_loadE [SV.int .i64 c', .str n', .bool d', .sl 3 (es.map rowE)] lay_ok rfl rfl rfl hat rfl rfl rfl ?_ | refine st_append lay_ok rfl rfl rfl rfl rfl rfl rfl rfl (.lsl rfl rfl) (.sl (rows := [rowN ⟨c', n', d', es⟩])) rfl hone (by simp only [List.length_cons, List.length_nil]; omega) (by simp only [List.length_cons, List.length_nil]; omega) ?_)) | fail
    all_goals first
      | (exfalso; omega)
      | skip
    rw [hr]
    refine n_rr ((k + 1, out ++ [⟨c', n', d', es⟩])) ?_ (.of [4] (by (repeat' first | exact trivial | refine And.intro ?_ ?_ | rfl | exact congrArg (fun z : Int => some (AV.st (.int .i64 z))) (show (k : Int) + 1 = ((k + 1 : Nat) : Int) by omega)); first | done | fail) (by (repeat' first | exact trivial | refine And.intro ?_ ?_ | rfl | exact congrArg (fun z : Int => some (AV.st (.int .i64 z))) (show (k : Int) + 1 = ((k + 1 : Nat) : Int) by omega)); first | done | fail) rfl) ?_
    · show l.length - (k + 1) < l.length - k; omega
    · exact ⟨hk, hst.symm, by simp; omega⟩
end Go.Proofs.YtohmbpcjapjkbaaGreatDoorFn
namespace Go.Proofs.YtohmbpcjapjkbaaGreatDoorFn
open Go.Proofs.YtohmbpcjapjkbaaGreatDoorAl Go.Proofs.Tryz
attribute [local irreducible] IntKind.wrap CodeOk OpsL OpG ACalls thn inBlk rndR cutR WkR Wk fnR DW ExtOk partsOf
theorem b88 : HasBody prog 88 := ⟨f88, func88, Option.some_ne_none _, by decide⟩
/-! ### the document's prune -/
theorem rem_first (p : NV → Bool) : ∀ (l : List NV) (g : Nat), g < l.countP p → ∃ i, ∃ hi : i < (remK p g l).length, p (remK p g l)[i] = true ∧ (∀ j (h : j < i), p ((remK p g l)[j]'(by omega)) = false) ∧ (remK p g l).eraseIdx i = remK p (g + 1) l
  | [], g, h => by simp at h
  | x :: r, 0, h => by
    have e0 : remK p 0 (x :: r) = x :: r := rfl
    have er : remK p 0 r = r := by cases r <;> rfl
    by_cases hx : p x = true
    · refine ⟨0, by rw [e0]; simp, by simpa [e0] using hx, fun j h => by omega, ?_⟩
      rw [e0]
      show r = _
      rw [remK, if_pos hx, er]
    · rw [List.countP_cons_of_neg hx] at h
      obtain ⟨i, hi, h1, h2, h3⟩ := rem_first p r 0 h
      simp only [er] at hi h1 h2 h3
      refine ⟨i + 1, by rw [e0]; simpa using hi, by simpa [e0] using h1, fun j hj => ?_, ?_⟩
      · cases j with
        | zero => simpa [e0] using hx
        | succ j => simpa [e0] using h2 j (by omega)
      · rw [e0, List.eraseIdx_cons_succ, h3]
        rw [show remK p (0 + 1) (x :: r) = x :: remK p (0 + 1) r from by rw [remK, if_neg hx]]
  | x :: r, g + 1, h => by
    by_cases hx : p x = true
    · have e1 : remK p (g + 1) (x :: r) = remK p g r := by rw [remK, if_pos hx]
      have e2 : remK p (g + 1 + 1) (x :: r) = remK p (g + 1) r := by rw [remK, if_pos hx]
      rw [List.countP_cons_of_pos hx] at h
      rw [e2]
      simp only [e1]
      exact rem_first p r g (by omega)
    · have e1 : remK p (g + 1) (x :: r) = x :: remK p (g + 1) r := by rw [remK, if_neg hx]
      have e2 : remK p (g + 1 + 1) (x :: r) = x :: remK p (g + 1 + 1) r := by rw [remK, if_neg hx]
      rw [List.countP_cons_of_neg hx] at h
      obtain ⟨i, hi, h1, h2, h3⟩ := rem_first p r (g + 1) h
      rw [e2]
      simp only [e1]
      refine ⟨i + 1, by simpa using hi, by simpa using h1, fun j hj => ?_, by rw [List.eraseIdx_cons_succ, h3]⟩
      cases j with
      | zero => simpa using hx
      | succ j => simpa using h2 j (by omega)
theorem remK_len (p : NV → Bool) (g : Nat) (l : List NV) : (remK p g l).length ≤ l.length := by
  induction l generalizing g with
  | nil => rw [remK_nil]; exact Nat.le_refl _
  | cons x r ih =>
    cases g with
    | zero => exact Nat.le_refl _
    | succ g =>
      unfold remK
      split
      · exact Nat.le_succ_of_le (ih g)
      · exact Nat.succ_le_succ (ih (g + 1))
set_option maxHeartbeats 8000000 in
set_option maxRecDepth 4000 in
theorem refPrune_ok (l : List NV) (c n : Int) (hn : 0 ≤ n ∧ n ≤ 100) (hl : l.length ≤ 4000000) : ACalls prog 88 2 [.ptr 0 0, I c, I n] (catH l) fun r h => r = ansG (goneP l c n) ∧ h = catO (remK (isO c true) (goneP l c n) l) := by
  have h2 := refMany_ok l c hl
  have hcl : l.countP (isO c true) ≤ l.length := List.countP_le_length
  have hml := many_le c l
  have hg : goneP l c n = ((l.countP (isO c true) : Int) - n).toNat := rfl
  have hfst := fun g h => rem_first (isO c true) l g h
  generalize l.countP (isO c true) = D at *
  generalize goneP l c n = G at *
  refine ACalls.drop1 (h1 := catO (remK (isO c true) G l) ++ [(3, .cells [.st (.int .i64 0), .st (.int .i64 G), .st .nilsl, .st .nilsl, .st .nilsl])]) ⟨rfl, rfl, trivial⟩ ?_
  refine fnC lay_ok func88 rfl rfl rfl rfl rfl ?_
  repeat' first | refine stp lay_ok rfl ?_ | refine fin ?_ | refine n_thn ?_ | refine .seq ?_ | refine reg ?_ | refine .block ?_ | (refine o_none rfl ?_; refine st_callK [0,1] (h2) b86 rfl rfl rfl rfl rfl (by (repeat' first | exact trivial | refine And.intro ?_ ?_ | rfl); first | done | fail) ?_) | fail
  have h00 : remK (isO c true) 0 l = l := by cases l <;> rfl
  refine lpR (fun (g, L) => g ≤ G ∧ L = remK (isO c true) g l) (fun (g, L) => G - g) (fun (g, L) => [(9, I g)]) (fun (g, L) => [(0, .cells [.lsl 3 4 0 (L.map rowN).length]), (3, .arr 4 (L.map rowN))]) ((0, l)) [0, 1, 2, 6, 8] [0] [1] rfl rfl rfl (.of [1] (by (repeat' first | exact trivial | refine And.intro ?_ ?_ | rfl); first | done | fail) (by (repeat' first | exact trivial | refine And.intro ?_ ?_ | rfl); first | done | fail) rfl) ?_ ?_
  · exact ⟨Nat.zero_le _, h00.symm⟩
  rintro ⟨g, L⟩ ⟨g1, g2⟩
  refine nrm rfl rfl ?_
  by_cases hk : g < G
  case neg =>
    have hge : g = G := by omega
    subst hge
    rw [← g2]
    repeat' first | refine wr (by omega) ?_ | refine stp lay_ok rfl ?_ | refine fin ?_ | refine n_thn ?_ | refine e_thn ?_ | refine e_hit ?_ | refine e_rr ?_ | refine .seq ?_ | refine reg ?_ | refine .block ?_ | refine .skip ?_ | refine .ret ?_ | refine .exit ?_ | refine c_dec rfl (fun hc => ?_) (fun hc => ?_) | fail
    all_goals first
      | (exfalso; omega)
      | skip
    refine f_end (n0 := 4) (t'' := [(6, .ptr 3 0)]) (h'' := [(0, .cells [.lsl 2 4 0 (L.map rowN).length]), (2, .arr 4 (L.map rowN)), (3, .cells [.st (.int .i64 0), .st (.int .i64 g), .st .nilsl, .st .nilsl, .st .nilsl])]) (WkR.of [3, 2] (by (repeat' first | exact trivial | refine And.intro ?_ ?_ | rfl); first | done | fail) (by (repeat' first | exact trivial | refine And.intro ?_ ?_ | rfl); first | done | fail) rfl) rfl rfl ⟨?_, rfl⟩
    rfl
  have hLl : L.length ≤ l.length := by rw [g2]; exact remK_len _ _ _
  obtain ⟨i0, hi0, f1, f2, f3⟩ := hfst g (by omega)
  simp only [← g2] at hi0 f1 f2 f3
  have hwo := refWithout_ok L i0 (by omega)
  rw [f3] at hwo
  generalize hL' : remK (isO c true) (g + 1) l = L' at *
  have hmL : (List.map rowN L).length = L.length := List.length_map _
  repeat' first | refine wr (by omega) ?_ | refine stp lay_ok rfl ?_ | refine fin ?_ | refine n_thn ?_ | refine e_thn ?_ | refine e_hit ?_ | refine e_rr ?_ | refine .seq ?_ | refine reg ?_ | refine .block ?_ | refine .skip ?_ | refine .ret ?_ | refine .exit ?_ | refine c_dec rfl (fun hc => ?_) (fun hc => ?_) | fail
  all_goals first
    | (exfalso; omega)
    | skip
  refine lpR (fun j => j ≤ i0 + 1) (fun j => i0 + 1 - j) (fun j => [(11, I j), (10, I (if j ≤ i0 then -1 else (i0 : Int)))]) (fun j => []) (0) [0, 1, 2, 6, 8, 9] [] [] rfl rfl rfl (.of [] (by (repeat' first | exact trivial | refine And.intro ?_ ?_ | rfl); first | done | fail) (by (repeat' first | exact trivial | refine And.intro ?_ ?_ | rfl); first | done | fail) rfl) ?_ ?_
  · exact Nat.zero_le _
  rintro j j1
  refine nrm rfl rfl ?_
  by_cases hj : j ≤ i0
  · rw [if_pos hj]
    have hjL : j < L.length := by omega
    have hat : (List.map rowN L)[0 + ((j : Nat) : Int).toNat]? = some (rowN L[j]) := by simp [hjL]
    by_cases hji : j = i0
    · subst hji
      generalize L[j] = s at *
      obtain ⟨c', n', d', es⟩ := s
      unfold isO at f1
      simp only [Bool.not_true, Bool.or_false, Bool.and_eq_true, decide_eq_true_eq] at f1
      obtain ⟨rfl, rfl⟩ := f1
      repeat' first | refine wr (by omega) ?_ | refine ln ?_ | refine stp lay_ok rfl ?_ | refine fin ?_ | refine n_thn ?_ | refine n_blk ?_ | refine e_thn ?_ | refine e_hit ?_ | refine e_rr ?_ | refine .seq ?_ | refine reg ?_ | refine .block ?_ | refine .skip ?_ | refine .exit ?_ | refine cndT rfl ?_ | refine cndF rfl ?_ | ((first | refine o_none rfl ?_ | refine o_yes rfl rfl rfl ?_); (first | refine st_indexL lay_ok rfl rfl rfl rfl (by omega) (by omega) ?_ | refine st_loadE [SV.int .i64 c', .str n', .bool true, .sl 3 (es.map rowE)] lay_ok rfl rfl rfl hat rfl rfl rfl ?_)) | refine gd rfl rfl rfl (fun hg => ?_) (fun hg => ?_) | fail
      all_goals first
        | (exfalso; omega)
        | (exfalso; simp_all; done)
        | skip
      refine n_rr (j + 1) ?_ (.of [] (by (repeat' first | exact trivial | refine And.intro ?_ ?_ | rfl | first | exact congrArg (fun z : Int => some (AV.st (.int .i64 z))) (show (j : Int) + 1 = ((j + 1 : Nat) : Int) by omega) | exact congrArg (fun z : Int => some (AV.st (.int .i64 z))) (by rw [if_neg (by omega)])); first | done | fail) (by (repeat' first | exact trivial | refine And.intro ?_ ?_ | rfl | first | exact congrArg (fun z : Int => some (AV.st (.int .i64 z))) (show (j : Int) + 1 = ((j + 1 : Nat) : Int) by omega) | exact congrArg (fun z : Int => some (AV.st (.int .i64 z))) (by rw [if_neg (by omega)])); first | done | fail) rfl) ?_
      · omega
      · omega
    · have f2j := f2 j (by omega)
      generalize L[j] = s at *
      obtain ⟨c', n', d', es⟩ := s
      unfold isO at f2j
      simp only [Bool.not_true, Bool.or_false, Bool.and_eq_false_iff, decide_eq_false_iff_not] at f2j
      cases d'
      all_goals
        repeat' first | refine wr (by omega) ?_ | refine ln ?_ | refine stp lay_ok rfl ?_ | refine fin ?_ | refine n_thn ?_ | refine n_blk ?_ | refine e_thn ?_ | refine e_hit ?_ | refine e_rr ?_ | refine .seq ?_ | refine reg ?_ | refine .block ?_ | refine .skip ?_ | refine .exit ?_ | refine cndT rfl ?_ | refine cndF rfl ?_ | ((first | refine o_none rfl ?_ | refine o_yes rfl rfl rfl ?_); (first | refine st_indexL lay_ok rfl rfl rfl rfl (by omega) (by omega) ?_ | refine st_loadE [SV.int .i64 c', .str n', .bool _, .sl 3 (es.map rowE)] lay_ok rfl rfl rfl hat rfl rfl rfl ?_)) | refine gd rfl rfl rfl (fun hg => ?_) (fun hg => ?_) | fail
        all_goals first
          | (exfalso; omega)
          | (exfalso; simp_all; done)
          | skip
        all_goals
          refine n_rr (j + 1) ?_ (.of [] (by (repeat' first | exact trivial | refine And.intro ?_ ?_ | rfl | first | exact congrArg (fun z : Int => some (AV.st (.int .i64 z))) (show (j : Int) + 1 = ((j + 1 : Nat) : Int) by omega) | exact congrArg (fun z : Int => some (AV.st (.int .i64 z))) (by rw [if_pos (by omega)])); first | done | fail) (by (repeat' first | exact trivial | refine And.intro ?_ ?_ | rfl | first | exact congrArg (fun z : Int => some (AV.st (.int .i64 z))) (show (j : Int) + 1 = ((j + 1 : Nat) : Int) by omega) | exact congrArg (fun z : Int => some (AV.st (.int .i64 z))) (by rw [if_pos (by omega)])); first | done | fail) rfl) ?_
          · omega
          · omega
  · rw [if_neg hj]
    repeat' first | refine wr (by omega) ?_ | refine ln ?_ | refine stp lay_ok rfl ?_ | refine fin ?_ | refine n_thn ?_ | refine n_blk ?_ | refine e_thn ?_ | refine e_hit ?_ | refine e_rr ?_ | refine .seq ?_ | refine reg ?_ | refine .exit ?_ | refine cndF rfl ?_ | (refine o_none rfl ?_; refine st_callG [0,3] 1 (hwo) b125 rfl rfl rfl rfl rfl (by (repeat' first | exact trivial | refine And.intro ?_ ?_ | rfl); first | done | fail) rfl ?_) | refine gd rfl rfl rfl (fun hg => ?_) (fun hg => ?_) | fail
    all_goals first
      | (exfalso; omega)
      | skip
    all_goals
      refine n_rr ((g + 1, L')) ?_ (.of [4] (by (repeat' first | exact trivial | refine And.intro ?_ ?_ | rfl | exact congrArg (fun z : Int => some (AV.st (.int .i64 z))) (show (g : Int) + 1 = ((g + 1 : Nat) : Int) by omega)); first | done | fail) (by (repeat' first | exact trivial | refine And.intro ?_ ?_ | rfl | exact congrArg (fun z : Int => some (AV.st (.int .i64 z))) (show (g : Int) + 1 = ((g + 1 : Nat) : Int) by omega)); first | done | fail) rfl) ?_
      · show G - (g + 1) < G - g; omega
      · exact ⟨hk, hL'.symm⟩
end Go.Proofs.YtohmbpcjapjkbaaGreatDoorFn
namespace Go.Proofs.YtohmbpcjapjkbaaGreatDoorFn
open Go.Proofs.YtohmbpcjapjkbaaGreatDoorAl Go.Proofs.Tryz
attribute [local irreducible] IntKind.wrap CodeOk OpsL OpG ACalls thn inBlk rndR cutR WkR Wk fnR DW ExtOk partsOf
theorem b89 : HasBody prog 89 := ⟨f89, func89, Option.some_ne_none _, by decide⟩
/-! ### the document's chunks -/
theorem addS_not {S : List ByteArray} {k : ByteArray} (h : memB k S = false) : addS S k = S ++ [k] := by unfold addS; rw [h, if_neg (by simp)]
theorem addS_in {S : List ByteArray} {k : ByteArray} (h : memB k S = true) : addS S k = S := by unfold addS; rw [h, if_pos rfl]
theorem rowS_gS {d : List ByteArray} {j : Nat} (h : j < d.length) : (List.map rowS d)[0 + ((j : Nat) : Int).toNat]? = some [SV.str (gS d j)] := by
  rw [Nat.zero_add, Int.toNat_natCast, List.getElem?_map, List.getElem?_eq_getElem h, gS_at h]; rfl
theorem allS_take0 {l : List NV} {k : Nat} (h : k < l.length) : (allS (l.take (k + 1))).length = (allS (l.take k)).length + (l[k].entries.flatMap (·.keys)).length := by
  rw [List.take_succ_eq_append_getElem h]
  unfold allS
  rw [List.flatMap_append, List.length_append]; simp
theorem keysE_take0 {es : List EV} {k : Nat} (h : k < es.length) : ((es.take (k + 1)).flatMap (·.keys)).length = ((es.take k).flatMap (·.keys)).length + es[k].keys.length := by
  rw [List.take_succ_eq_append_getElem h, List.flatMap_append, List.length_append]; simp
theorem flat_take_le (es : List EV) (k : Nat) : ((es.take k).flatMap (·.keys)).length ≤ (es.flatMap (·.keys)).length := by
  have e : (es.flatMap (·.keys)).length = ((es.take k).flatMap (·.keys)).length + ((es.drop k).flatMap (·.keys)).length := by
    rw [← List.length_append, ← List.flatMap_append, List.take_append_drop]
  omega
theorem allS_sub (l : List NV) (k : Nat) : (allS (l.take k)).length ≤ (allS l).length := by
  have e : (allS l).length = (allS (l.take k)).length + (allS (l.drop k)).length := by
    unfold allS
    rw [← List.length_append, ← List.flatMap_append, List.take_append_drop]
  omega
set_option maxHeartbeats 16000000 in
set_option maxRecDepth 8000 in
theorem refHeld_ok (l : List NV) (hl : l.length ≤ 4000000) (hE : ∀ s ∈ l, s.entries.length ≤ 4000000) (hK : ∀ s ∈ l, ∀ e ∈ s.entries, e.keys.length ≤ 4000000) (hA : (allS l).length ≤ 4000000) :
    ACalls prog 89 2 [.ptr 0 0] (catH l) fun r h => r = .st (.sl 1 ((heldS l).map rowS)) ∧ h = catH l := by
  have hm : (List.map rowN l).length = l.length := List.length_map _
  have hfin : heldS l = sortS ((allS l).foldl addS []) := rfl
  rw [hfin]
  have hlenF := fun S l' => (addF_facts (fun _ => True) l' S)
  refine fnC lay_ok func89 rfl rfl rfl rfl rfl ?_
  repeat' first | refine stp lay_ok rfl ?_ | refine fin ?_ | refine n_thn ?_ | refine .seq ?_ | refine reg ?_ | refine .block ?_ | fail
  refine CodeOk.wk (Wk.nilT 1 3 rfl rfl) (Nat.le_succ _) ?_
  refine nrm rfl rfl ?_
  refine lpR (fun (k, S) => k ≤ l.length ∧ S = (allS (l.take k)).foldl addS [] ∧ S.length ≤ (allS (l.take k)).length) (fun (k, S) => l.length - k) (fun (k, S) => [(4, I k), (3, .lsl 3 1 0 (S.map rowS).length)]) (fun (k, S) => [(3, .arr 1 (S.map rowS))]) ((0, [])) [0] [] [2] rfl rfl rfl (.of [2] (by (repeat' first | exact trivial | refine And.intro ?_ ?_ | rfl); first | done | fail) (by (repeat' first | exact trivial | refine And.intro ?_ ?_ | rfl); first | done | fail) rfl) ?_ ?_
  · exact ⟨Nat.zero_le _, rfl, Nat.le_refl _⟩
  rintro ⟨k, S⟩ ⟨g1, g2, g3⟩
  refine nrm rfl rfl ?_
  have hmS : (List.map rowS S).length = S.length := List.length_map _
  by_cases hk : k < l.length
  case neg =>
    have hke : k = l.length := by omega
    subst hke
    rw [List.take_length] at g2 g3
    rw [← g2]
    repeat' first | refine ln ?_ | refine stp lay_ok rfl ?_ | refine fin ?_ | refine n_thn ?_ | refine e_thn ?_ | refine e_hit ?_ | refine e_rr ?_ | refine .seq ?_ | refine reg ?_ | refine .block ?_ | refine .skip ?_ | refine .exit ?_ | refine c_dec rfl (fun hc => ?_) (fun hc => ?_) | fail
    all_goals first
      | (exfalso; omega)
      | skip
    refine lpR (fun (i, d) => 1 ≤ i ∧ d.length = S.length ∧ d.Perm S ∧ (i ≤ S.length ∨ i = 1) ∧ srtTo d i) (fun (i, d) => S.length - i) (fun (i, d) => [(9, I i)]) (fun (i, d) => [(3, .arr 1 (d.map rowS))]) ((1, S)) [3] [3] [] rfl rfl rfl (.of [] (by (repeat' first | exact trivial | refine And.intro ?_ ?_ | rfl); first | done | fail) (by (repeat' first | exact trivial | refine And.intro ?_ ?_ | rfl); first | done | fail) rfl) ?_ ?_
    · exact ⟨Nat.le_refl _, rfl, List.Perm.refl _, .inr rfl, fun a b hab hb => by omega⟩
    rintro ⟨i, d⟩ ⟨m1, m2, m3, m4, m5⟩
    refine nrm rfl rfl ?_
    have hmd : (List.map rowS d).length = d.length := List.length_map _
    by_cases hi : i < S.length
    case neg =>
      have hs : sortS S = d := by
        rw [← sortS_perm m3]
        exact sortS_sorted fun a b hab hb => m5 a b hab (by omega)
      rw [hs]
      repeat' first | refine ln ?_ | refine stp lay_ok rfl ?_ | refine fin ?_ | refine n_thn ?_ | refine e_thn ?_ | refine e_hit ?_ | refine e_rr ?_ | refine .seq ?_ | refine reg ?_ | refine .block ?_ | refine .skip ?_ | refine .ret ?_ | refine .exit ?_ | refine c_dec rfl (fun hc => ?_) (fun hc => ?_) | fail
      all_goals first
        | (exfalso; omega)
        | skip
      rw [show (List.map rowS S).length = (List.map rowS d).length by rw [hmS, hmd, m2]]
      refine f_end (n0 := 2) (t'' := [(2, .st (.sl 1 (d.map rowS)))]) (h'' := [(0, .cells [.lsl 1 4 0 (l.map rowN).length]), (1, .arr 4 (l.map rowN))]) (Wk.then (Wk.frz 3 [2] rfl rfl rfl (by (repeat' first | exact trivial | refine And.intro ?_ ?_ | rfl); first | done | fail) (by (repeat' first | exact trivial | refine And.intro ?_ ?_ | rfl); first | done | fail) rfl rfl) (WkR.of [0, 1] (by (repeat' first | exact trivial | refine And.intro ?_ ?_ | rfl); first | done | fail) (by (repeat' first | exact trivial | refine And.intro ?_ ?_ | rfl); first | done | fail) rfl)) rfl rfl ⟨?_, rfl⟩
      rfl
    repeat' first | refine ln ?_ | refine stp lay_ok rfl ?_ | refine fin ?_ | refine n_thn ?_ | refine e_thn ?_ | refine e_hit ?_ | refine e_rr ?_ | refine .seq ?_ | refine reg ?_ | refine .block ?_ | refine .skip ?_ | refine .ret ?_ | refine .exit ?_ | refine c_dec rfl (fun hc => ?_) (fun hc => ?_) | fail
    all_goals first
      | (exfalso; omega)
      | skip
    refine lpR (fun (q, e) => q ≤ i ∧ e.length = S.length ∧ e.Perm S ∧ srtBut e (i + 1) q) (fun (q, e) => q) (fun (q, e) => [(10, I q)]) (fun (q, e) => [(3, .arr 1 (e.map rowS))]) ((i, d)) [3, 9] [3] [] rfl rfl rfl (.of [] (by (repeat' first | exact trivial | refine And.intro ?_ ?_ | rfl); first | done | fail) (by (repeat' first | exact trivial | refine And.intro ?_ ?_ | rfl); first | done | fail) rfl) ?_ ?_
    · exact ⟨Nat.le_refl _, m2, m3, srtBut_of m5⟩
    rintro ⟨q, e⟩ ⟨n1, n2, n3, n4⟩
    refine nrm rfl rfl ?_
    have hme : (List.map rowS e).length = e.length := List.length_map _
    have hexit : ∀ _ : (q = 0 ∨ (0 < q ∧ strLt (gS e q) (gS e (q - 1)) = false)), srtTo e (i + 1) := fun h => srtBut_done n4 n1 h
    by_cases hq : q = 0
    · subst hq
      have hso := hexit (.inl rfl)
      repeat' first | refine .seq ?_ | fail
      all_goals first
        | (exfalso; omega)
        | skip
      refine dreg [(0, [], []), (1, [0], []), (2, [0, 1], []), (3, [0, 1, 2], [86, 89, 90, 91, 92, 93]), (4, [0, 1, 2], [85, 89, 90, 91, 92, 93]), (5, [0, 1, 2, 3, 4], [89, 90, 91, 92, 93]), (6, [0, 1, 2, 3, 4, 5], [89, 90, 91, 92, 93]), (7, [0, 1, 2], [85, 86, 87, 88, 90, 91]), (8, [0, 1, 2], [85, 86, 87, 88, 89]), (9, [0, 1, 2, 8], [85, 86, 87, 88, 89]), (10, [0, 1, 2, 7, 8, 9], [85, 86, 87, 88]), (11, [0, 1, 2, 7, 8, 9, 10], [85, 86, 87, 88]), (12, [0, 1, 2, 3, 4, 5, 6, 7, 8, 9, 10, 11], []), (13, [0, 1, 2, 3, 4, 5, 6, 7, 8, 9, 10, 11, 12], [])] mixed (by kernel_rfl) ?_
      repeat' first | refine wr (by omega) ?_ | refine stp lay_ok rfl ?_ | refine fin ?_ | refine n_thn ?_ | refine n_blk ?_ | refine e_thn ?_ | refine e_hit ?_ | refine e_rr ?_ | refine reg ?_ | refine .exit ?_ | refine cndF rfl ?_ | refine dws lay_ok rfl rfl rfl rfl rfl rfl rfl ?_ | refine dw_end ?_ | refine dw_skip rfl rfl rfl ?_ | fail
      all_goals first
        | (exfalso; omega)
        | skip
      refine n_rr ((i + 1, e)) ?_ (.of [] (by (repeat' first | exact trivial | refine And.intro ?_ ?_ | rfl | exact congrArg (fun z : Int => some (AV.st (.int .i64 z))) (show (i : Int) + 1 = ((i + 1 : Nat) : Int) by omega)); first | done | fail) (by (repeat' first | exact trivial | refine And.intro ?_ ?_ | rfl | exact congrArg (fun z : Int => some (AV.st (.int .i64 z))) (show (i : Int) + 1 = ((i + 1 : Nat) : Int) by omega)); first | done | fail) rfl) ?_
      · show S.length - (i + 1) < S.length - i; omega
      · exact ⟨by omega, n2, n3, .inl hi, hso⟩
    have hq0 : 0 < q := by omega
    have hat1 := rowS_gS (d := e) (j := q) (by omega)
    have hat2 : (List.map rowS e)[0 + ((q : Int) - 1).toNat]? = some [SV.str (gS e (q - 1))] := by
      have := rowS_gS (d := e) (j := q - 1) (by omega)
      rw [← this]; congr 1; omega
    have hset1 : ((List.map rowS e).set (0 + ((q : Nat) : Int).toNat) [SV.str (gS e (q - 1))])[0 + ((q : Int) - 1).toNat]? = some [SV.str (gS e (q - 1))] := by
      rw [List.getElem?_set_ne (by omega)]; exact hat2
    have hset2 : ((List.map rowS e).set (0 + ((q : Nat) : Int).toNat) [SV.str (gS e (q - 1))]).set (0 + ((q : Int) - 1).toNat) [SV.str (gS e q)] = List.map rowS (swapS e q) := by
      rw [show (0 + ((q : Int) - 1).toNat) = q - 1 by omega, Nat.zero_add, Int.toNat_natCast]
      unfold swapS
      rw [List.map_set, List.map_set]; rfl
    cases hlt : strLt (gS e q) (gS e (q - 1)) with
    | false =>
      have hso := hexit (.inr ⟨hq0, hlt⟩)
      repeat' first | refine .seq ?_ | fail
      all_goals first
        | (exfalso; omega)
        | skip
      refine dreg [(0, [], []), (1, [0], []), (2, [0, 1], []), (3, [0, 1, 2], [86, 89, 90, 91, 92, 93]), (4, [0, 1, 2], [85, 89, 90, 91, 92, 93]), (5, [0, 1, 2, 3, 4], [89, 90, 91, 92, 93]), (6, [0, 1, 2, 3, 4, 5], [89, 90, 91, 92, 93]), (7, [0, 1, 2], [85, 86, 87, 88, 90, 91]), (8, [0, 1, 2], [85, 86, 87, 88, 89]), (9, [0, 1, 2, 8], [85, 86, 87, 88, 89]), (10, [0, 1, 2, 7, 8, 9], [85, 86, 87, 88]), (11, [0, 1, 2, 7, 8, 9, 10], [85, 86, 87, 88]), (12, [0, 1, 2, 3, 4, 5, 6, 7, 8, 9, 10, 11], []), (13, [0, 1, 2, 3, 4, 5, 6, 7, 8, 9, 10, 11, 12], [])] mixed (by kernel_rfl) ?_
      repeat' first | refine wr (by omega) ?_ | refine stp lay_ok rfl ?_ | refine fin ?_ | refine n_thn ?_ | refine n_blk ?_ | refine e_thn ?_ | refine e_hit ?_ | refine e_rr ?_ | refine .seq ?_ | refine reg ?_ | refine .block ?_ | refine .skip ?_ | refine .exit ?_ | refine cndF rfl ?_ | refine cnd rfl (fun hc => ?_) (fun hc => ?_) | ((first | refine o_none rfl ?_ | refine o_none_ ?_); (first | refine st_indexL lay_ok rfl rfl rfl rfl (by omega) (by omega) ?_ | refine st_loadE [SV.str (gS e q)] lay_ok rfl rfl rfl hat1 rfl rfl rfl ?_ | refine st_loadE [SV.str (gS e (q - 1))] lay_ok rfl rfl rfl hat2 rfl rfl rfl ?_)) | refine dwr (by omega) ?_ | refine dws lay_ok rfl rfl rfl rfl rfl rfl rfl ?_ | refine dw_end ?_ | refine dw_skip rfl rfl rfl ?_ | refine dwb rfl rfl rfl rfl rfl (by (first | refine st_indexL lay_ok rfl rfl rfl rfl (by omega) (by omega) ?_ | refine st_loadE [SV.str (gS e q)] lay_ok rfl rfl rfl hat1 rfl rfl rfl ?_ | refine st_loadE [SV.str (gS e (q - 1))] lay_ok rfl rfl rfl hat2 rfl rfl rfl ?_); exact fin rfl) rfl rfl ?_ | refine dw_dec rfl rfl rfl (fun hg => ?_) (fun hg => ?_) | fail
      all_goals first
        | (exfalso; omega)
        | (exfalso; exact absurd (show strLt (gS e q) (gS e (q - 1)) = true from by assumption) (by rw [hlt]; simp))
        | skip
      refine n_rr ((i + 1, e)) ?_ (.of [] (by (repeat' first | exact trivial | refine And.intro ?_ ?_ | rfl | exact congrArg (fun z : Int => some (AV.st (.int .i64 z))) (show (i : Int) + 1 = ((i + 1 : Nat) : Int) by omega)); first | done | fail) (by (repeat' first | exact trivial | refine And.intro ?_ ?_ | rfl | exact congrArg (fun z : Int => some (AV.st (.int .i64 z))) (show (i : Int) + 1 = ((i + 1 : Nat) : Int) by omega)); first | done | fail) rfl) ?_
      · show S.length - (i + 1) < S.length - i; omega
      · exact ⟨by omega, n2, n3, .inl hi, hso⟩
    | true =>
      have hstep := swap_step (d := e) (i := i + 1) (k := q) (by omega) hq0 (by omega) n4 hlt
      have hperm := (swapS_perm e q (by omega) hq0).trans n3
      have hlen := swapS_len e q
      repeat' first | refine .seq ?_ | fail
      all_goals first
        | (exfalso; omega)
        | skip
      refine dreg [(0, [], []), (1, [0], []), (2, [0, 1], []), (3, [0, 1, 2], [86, 89, 90, 91, 92, 93]), (4, [0, 1, 2], [85, 89, 90, 91, 92, 93]), (5, [0, 1, 2, 3, 4], [89, 90, 91, 92, 93]), (6, [0, 1, 2, 3, 4, 5], [89, 90, 91, 92, 93]), (7, [0, 1, 2], [85, 86, 87, 88, 90, 91]), (8, [0, 1, 2], [85, 86, 87, 88, 89]), (9, [0, 1, 2, 8], [85, 86, 87, 88, 89]), (10, [0, 1, 2, 7, 8, 9], [85, 86, 87, 88]), (11, [0, 1, 2, 7, 8, 9, 10], [85, 86, 87, 88]), (12, [0, 1, 2, 3, 4, 5, 6, 7, 8, 9, 10, 11], []), (13, [0, 1, 2, 3, 4, 5, 6, 7, 8, 9, 10, 11, 12], [])] mixed (by kernel_rfl) ?_
      repeat' first | refine wr (by omega) ?_ | refine stp lay_ok rfl ?_ | refine fin ?_ | refine n_thn ?_ | refine n_blk ?_ | refine e_thn ?_ | refine e_hit ?_ | refine e_rr ?_ | refine .seq ?_ | refine reg ?_ | refine .block ?_ | refine .skip ?_ | refine .exit ?_ | refine cndF rfl ?_ | refine cnd rfl (fun hc => ?_) (fun hc => ?_) | ((first | refine o_none rfl ?_ | refine o_none_ ?_); (first | refine st_indexL lay_ok rfl rfl rfl rfl (by omega) (by omega) ?_ | refine st_loadE [SV.str (gS e q)] lay_ok rfl rfl rfl hat1 rfl rfl rfl ?_ | refine st_loadE [SV.str (gS e (q - 1))] lay_ok rfl rfl rfl hat2 rfl rfl rfl ?_)) | refine o_none_ (st_storeE lay_ok rfl rfl rfl hat1 rfl rfl rfl rfl ?_) | refine o_none_ (st_storeE lay_ok rfl rfl rfl hset1 rfl rfl rfl rfl ?_) | refine dwr (by omega) ?_ | refine dws lay_ok rfl rfl rfl rfl rfl rfl rfl ?_ | refine dw_end ?_ | refine dw_skip rfl rfl rfl ?_ | refine dwb rfl rfl rfl rfl rfl (by (first | refine st_indexL lay_ok rfl rfl rfl rfl (by omega) (by omega) ?_ | refine st_loadE [SV.str (gS e q)] lay_ok rfl rfl rfl hat1 rfl rfl rfl ?_ | refine st_loadE [SV.str (gS e (q - 1))] lay_ok rfl rfl rfl hat2 rfl rfl rfl ?_); exact fin rfl) rfl rfl ?_ | refine dw_dec rfl rfl rfl (fun hg => ?_) (fun hg => ?_) | fail
      all_goals first
        | (exfalso; omega)
        | (exfalso; rw [show strLt (gS e q) (gS e (q - 1)) = false from by assumption] at hlt; exact Bool.noConfusion hlt)
        | skip
      refine n_rr ((q - 1, swapS e q)) ?_ (.of [] (by (repeat' first | exact trivial | refine And.intro ?_ ?_ | rfl | first | exact congrArg (fun z : Int => some (AV.st (.int .i64 z))) (show (q : Int) - 1 = ((q - 1 : Nat) : Int) by omega) | exact congrArg (fun r => some (AO.arr 1 r)) hset2); first | done | fail) (by (repeat' first | exact trivial | refine And.intro ?_ ?_ | rfl | first | exact congrArg (fun z : Int => some (AV.st (.int .i64 z))) (show (q : Int) - 1 = ((q - 1 : Nat) : Int) by omega) | exact congrArg (fun r => some (AO.arr 1 r)) hset2); first | done | fail) rfl) ?_
      · show q - 1 < q; omega
      · exact ⟨by omega, by rw [hlen]; exact n2, hperm, hstep⟩
  have hat : (List.map rowN l)[0 + ((k : Nat) : Int).toNat]? = some (rowN l[k]) := by simp [hk]
  have hst : (allS (l.take (k + 1))).foldl addS [] = (l[k].entries.flatMap (·.keys)).foldl addS S := by
    rw [g2, List.take_succ_eq_append_getElem hk]
    unfold allS
    rw [List.flatMap_append, List.foldl_append]; simp
  have hatk := allS_take0 hk
  have hsub : (allS (l.take (k + 1))).length ≤ (allS l).length := allS_sub l (k + 1)
  have hEk := hE _ (List.getElem_mem hk)
  have hKk := hK _ (List.getElem_mem hk)
  generalize l[k] = s at *
  obtain ⟨c', n', d', es⟩ := s
  simp only at hst hEk hKk hatk
  have hme : (List.map rowE es).length = es.length := List.length_map _
  repeat' first | refine ln ?_ | refine stp lay_ok rfl ?_ | refine fin ?_ | refine n_thn ?_ | refine e_thn ?_ | refine e_hit ?_ | refine e_rr ?_ | refine .seq ?_ | refine reg ?_ | refine .block ?_ | refine .skip ?_ | refine .exit ?_ | refine c_dec rfl (fun hc => ?_) (fun hc => ?_) | fail
  all_goals first
    | (exfalso; omega)
    | skip
  refine lpR (fun (i, S2) => i ≤ es.length ∧ S2 = ((es.take i).flatMap (·.keys)).foldl addS S ∧ S2.length ≤ S.length + ((es.take i).flatMap (·.keys)).length) (fun (i, S2) => es.length - i) (fun (i, S2) => [(5, I i), (3, .lsl 4 1 0 (S2.map rowS).length)]) (fun (i, S2) => [(4, .arr 1 (S2.map rowS))]) ((0, S)) [0, 4] [] [3] rfl rfl rfl (.of [3] (by (repeat' first | exact trivial | refine And.intro ?_ ?_ | rfl); first | done | fail) (by (repeat' first | exact trivial | refine And.intro ?_ ?_ | rfl); first | done | fail) rfl) ?_ ?_
  · exact ⟨Nat.zero_le _, rfl, Nat.le_refl _⟩
  rintro ⟨i, S2⟩ ⟨m1, m2, m3⟩
  refine nrm rfl rfl ?_
  have hmS2 : (List.map rowS S2).length = S2.length := List.length_map _
  by_cases hi : i < es.length
  case neg =>
    have hie : i = es.length := by omega
    subst hie
    rw [List.take_length] at m2 m3
    repeat' first | refine wr (by omega) ?_ | refine ln ?_ | refine stp lay_ok rfl ?_ | refine fin ?_ | refine n_thn ?_ | refine n_blk ?_ | refine e_thn ?_ | refine e_hit ?_ | refine e_rr ?_ | refine .seq ?_ | refine reg ?_ | refine .block ?_ | refine .skip ?_ | refine .exit ?_ | refine c_dec rfl (fun hc => ?_) (fun hc => ?_) | (refine o_none rfl ?_; (first | refine st_indexL lay_ok rfl rfl rfl rfl (by omega) (by omega) ?_ | refine st_loadE [SV.int .i64 c', .str n', .bool d', .sl 3 (es.map rowE)] lay_ok rfl rfl rfl hat rfl rfl rfl ?_)) | fail
    all_goals first
      | (exfalso; omega)
      | skip
    refine n_rr ((k + 1, S2)) ?_ (.of [4] (by (repeat' first | exact trivial | refine And.intro ?_ ?_ | rfl | exact congrArg (fun z : Int => some (AV.st (.int .i64 z))) (show (k : Int) + 1 = ((k + 1 : Nat) : Int) by omega)); first | done | fail) (by (repeat' first | exact trivial | refine And.intro ?_ ?_ | rfl | exact congrArg (fun z : Int => some (AV.st (.int .i64 z))) (show (k : Int) + 1 = ((k + 1 : Nat) : Int) by omega)); first | done | fail) rfl) ?_
    · show l.length - (k + 1) < l.length - k; omega
    · exact ⟨hk, by rw [hst]; exact m2, by omega⟩
  have hat2 := at_rowE hi
  have hst2 : ((es.take (i + 1)).flatMap (·.keys)).foldl addS S = es[i].keys.foldl addS S2 := by
    rw [m2, List.take_succ_eq_append_getElem hi, List.flatMap_append, List.foldl_append]; simp
  have hkt := keysE_take0 hi
  have hft := flat_take_le es (i + 1)
  have hKi := hKk _ (List.getElem_mem hi)
  generalize es[i] = e at *
  obtain ⟨p, z, ks⟩ := e
  simp only at hst2 hKi hkt
  have hmk : (List.map rowS ks).length = ks.length := List.length_map _
  repeat' first | refine wr (by omega) ?_ | refine ln ?_ | refine stp lay_ok rfl ?_ | refine fin ?_ | refine n_thn ?_ | refine n_blk ?_ | refine e_thn ?_ | refine e_hit ?_ | refine e_rr ?_ | refine .seq ?_ | refine reg ?_ | refine .block ?_ | refine .skip ?_ | refine .exit ?_ | refine c_dec rfl (fun hc => ?_) (fun hc => ?_) | (refine o_none rfl ?_; (first | refine st_indexL lay_ok rfl rfl rfl rfl (by omega) (by omega) ?_ | refine st_loadE [SV.int .i64 c', .str n', .bool d', .sl 3 (es.map rowE)] lay_ok rfl rfl rfl hat rfl rfl rfl ?_)) | fail
  all_goals first
    | (exfalso; omega)
    | skip
  refine lpR (fun (j, S3) => j ≤ ks.length ∧ S3 = (ks.take j).foldl addS S2 ∧ S3.length ≤ S2.length + j) (fun (j, S3) => ks.length - j) (fun (j, S3) => [(6, I j), (3, .lsl 5 1 0 (S3.map rowS).length)]) (fun (j, S3) => [(5, .arr 1 (S3.map rowS))]) ((0, S2)) [0, 4, 5] [] [4] rfl rfl rfl (.of [4] (by (repeat' first | exact trivial | refine And.intro ?_ ?_ | rfl); first | done | fail) (by (repeat' first | exact trivial | refine And.intro ?_ ?_ | rfl); first | done | fail) rfl) ?_ ?_
  · exact ⟨Nat.zero_le _, rfl, Nat.le_refl _⟩
  rintro ⟨j, S3⟩ ⟨q1, q2, q3⟩
  refine nrm rfl rfl ?_
  have hmS3 : (List.map rowS S3).length = S3.length := List.length_map _
  by_cases hj : j < ks.length
  case neg =>
    have hje : j = ks.length := by omega
    subst hje
    rw [List.take_length] at q2
    repeat' first | refine wr (by omega) ?_ | refine ln ?_ | refine stp lay_ok rfl ?_ | refine fin ?_ | refine n_thn ?_ | refine n_blk ?_ | refine e_thn ?_ | refine e_hit ?_ | refine e_rr ?_ | refine .seq ?_ | refine reg ?_ | refine .block ?_ | refine .skip ?_ | refine .exit ?_ | refine c_dec rfl (fun hc => ?_) (fun hc => ?_) | (refine o_none rfl ?_; (first | refine st_indexL lay_ok rfl rfl rfl rfl (by omega) (by omega) ?_ | refine st_loadE [SV.int .i64 c', .str n', .bool d', .sl 3 (es.map rowE)] lay_ok rfl rfl rfl hat rfl rfl rfl ?_ | refine st_index [SV.str p, .int .i64 z, .sl 1 (ks.map rowS)] lay_ok rfl rfl rfl rfl (by omega) hat2 ?_)) | fail
    all_goals first
      | (exfalso; omega)
      | skip
    refine n_rr ((i + 1, S3)) ?_ (.of [5] (by (repeat' first | exact trivial | refine And.intro ?_ ?_ | rfl | exact congrArg (fun z : Int => some (AV.st (.int .i64 z))) (show (i : Int) + 1 = ((i + 1 : Nat) : Int) by omega)); first | done | fail) (by (repeat' first | exact trivial | refine And.intro ?_ ?_ | rfl | exact congrArg (fun z : Int => some (AV.st (.int .i64 z))) (show (i : Int) + 1 = ((i + 1 : Nat) : Int) by omega)); first | done | fail) rfl) ?_
    · show es.length - (i + 1) < es.length - i; omega
    · exact ⟨hi, by rw [hst2]; exact q2, by omega⟩
  have hat3 := at_rowS hj
  have hst3 : (ks.take (j + 1)).foldl addS S2 = addS S3 ks[j] := by
    rw [q2, List.take_succ_eq_append_getElem hj, List.foldl_append]; rfl
  have hhas := hasK_ok S3 ks[j] (by omega)
  generalize ks[j] = y at *
  have hr : List.map rowS S3 ++ [[SV.str y]] = List.map rowS (S3 ++ [y]) := by rw [List.map_append]; rfl
  cases hmem : memB y S3 with
  | true =>
    rw [hmem] at hhas
    rw [addS_in hmem] at hst3
    repeat' first | refine wr (by omega) ?_ | refine ln ?_ | refine stp lay_ok rfl ?_ | refine fin ?_ | refine n_thn ?_ | refine n_blk ?_ | refine e_thn ?_ | refine e_hit ?_ | refine e_rr ?_ | refine .seq ?_ | refine reg ?_ | refine .block ?_ | refine .skip ?_ | refine .exit ?_ | refine cndF rfl ?_ | refine c_dec rfl (fun hc => ?_) (fun hc => ?_) | (refine o_none rfl ?_; (first | refine st_indexL lay_ok rfl rfl rfl rfl (by omega) (by omega) ?_ | refine st_loadE [SV.int .i64 c', .str n', .bool d', .sl 3 (es.map rowE)] lay_ok rfl rfl rfl hat rfl rfl rfl ?_ | refine st_index [SV.str p, .int .i64 z, .sl 1 (ks.map rowS)] lay_ok rfl rfl rfl rfl (by omega) hat2 ?_ | refine st_index [SV.str y] lay_ok rfl rfl rfl rfl (by omega) hat3 ?_ | refine st_borrow (hhas) b126 rfl rfl (by (repeat' first | refine Borrow.cons' rfl ?_ ?_ | exact Borrow.nil' rfl | exact trivial | exact rfl | refine And.intro ?_ ?_); first | done | fail) rfl ?_)) | fail
    all_goals first
      | (exfalso; omega)
      | skip
    refine n_rr ((j + 1, S3)) ?_ (.of [5] (by (repeat' first | exact trivial | refine And.intro ?_ ?_ | rfl | exact congrArg (fun z : Int => some (AV.st (.int .i64 z))) (show (j : Int) + 1 = ((j + 1 : Nat) : Int) by omega)); first | done | fail) (by (repeat' first | exact trivial | refine And.intro ?_ ?_ | rfl | exact congrArg (fun z : Int => some (AV.st (.int .i64 z))) (show (j : Int) + 1 = ((j + 1 : Nat) : Int) by omega)); first | done | fail) rfl) ?_
    · show ks.length - (j + 1) < ks.length - j; omega
    · exact ⟨hj, hst3.symm, by omega⟩
  | false =>
    rw [hmem] at hhas
    rw [addS_not hmem] at hst3
    repeat' first | refine wr (by omega) ?_ | refine ln ?_ | refine stp lay_ok rfl ?_ | refine fin ?_ | refine n_thn ?_ | refine n_blk ?_ | refine e_thn ?_ | refine e_hit ?_ | refine e_rr ?_ | refine .seq ?_ | refine reg ?_ | refine .block ?_ | refine .skip ?_ | refine .exit ?_ | refine cndT rfl ?_ | refine c_dec rfl (fun hc => ?_) (fun hc => ?_) | (refine o_none rfl ?_; (first | refine st_indexL lay_ok rfl rfl rfl rfl (by omega) (by omega) ?_ | refine st_loadE [SV.int .i64 c', .str n', .bool d', .sl 3 (es.map rowE)] lay_ok rfl rfl rfl hat rfl rfl rfl ?_ | refine st_index [SV.str p, .int .i64 z, .sl 1 (ks.map rowS)] lay_ok rfl rfl rfl rfl (by omega) hat2 ?_ | refine st_index [SV.str y] lay_ok rfl rfl rfl rfl (by omega) hat3 ?_ | refine st_borrow (hhas) b126 rfl rfl (by (repeat' first | refine Borrow.cons' rfl ?_ ?_ | exact Borrow.nil' rfl | exact trivial | exact rfl | refine And.intro ?_ ?_); first | done | fail) rfl ?_ | refine st_append lay_ok rfl rfl rfl rfl rfl rfl rfl rfl (.lsl rfl rfl) (.sl (rows := [[SV.str y]])) rfl (rowS_one1 y) (by simp only [List.length_cons, List.length_nil]; omega) (by simp only [List.length_cons, List.length_nil]; omega) ?_)) | fail
    all_goals first
      | (exfalso; omega)
      | skip
    rw [hr]
    refine n_rr ((j + 1, S3 ++ [y])) ?_ (.of [6] (by (repeat' first | exact trivial | refine And.intro ?_ ?_ | rfl | exact congrArg (fun z : Int => some (AV.st (.int .i64 z))) (show (j : Int) + 1 = ((j + 1 : Nat) : Int) by omega)); first | done | fail) (by (repeat' first | exact trivial | refine And.intro ?_ ?_ | rfl | exact congrArg (fun z : Int => some (AV.st (.int .i64 z))) (show (j : Int) + 1 = ((j + 1 : Nat) : Int) by omega)); first | done | fail) rfl) ?_
    · show ks.length - (j + 1) < ks.length - j; omega
    · exact ⟨hj, hst3.symm, by simp; omega⟩
end Go.Proofs.YtohmbpcjapjkbaaGreatDoorFn
namespace Go.Proofs.YtohmbpcjapjkbaaGreatDoorFn
open Go.Proofs.YtohmbpcjapjkbaaGreatDoorAl Go.Proofs.Tryz
/-! ### an entry put in its place, step by step -/
/-- Where the loop stands: what is out already, and whether the new entry is. -/
def putS (e : EV) (es : List EV) (k : Nat) (put : Bool) (out : List EV) : Prop :=
  (put = false ∧ out = es.take k ∧ insR e es = es.take k ++ insR e (es.drop k)) ∨ (put = true ∧ insR e es = out ++ es.drop k ∧ out.length = k + 1)
theorem putS_0 (e : EV) (es : List EV) : putS e es 0 false [] := .inl ⟨rfl, by simp, by simp⟩
theorem putS_len {e : EV} {es : List EV} {k : Nat} {put : Bool} {out : List EV} (h : putS e es k put out) : out.length ≤ k + 1 := by
  rcases h with ⟨_, h, _⟩ | ⟨_, _, h⟩
  · rw [h, List.length_take]; omega
  · omega
theorem putS_in {e : EV} {es : List EV} {k : Nat} {out : List EV} (h : putS e es k false out) (hk : k < es.length) (hlt : strLt e.path es[k].path = true) : putS e es (k + 1) true ((out ++ [e]) ++ [es[k]]) := by
  rcases h with ⟨_, h2, h3⟩ | ⟨h1, _, _⟩
  · right
    refine ⟨rfl, ?_, ?_⟩
    · rw [h3, List.drop_eq_getElem_cons hk, h2]
      show _ ++ (if ltC cmE e es[k] = true then e :: es[k] :: _ else _) = _
      rw [if_pos (by rw [ltC_str]; exact hlt)]; simp
    · rw [h2]; simp; omega
  · cases h1
theorem putS_on {e : EV} {es : List EV} {k : Nat} {out : List EV} (h : putS e es k false out) (hk : k < es.length) (hlt : strLt e.path es[k].path = false) : putS e es (k + 1) false (out ++ [es[k]]) := by
  rcases h with ⟨_, h2, h3⟩ | ⟨h1, _, _⟩
  · left
    refine ⟨rfl, ?_, ?_⟩
    · rw [h2, List.take_succ_eq_append_getElem hk]
    · rw [h3, List.drop_eq_getElem_cons hk]
      show _ ++ (if ltC cmE e es[k] = true then _ else es[k] :: insR e _) = _
      rw [if_neg (by rw [ltC_str, hlt]; simp), List.take_succ_eq_append_getElem hk, List.append_assoc]; rfl
  · cases h1
theorem putS_go {e : EV} {es : List EV} {k : Nat} {out : List EV} (h : putS e es k true out) (hk : k < es.length) : putS e es (k + 1) true (out ++ [es[k]]) := by
  rcases h with ⟨h1, _, _⟩ | ⟨_, h2, h3⟩
  · cases h1
  · right
    exact ⟨rfl, by rw [h2, List.drop_eq_getElem_cons hk]; simp, by simp [h3]⟩
theorem putS_end0 {e : EV} {es : List EV} {out : List EV} (h : putS e es es.length false out) : out ++ [e] = insR e es := by
  rcases h with ⟨_, h2, h3⟩ | ⟨h1, _, _⟩
  · rw [h3, List.drop_length, List.take_length, h2, List.take_length]; rfl
  · cases h1
theorem putS_end1 {e : EV} {es : List EV} {out : List EV} (h : putS e es es.length true out) : out = insR e es := by
  rcases h with ⟨h1, _, _⟩ | ⟨_, h2, h3⟩
  · cases h1
  · rw [h2, List.drop_length, List.append_nil]
/-! ### an entry added, case by case -/
theorem addP_done {s : NV} {o : OV} (h : s.done = true) : addP s o = (s, noA 6) := by unfold addP; rw [if_pos h]
theorem addP_clash {s : NV} {o : OV} (h : s.done = false) (h1 : (s.entries.any fun e => clashB e.path o.path) = true) : addP s o = (s, noA 4) := by unfold addP; rw [if_neg (by rw [h]; simp), if_pos h1]
theorem addP_full {s : NV} {o : OV} (h : s.done = false) (h1 : (s.entries.any fun e => clashB e.path o.path) = false) (h2 : 32 ≤ s.entries.length) : addP s o = (s, noA 5) := by
  unfold addP; rw [if_neg (by rw [h]; simp), if_neg (by rw [h1]; simp), if_pos h2]
theorem addP_large {s : NV} {o : OV} (h : s.done = false) (h1 : (s.entries.any fun e => clashB e.path o.path) = false) (h2 : ¬ 32 ≤ s.entries.length) (h3 : 1024 < tot o.keys) : addP s o = (s, noA 7) := by
  unfold addP; rw [if_neg (by rw [h]; simp), if_neg (by rw [h1]; simp), if_neg h2, if_pos h3]
theorem addP_yes {s : NV} {o : OV} (h : s.done = false) (h1 : (s.entries.any fun e => clashB e.path o.path) = false) (h2 : ¬ 32 ≤ s.entries.length) (h3 : ¬ 1024 < tot o.keys) (hs : s.entries.Pairwise fun x y => ltC cmE y x = false) (hdp : ∀ x ∈ s.entries, ∀ y ∈ s.entries, x.path = y.path → x = y) :
    addP s o = (⟨s.client, s.name, s.done, insR ⟨o.path, tot o.keys, o.keys⟩ s.entries⟩, noA 0) := by
  unfold addP; rw [if_neg (by rw [h]; simp), if_neg (by rw [h1]; simp), if_neg h2, if_neg h3]
  rw [insR_srt hs]
  have hno : ∀ e ∈ s.entries, e.path ≠ o.path := fun e he h => by
    have := List.any_eq_false.1 h1 e he
    simp [clashB, h] at this
  intro x hx y hy hxy
  rcases List.mem_cons.1 hx with hx | hx <;> rcases List.mem_cons.1 hy with hy | hy
  · rw [hx, hy]
  · subst hx; exact absurd hxy.symm (hno y hy)
  · subst hy; exact absurd hxy (hno x hx)
  · exact hdp x hx y hy hxy
end Go.Proofs.YtohmbpcjapjkbaaGreatDoorFn
namespace Go.Proofs.YtohmbpcjapjkbaaGreatDoorFn
open Go.Proofs.YtohmbpcjapjkbaaGreatDoorAl Go.Proofs.Tryz
attribute [local irreducible] IntKind.wrap CodeOk OpsL OpG ACalls thn inBlk rndR cutR WkR Wk fnR DW ExtOk partsOf
theorem b127 : HasBody prog 127 := ⟨f127, func127, Option.some_ne_none _, by decide⟩
/-! ### the document adds an entry -/
set_option maxHeartbeats 8000000 in
set_option maxRecDepth 4000 in
theorem refAdd_ok (l : List NV) (i : Nat) (o : OV) (hi : i < l.length) (hl : l.length ≤ 4000000) (hlen : l[i].entries.length ≤ 4000000) (hkl : o.keys.length ≤ 4000000) (htk : tot o.keys ≤ 4000000000) (hp : ∀ e ∈ l[i].entries, e.path.size ≤ 4000000000 - 1) (ho : o.path.size ≤ 4000000000 - 1)
    (hs : l[i].entries.Pairwise fun x y => ltC cmE y x = false) (hdp : ∀ x ∈ l[i].entries, ∀ y ∈ l[i].entries, x.path = y.path → x = y) :
    ACalls prog 127 2 [.ptr 0 0, I i, .st (.agg (rowO o))] (catH l) fun r h => r = ansC (addP l[i] o).2.code ∧ h = catO (l.set i (addP l[i] o).1) := by
  have hno := fun c => refNo_ok c
  have hm : (List.map rowN l).length = l.length := List.length_map _
  have hat : (List.map rowN l)[0 + ((i : Nat) : Int).toNat]? = some (rowN l[i]) := by simp [hi]
  have hj := refJoin0_ok o.keys (by omega) htk
  have hjt := join_tot0 o.keys
  generalize joinB o.keys = J at *
  have hself : l.set i l[i] = l := List.set_getElem_self hi
  have hset := fun es' => set_rowN (l := l) (i := i) (s := l[i]) ⟨l[i].client, l[i].name, l[i].done, es'⟩
  have hA1 := addP_done (s := l[i]) (o := o)
  have hA2 := addP_clash (s := l[i]) (o := o)
  have hA3 := addP_full (s := l[i]) (o := o)
  have hA4 := addP_large (s := l[i]) (o := o)
  have hA5 := addP_yes (s := l[i]) (o := o)
  generalize l[i] = s at *
  obtain ⟨c', n', d', es⟩ := s
  obtain ⟨k, nm, pt, ks, n⟩ := o
  simp only at hlen hp hkl htk ho hj hjt hset hA1 hA2 hA3 hA4 hA5 hs hdp
  generalize addP ⟨c', n', d', es⟩ ⟨k, nm, pt, ks, n⟩ = R at *
  have hlenR : (List.map rowN (l.set i R.1)).length = (List.map rowN l).length := by simp
  refine ACalls.drop1 (h1 := catO (l.set i R.1) ++ [(3, ansX R.2.code)]) ⟨rfl, rfl, trivial⟩ ?_
  have hcat : catO (l.set i R.1) = [(0, .cells [.lsl 2 4 0 (l.map rowN).length]), (2, .arr 4 ((l.set i R.1).map rowN))] := by
    show [(0, AO.cells [.lsl 2 4 0 _]), (2, AO.arr 4 _)] = _
    rw [hlenR]
  rw [hcat]
  clear hcat hlenR
  have hme : (List.map rowE es).length = es.length := List.length_map _
  have hmk : (List.map rowS ks).length = ks.length := List.length_map _
  cases d' with
  | true =>
    rw [hA1 rfl, hself]
    refine fnC lay_ok func127 rfl rfl rfl rfl rfl ?_
    repeat' first | refine stp lay_ok rfl ?_ | refine fin ?_ | refine n_thn ?_ | refine r_thn ?_ | refine .seq ?_ | refine reg ?_ | refine .ret ?_ | refine cndT rfl ?_ | (refine o_none rfl ?_; (first | refine st_indexL lay_ok rfl rfl rfl rfl (by omega) (by omega) ?_ | refine st_loadE [SV.int .i64 c', .str n', .bool true, .sl 3 (es.map rowE)] lay_ok rfl rfl rfl hat rfl rfl rfl ?_ | refine st_pure (hno _) b85 rfl rfl rfl rfl ?_)) | fail
    all_goals first
      | (exfalso; omega)
      | skip
    refine f_end (n0 := 4) (t'' := [(6, .ptr 3 0)]) (h'' := [(0, .cells [.lsl 2 4 0 (l.map rowN).length]), (2, .arr 4 (l.map rowN)), (3, ansX 6)]) (WkR.of [1, 3] (by (repeat' first | exact trivial | refine And.intro ?_ ?_ | rfl); first | done | fail) (by (repeat' first | exact trivial | refine And.intro ?_ ?_ | rfl); first | done | fail) rfl) rfl rfl ⟨?_, rfl⟩
    rfl
  | false =>
  refine fnC lay_ok func127 rfl rfl rfl rfl rfl ?_
  repeat' first | refine stp lay_ok rfl ?_ | refine fin ?_ | refine n_thn ?_ | refine .seq ?_ | refine reg ?_ | refine .block ?_ | refine .skip ?_ | refine cndF rfl ?_ | (refine o_none rfl ?_; (first | refine st_indexL lay_ok rfl rfl rfl rfl (by omega) (by omega) ?_ | refine st_loadE [SV.int .i64 c', .str n', .bool false, .sl 3 (es.map rowE)] lay_ok rfl rfl rfl hat rfl rfl rfl ?_)) | fail
  all_goals first
    | (exfalso; omega)
    | skip
  refine lpR (fun j => j ≤ es.length ∧ (es.take j).any (fun e => clashB e.path pt) = false) (fun j => es.length - j) (fun j => [(8, I j)]) (fun j => []) (0) [0, 1, 5, 6, 7] [] [] rfl rfl rfl (.of [] (by (repeat' first | exact trivial | refine And.intro ?_ ?_ | rfl); first | done | fail) (by (repeat' first | exact trivial | refine And.intro ?_ ?_ | rfl); first | done | fail) rfl) ?_ ?_
  · exact ⟨Nat.zero_le _, rfl⟩
  rintro j ⟨j1, j2⟩
  refine nrm rfl rfl ?_
  by_cases hjl : j < es.length
  · have hatj := at_rowE hjl
    have hcl := refClash_ok es[j].path pt (hp _ (List.getElem_mem hjl)) ho
    have htk1 : (es.take (j + 1)).any (fun e => clashB e.path pt) = clashB es[j].path pt := by
      rw [List.take_succ_eq_append_getElem hjl, List.any_append, j2]; simp
    have hany : clashB es[j].path pt = true → es.any (fun e => clashB e.path pt) = true := fun h => List.any_eq_true.2 ⟨_, List.getElem_mem hjl, h⟩
    generalize es[j] = e at *
    obtain ⟨p, z, eks⟩ := e
    simp only at hcl htk1 hany
    generalize clashB p pt = C at *
    repeat' first | refine ln ?_ | refine stp lay_ok rfl ?_ | refine fin ?_ | refine n_thn ?_ | refine e_thn ?_ | refine e_hit ?_ | refine e_rr ?_ | refine .seq ?_ | refine reg ?_ | refine .block ?_ | refine .skip ?_ | refine .exit ?_ | refine c_dec rfl (fun hc => ?_) (fun hc => ?_) | fail
    all_goals first
      | (exfalso; omega)
      | skip
    refine dreg [(0, [], [34, 38, 39]), (1, [0], [34, 38, 39]), (2, [], [32, 33, 38, 39]), (3, [0, 1, 2], [38, 39]), (4, [0, 1, 2, 3], [38, 39]), (5, [0, 1, 2, 3, 4], [38, 39]), (6, [], [32, 33, 34, 35, 36, 37]), (7, [6], [32, 33, 34, 35, 36, 37]), (8, [0, 1, 2, 3, 4, 5, 6, 7], []), (9, [0, 1, 2, 3, 4, 5, 6, 7, 8], [])] mixed (by kernel_rfl) ?_
    cases C with
    | true =>
      have hAx := hA2 rfl (hany rfl)
      subst hAx
      repeat' first | refine stp lay_ok rfl ?_ | refine fin ?_ | refine n_thn ?_ | refine r_thn ?_ | refine r_blk ?_ | refine r_rr ?_ | refine .seq ?_ | refine reg ?_ | refine .ret ?_ | refine cndT rfl ?_ | (refine o_none rfl ?_; refine st_pure (hno _) b85 rfl rfl rfl rfl ?_) | refine dws lay_ok rfl rfl rfl rfl rfl rfl rfl ?_ | refine dw_end ?_ | refine dwb rfl rfl rfl rfl rfl (by (first | refine st_index (rowE ⟨p, z, eks⟩) lay_ok rfl rfl rfl rfl (by omega) hatj ?_ | refine st_pure (hcl) b157 rfl rfl rfl rfl ?_ | refine st_pure (hno _) b85 rfl rfl rfl rfl ?_); exact fin rfl) rfl rfl ?_ | fail
      all_goals first
        | (exfalso; omega)
        | skip
      rw [hself]
      refine f_end (n0 := 4) (t'' := [(6, .ptr 3 0)]) (h'' := [(0, .cells [.lsl 2 4 0 (l.map rowN).length]), (2, .arr 4 (l.map rowN)), (3, ansX 4)]) (WkR.of [1, 3] (by (repeat' first | exact trivial | refine And.intro ?_ ?_ | rfl); first | done | fail) (by (repeat' first | exact trivial | refine And.intro ?_ ?_ | rfl); first | done | fail) rfl) rfl rfl ⟨?_, rfl⟩
      rfl
    | false =>
      repeat' first | refine wr (by omega) ?_ | refine stp lay_ok rfl ?_ | refine fin ?_ | refine n_thn ?_ | refine n_blk ?_ | refine .seq ?_ | refine reg ?_ | refine .skip ?_ | refine cndF rfl ?_ | refine dws lay_ok rfl rfl rfl rfl rfl rfl rfl ?_ | refine dw_end ?_ | refine dwb rfl rfl rfl rfl rfl (by (first | refine st_index (rowE ⟨p, z, eks⟩) lay_ok rfl rfl rfl rfl (by omega) hatj ?_ | refine st_pure (hcl) b157 rfl rfl rfl rfl ?_); exact fin rfl) rfl rfl ?_ | fail
      all_goals first
        | (exfalso; omega)
        | skip
      refine n_rr (j + 1) ?_ (.of [] (by (repeat' first | exact trivial | refine And.intro ?_ ?_ | rfl | exact congrArg (fun z : Int => some (AV.st (.int .i64 z))) (show (j : Int) + 1 = ((j + 1 : Nat) : Int) by omega)); first | done | fail) (by (repeat' first | exact trivial | refine And.intro ?_ ?_ | rfl | exact congrArg (fun z : Int => some (AV.st (.int .i64 z))) (show (j : Int) + 1 = ((j + 1 : Nat) : Int) by omega)); first | done | fail) rfl) ?_
      · show es.length - (j + 1) < es.length - j; omega
      · exact ⟨hjl, htk1⟩
  have hje : j = es.length := by omega
  subst hje
  rw [List.take_length] at j2
  by_cases h32 : 32 ≤ es.length
  · have hAx := hA3 rfl j2 h32
    subst hAx
    repeat' first | refine ln ?_ | refine stp lay_ok rfl ?_ | refine fin ?_ | refine n_thn ?_ | refine e_thn ?_ | refine e_hit ?_ | refine r_thn ?_ | refine e_rr ?_ | refine .seq ?_ | refine reg ?_ | refine .block ?_ | refine .skip ?_ | refine .ret ?_ | refine .exit ?_ | refine c_dec rfl (fun hc => ?_) (fun hc => ?_) | (refine o_none rfl ?_; refine st_pure (hno _) b85 rfl rfl rfl rfl ?_) | fail
    all_goals first
      | (exfalso; omega)
      | skip
    rw [hself]
    refine f_end (n0 := 4) (t'' := [(6, .ptr 3 0)]) (h'' := [(0, .cells [.lsl 2 4 0 (l.map rowN).length]), (2, .arr 4 (l.map rowN)), (3, ansX 5)]) (WkR.of [1, 3] (by (repeat' first | exact trivial | refine And.intro ?_ ?_ | rfl); first | done | fail) (by (repeat' first | exact trivial | refine And.intro ?_ ?_ | rfl); first | done | fail) rfl) rfl rfl ⟨?_, rfl⟩
    rfl
  by_cases h1k : 1024 < tot ks
  · have hAx := hA4 rfl j2 h32 h1k
    subst hAx
    rw [← hjt] at h1k
    repeat' first | refine ln ?_ | refine stp lay_ok rfl ?_ | refine fin ?_ | refine n_thn ?_ | refine e_thn ?_ | refine e_hit ?_ | refine r_thn ?_ | refine e_rr ?_ | refine .seq ?_ | refine reg ?_ | refine .block ?_ | refine .skip ?_ | refine .ret ?_ | refine .exit ?_ | refine c_dec rfl (fun hc => ?_) (fun hc => ?_) | (refine o_none rfl ?_; (first | refine st_pure (hj) b158 rfl rfl rfl rfl ?_ | refine st_pure (hno _) b85 rfl rfl rfl rfl ?_)) | fail
    all_goals first
      | (exfalso; omega)
      | skip
    rw [hself]
    refine f_end (n0 := 4) (t'' := [(6, .ptr 3 0)]) (h'' := [(0, .cells [.lsl 2 4 0 (l.map rowN).length]), (2, .arr 4 (l.map rowN)), (3, ansX 7)]) (WkR.of [1, 3] (by (repeat' first | exact trivial | refine And.intro ?_ ?_ | rfl); first | done | fail) (by (repeat' first | exact trivial | refine And.intro ?_ ?_ | rfl); first | done | fail) rfl) rfl rfl ⟨?_, rfl⟩
    rfl
  have hAx := hA5 rfl j2 h32 h1k hs hdp
  subst hAx
  rw [← hjt] at h1k ⊢
  repeat' first | refine ln ?_ | refine stp lay_ok rfl ?_ | refine fin ?_ | refine n_thn ?_ | refine e_thn ?_ | refine e_hit ?_ | refine e_rr ?_ | refine .seq ?_ | refine reg ?_ | refine .block ?_ | refine .skip ?_ | refine .exit ?_ | refine c_dec rfl (fun hc => ?_) (fun hc => ?_) | (refine o_none rfl ?_; refine st_pure (hj) b158 rfl rfl rfl rfl ?_) | fail
  all_goals first
    | (exfalso; omega)
    | skip
  refine dreg [(0, [], [57, 58, 59, 60, 61, 11]), (1, [0], [57, 58, 59, 60, 61, 11]), (2, [], [55, 56, 58, 59, 60, 61, 11]), (3, [], [55, 56, 57, 59, 60, 11]), (4, [], [55, 56, 57, 58, 11]), (5, [4], [55, 56, 57, 58, 11]), (6, [3, 4, 5], [55, 56, 57, 11]), (7, [0, 1, 2, 3, 4, 5, 6], [11]), (8, [], [55, 56, 57, 58, 59, 60, 61, 62]), (9, [0, 1, 2, 3, 4, 5, 6, 7, 8], [])] mixed (by kernel_rfl) ?_
  repeat' first | refine stp lay_ok rfl ?_ | refine fin ?_ | refine n_thn ?_ | refine .seq ?_ | refine reg ?_ | refine .block ?_ | refine dws lay_ok rfl rfl rfl rfl rfl rfl rfl ?_ | refine dwu lay_ok rfl rfl rfl rfl rfl rfl rfl rfl rfl ?_ | refine dw_end ?_ | refine dwn lay_ok rfl rfl rfl rfl rfl ?_ | refine dwg rfl rfl rfl rfl rfl (by (first | refine st_append lay_ok rfl rfl rfl rfl rfl rfl rfl rfl .sl0 .sl rfl rowS_one (by simp only [List.length_nil, List.length_map]; omega) (by simp only [List.length_nil, List.length_map]; omega) ?_); exact fin rfl) rfl rfl rfl rfl rfl ?_ | fail
  all_goals first
    | (exfalso; omega)
    | skip
  refine CodeOk.wk (Wk.frz 5 [ 14, 13, 12, 11, 0, 1, 5, 6, 7] rfl rfl rfl (by (repeat' first | exact trivial | refine And.intro ?_ ?_ | rfl); first | done | fail) (by (repeat' first | exact trivial | refine And.intro ?_ ?_ | rfl); first | done | fail) rfl rfl) (Nat.le_refl _) ?_; refine nrm rfl rfl ?_
  refine CodeOk.wk (Wk.nilT 3 12 rfl rfl) (Nat.le_succ _) ?_
  refine nrm rfl rfl ?_
  refine lpR (fun (j, put, out) => j ≤ es.length ∧ putS ⟨pt, J.size, ks⟩ es j put out) (fun (j, put, out) => es.length - j) (fun (j, put, out) => [(14, I j), (13, B put), (12, .lsl 8 3 0 (out.map rowE).length)]) (fun (j, put, out) => [(8, .arr 3 (out.map rowE))]) ((0, false, [])) [0, 1, 5, 6, 7, 11] [] [7] rfl rfl rfl (.of [7] (by (repeat' first | exact trivial | refine And.intro ?_ ?_ | rfl); first | done | fail) (by (repeat' first | exact trivial | refine And.intro ?_ ?_ | rfl); first | done | fail) rfl) ?_ ?_
  · exact ⟨Nat.zero_le _, putS_0 _ _⟩
  rintro ⟨j, put, out⟩ ⟨m1, m2⟩
  refine nrm rfl rfl ?_
  clear hA1 hA2 hA3 hA4 hA5 hs hdp hp
  have hmo : (List.map rowE out).length = out.length := List.length_map _
  have hol := putS_len m2
  have hone1 : ∀ row ∈ [rowE ⟨pt, J.size, ks⟩], ∀ y ∈ row, SV.one y = true := rowE_one (b := [⟨pt, J.size, ks⟩])
  by_cases hjl : j < es.length
  · have hatj := at_rowE hjl
    have hone2 : ∀ row ∈ [rowE es[j]], ∀ y ∈ row, SV.one y = true := rowE_one (b := [es[j]])
    cases put with
    | true =>
      have hstep := putS_go m2 hjl
      generalize es[j] = e at *
      obtain ⟨p, z, eks⟩ := e
      have hr : List.map rowE out ++ [rowE ⟨p, z, eks⟩] = List.map rowE (out ++ [⟨p, z, eks⟩]) := by rw [List.map_append]; rfl
      repeat' first | refine ln ?_ | refine stp lay_ok rfl ?_ | refine fin ?_ | refine n_thn ?_ | refine e_thn ?_ | refine e_hit ?_ | refine e_rr ?_ | refine .seq ?_ | refine reg ?_ | refine .block ?_ | refine .skip ?_ | refine .exit ?_ | refine cndF rfl ?_ | refine c_dec rfl (fun hc => ?_) (fun hc => ?_) | fail
      all_goals first
        | (exfalso; omega)
        | skip
      refine dreg [(0, [], []), (1, [0], []), (2, [0, 1], []), (3, [0, 1, 2], [75, 76, 77, 78, 79, 80]), (4, [0, 1, 2, 3], [75, 76, 77, 78, 79, 80]), (5, [0, 1, 2], [73, 74, 77]), (6, [0, 1, 2, 5], [73, 74, 77]), (7, [0, 1, 2], [73, 74, 75, 76]), (8, [0, 1, 2, 5, 6, 7], [73, 74]), (9, [0, 1, 2, 5, 6, 7, 8], [73, 74]), (10, [0, 1, 2, 5, 6, 7, 8, 9], [73, 74]), (11, [0, 1, 2, 3, 4, 5, 6, 7, 8, 9, 10], []), (12, [0, 1, 2, 3, 4, 5, 6, 7, 8, 9, 10, 11], [])] mixed (by kernel_rfl) ?_
      repeat' first | refine wr (by omega) ?_ | refine stp lay_ok rfl ?_ | refine fin ?_ | refine n_thn ?_ | refine n_blk ?_ | refine reg ?_ | refine .skip ?_ | refine cndF rfl ?_ | (refine o_none rfl ?_; (first | refine st_index (rowE ⟨p, z, eks⟩) lay_ok rfl rfl rfl rfl (by omega) hatj ?_ | refine st_append lay_ok rfl rfl rfl rfl rfl rfl rfl rfl (.lsl rfl rfl) (.sl (rows := [rowE ⟨p, z, eks⟩])) rfl hone2 (by simp only [List.length_cons, List.length_nil]; omega) (by simp only [List.length_cons, List.length_nil]; omega) ?_)) | refine dws lay_ok rfl rfl rfl rfl rfl rfl rfl ?_ | refine dw_end ?_ | refine dw_skip rfl rfl rfl ?_ | fail
      all_goals first
        | (exfalso; omega)
        | skip
      rw [hr]
      refine n_rr ((j + 1, true, out ++ [⟨p, z, eks⟩])) ?_ (.of [9] (by (repeat' first | exact trivial | refine And.intro ?_ ?_ | rfl | exact congrArg (fun z : Int => some (AV.st (.int .i64 z))) (show (j : Int) + 1 = ((j + 1 : Nat) : Int) by omega)); first | done | fail) (by (repeat' first | exact trivial | refine And.intro ?_ ?_ | rfl | exact congrArg (fun z : Int => some (AV.st (.int .i64 z))) (show (j : Int) + 1 = ((j + 1 : Nat) : Int) by omega)); first | done | fail) rfl) ?_
      · show es.length - (j + 1) < es.length - j; omega
      · exact ⟨hjl, hstep⟩
    | false =>
      have hstep1 := putS_in m2 hjl
      have hstep2 := putS_on m2 hjl
      generalize es[j] = e at *
      obtain ⟨p, z, eks⟩ := e
      simp only at hstep1 hstep2
      have hr : List.map rowE out ++ [rowE ⟨p, z, eks⟩] = List.map rowE (out ++ [⟨p, z, eks⟩]) := by rw [List.map_append]; rfl
      have hr2 : (List.map rowE out ++ [rowE ⟨pt, J.size, ks⟩]) ++ [rowE ⟨p, z, eks⟩] = List.map rowE ((out ++ [⟨pt, J.size, ks⟩]) ++ [⟨p, z, eks⟩]) := by rw [List.map_append, List.map_append]; rfl
      repeat' first | refine ln ?_ | refine stp lay_ok rfl ?_ | refine fin ?_ | refine n_thn ?_ | refine e_thn ?_ | refine e_hit ?_ | refine e_rr ?_ | refine .seq ?_ | refine reg ?_ | refine .block ?_ | refine .skip ?_ | refine .exit ?_ | refine cndT rfl ?_ | refine c_dec rfl (fun hc => ?_) (fun hc => ?_) | fail
      all_goals first
        | (exfalso; omega)
        | skip
      refine dreg [(0, [], []), (1, [0], []), (2, [0, 1], []), (3, [0, 1, 2], [75, 76, 77, 78, 79, 80]), (4, [0, 1, 2, 3], [75, 76, 77, 78, 79, 80]), (5, [0, 1, 2], [73, 74, 77]), (6, [0, 1, 2, 5], [73, 74, 77]), (7, [0, 1, 2], [73, 74, 75, 76]), (8, [0, 1, 2, 5, 6, 7], [73, 74]), (9, [0, 1, 2, 5, 6, 7, 8], [73, 74]), (10, [0, 1, 2, 5, 6, 7, 8, 9], [73, 74]), (11, [0, 1, 2, 3, 4, 5, 6, 7, 8, 9, 10], []), (12, [0, 1, 2, 3, 4, 5, 6, 7, 8, 9, 10, 11], [])] mixed (by kernel_rfl) ?_
      repeat' first | refine stp lay_ok rfl ?_ | refine n_thn ?_ | refine .seq ?_ | refine reg ?_ | refine .skip ?_ | refine cnd rfl (fun hc => ?_) (fun hc => ?_) | (refine o_none rfl ?_; refine st_index (rowE ⟨p, z, eks⟩) lay_ok rfl rfl rfl rfl (by omega) hatj ?_) | refine dws lay_ok rfl rfl rfl rfl rfl rfl rfl ?_ | refine dw_end ?_ | refine dwb rfl rfl rfl rfl rfl (by (first | refine st_index (rowE ⟨p, z, eks⟩) lay_ok rfl rfl rfl rfl (by omega) hatj ?_); exact fin rfl) rfl rfl ?_ | fail
      all_goals first
        | (exfalso; omega)
        | skip
      · have hlt : strLt pt p = true := by assumption
        repeat' first | refine stp lay_ok rfl ?_ | refine fin ?_ | refine n_thn ?_ | refine reg ?_ | (refine o_none rfl ?_; (first | refine st_append lay_ok rfl rfl rfl rfl rfl rfl rfl rfl (.lsl rfl rfl) (.sl (rows := [rowE ⟨pt, J.size, ks⟩])) rfl hone1 (by simp only [List.length_cons, List.length_nil]; omega) (by simp only [List.length_cons, List.length_nil]; omega) ?_ | refine st_index (rowE ⟨p, z, eks⟩) lay_ok rfl rfl rfl rfl (by omega) hatj ?_)) | fail
        repeat' first | refine wr (by omega) ?_ | refine stp lay_ok rfl ?_ | refine fin ?_ | refine n_thn ?_ | refine n_blk ?_ | refine reg ?_ | (refine o_none rfl ?_; refine st_append lay_ok rfl rfl rfl rfl rfl rfl rfl rfl (.lsl rfl rfl) (.sl (rows := [rowE ⟨p, z, eks⟩])) rfl hone2 (by simp only [List.length_append, List.length_cons, List.length_nil]; omega) (by simp only [List.length_append, List.length_cons, List.length_nil]; omega) ?_) | fail
        rw [hr2]
        refine n_rr ((j + 1, true, (out ++ [⟨pt, J.size, ks⟩]) ++ [⟨p, z, eks⟩])) ?_ (.of [10] (by (repeat' first | exact trivial | refine And.intro ?_ ?_ | rfl | exact congrArg (fun z : Int => some (AV.st (.int .i64 z))) (show (j : Int) + 1 = ((j + 1 : Nat) : Int) by omega)); first | done | fail) (by (repeat' first | exact trivial | refine And.intro ?_ ?_ | rfl | exact congrArg (fun z : Int => some (AV.st (.int .i64 z))) (show (j : Int) + 1 = ((j + 1 : Nat) : Int) by omega)); first | done | fail) rfl) ?_
        · show es.length - (j + 1) < es.length - j; omega
        · exact ⟨hjl, hstep1 hlt⟩
      · have hlt : strLt pt p = false := by assumption
        repeat' first | refine wr (by omega) ?_ | refine stp lay_ok rfl ?_ | refine fin ?_ | refine n_thn ?_ | refine n_blk ?_ | refine reg ?_ | (refine o_none rfl ?_; refine st_append lay_ok rfl rfl rfl rfl rfl rfl rfl rfl (.lsl rfl rfl) (.sl (rows := [rowE ⟨p, z, eks⟩])) rfl hone2 (by simp only [List.length_cons, List.length_nil]; omega) (by simp only [List.length_cons, List.length_nil]; omega) ?_) | fail
        rw [hr]
        refine n_rr ((j + 1, false, out ++ [⟨p, z, eks⟩])) ?_ (.of [9] (by (repeat' first | exact trivial | refine And.intro ?_ ?_ | rfl | exact congrArg (fun z : Int => some (AV.st (.int .i64 z))) (show (j : Int) + 1 = ((j + 1 : Nat) : Int) by omega)); first | done | fail) (by (repeat' first | exact trivial | refine And.intro ?_ ?_ | rfl | exact congrArg (fun z : Int => some (AV.st (.int .i64 z))) (show (j : Int) + 1 = ((j + 1 : Nat) : Int) by omega)); first | done | fail) rfl) ?_
        · show es.length - (j + 1) < es.length - j; omega
        · exact ⟨hjl, hstep2 hlt⟩
  have hje : j = es.length := by omega
  subst hje
  cases put with
  | true =>
    have hout := putS_end1 m2
    subst hout
    repeat' first | refine ln ?_ | refine stp lay_ok rfl ?_ | refine fin ?_ | refine n_thn ?_ | refine e_thn ?_ | refine e_hit ?_ | refine e_rr ?_ | refine .seq ?_ | refine reg ?_ | refine .block ?_ | refine .skip ?_ | refine .exit ?_ | refine cndF rfl ?_ | refine c_dec rfl (fun hc => ?_) (fun hc => ?_) | fail
    all_goals first
      | (exfalso; omega)
      | skip
    refine OpsL.wk (Wk.frz 8 [ 106, 105, 104, 6] rfl rfl rfl (by (repeat' first | exact trivial | refine And.intro ?_ ?_ | rfl); first | done | fail) (by (repeat' first | exact trivial | refine And.intro ?_ ?_ | rfl); first | done | fail) rfl rfl) (Nat.le_refl _) ?_; refine nrmO rfl rfl ?_
    repeat' first | refine stp lay_ok rfl ?_ | refine fin ?_ | refine n_thn ?_ | refine .seq ?_ | refine reg ?_ | refine .ret ?_ | ((first | refine o_none rfl ?_ | refine o_none_ ?_); refine st_indexL lay_ok rfl rfl rfl rfl (by omega) (by omega) ?_) | refine o_none_ (st_storeE lay_ok rfl rfl rfl hat rfl rfl rfl rfl ?_) | fail
    all_goals first
      | (exfalso; omega)
      | skip
    rw [← hset]
    refine f_end (n0 := 4) (t'' := [(6, .ptr 3 0)]) (h'' := [(0, .cells [.lsl 2 4 0 (l.map rowN).length]), (2, .arr 4 ((List.map rowN l).set (0 + ((i : Nat) : Int).toNat) (rowN ⟨c', n', false, insR ⟨pt, J.size, ks⟩ es⟩))), (3, ansX 0)]) (WkR.of [1, 3] (by (repeat' first | exact trivial | refine And.intro ?_ ?_ | rfl); first | done | fail) (by (repeat' first | exact trivial | refine And.intro ?_ ?_ | rfl); first | done | fail) rfl) rfl rfl ⟨?_, rfl⟩
    rfl
  | false =>
    have hout := putS_end0 m2
    have hr : List.map rowE out ++ [rowE ⟨pt, J.size, ks⟩] = List.map rowE (out ++ [⟨pt, J.size, ks⟩]) := by rw [List.map_append]; rfl
    repeat' first | refine ln ?_ | refine stp lay_ok rfl ?_ | refine fin ?_ | refine n_thn ?_ | refine e_thn ?_ | refine e_hit ?_ | refine e_rr ?_ | refine .seq ?_ | refine reg ?_ | refine .block ?_ | refine .skip ?_ | refine .exit ?_ | refine cndT rfl ?_ | refine c_dec rfl (fun hc => ?_) (fun hc => ?_) | (refine o_none rfl ?_; refine st_append lay_ok rfl rfl rfl rfl rfl rfl rfl rfl (.lsl rfl rfl) (.sl (rows := [rowE ⟨pt, J.size, ks⟩])) rfl hone1 (by simp only [List.length_cons, List.length_nil]; omega) (by simp only [List.length_cons, List.length_nil]; omega) ?_) | fail
    all_goals first
      | (exfalso; omega)
      | skip
    rw [hr, hout]
    refine OpsL.wk (Wk.frz 9 [ 106, 105, 104, 6] rfl rfl rfl (by (repeat' first | exact trivial | refine And.intro ?_ ?_ | rfl); first | done | fail) (by (repeat' first | exact trivial | refine And.intro ?_ ?_ | rfl); first | done | fail) rfl rfl) (Nat.le_refl _) ?_; refine nrmO rfl rfl ?_
    repeat' first | refine stp lay_ok rfl ?_ | refine fin ?_ | refine n_thn ?_ | refine .seq ?_ | refine reg ?_ | refine .ret ?_ | ((first | refine o_none rfl ?_ | refine o_none_ ?_); refine st_indexL lay_ok rfl rfl rfl rfl (by omega) (by omega) ?_) | refine o_none_ (st_storeE lay_ok rfl rfl rfl hat rfl rfl rfl rfl ?_) | fail
    all_goals first
      | (exfalso; omega)
      | skip
    rw [← hset]
    refine f_end (n0 := 4) (t'' := [(6, .ptr 3 0)]) (h'' := [(0, .cells [.lsl 2 4 0 (l.map rowN).length]), (2, .arr 4 ((List.map rowN l).set (0 + ((i : Nat) : Int).toNat) (rowN ⟨c', n', false, insR ⟨pt, J.size, ks⟩ es⟩))), (3, ansX 0)]) (WkR.of [1, 3] (by (repeat' first | exact trivial | refine And.intro ?_ ?_ | rfl); first | done | fail) (by (repeat' first | exact trivial | refine And.intro ?_ ?_ | rfl); first | done | fail) rfl) rfl rfl ⟨?_, rfl⟩
    rfl
end Go.Proofs.YtohmbpcjapjkbaaGreatDoorFn
namespace Go.Proofs.YtohmbpcjapjkbaaGreatDoorFn
open Go.Proofs.YtohmbpcjapjkbaaGreatDoorAl Go.Proofs.Tryz
attribute [local irreducible] IntKind.wrap CodeOk OpsL OpG ACalls thn inBlk rndR cutR WkR Wk fnR DW ExtOk partsOf
theorem b90 : HasBody prog 90 := ⟨f90, func90, Option.some_ne_none _, by decide⟩
/-! ### the document's operation on one snapshot -/
set_option maxHeartbeats 4000000 in
theorem refOne2_ok (l L : List NV) (i : Nat) (o : OV) (c0 : Int) (hi : i < l.length) (hl : l.length ≤ 4000000) (hk : o.kind = 2) (hB : ACalls prog 127 2 [.ptr 0 0, I i, .st (.agg (rowO o))] (catH l) fun r h => r = ansC c0 ∧ h = catO L) :
    ACalls prog 90 2 [.ptr 0 0, I i, .st (.agg (rowO o))] (catH l) fun r h => r = ansC c0 ∧ h = catO L := by
  have hm : (List.map rowN l).length = l.length := List.length_map _
  have hat : (List.map rowN l)[0 + ((i : Nat) : Int).toNat]? = some (rowN l[i]) := by simp [hi]
  obtain ⟨k, nm, pt, ks, n⟩ := o
  simp only at hk
  subst hk
  generalize l[i] = s at *
  obtain ⟨c', n', d', es⟩ := s
  refine ACalls.drop1 (h1 := catO L ++ [(3, ansX c0)]) ⟨rfl, rfl, trivial⟩ ?_
  refine fnC lay_ok func90 rfl rfl rfl rfl rfl ?_
  repeat' first | refine stp lay_ok rfl ?_ | refine fin ?_ | refine n_thn ?_ | refine r_thn ?_ | refine r_blk ?_ | refine .seq ?_ | refine reg ?_ | refine .block ?_ | refine .ret ?_ | refine cndT rfl ?_ | (refine o_none rfl ?_; (first | refine st_indexL lay_ok rfl rfl rfl rfl (by omega) (by omega) ?_ | refine st_loadE [SV.int .i64 c', .str n', .bool d', .sl 3 (es.map rowE)] lay_ok rfl rfl rfl hat rfl rfl rfl ?_ | refine st_callG [0,1] 1 (hB) b127 rfl rfl rfl rfl rfl (by (repeat' first | exact trivial | refine And.intro ?_ ?_ | rfl); first | done | fail) rfl ?_)) | fail
  refine f_end (n0 := 4) (t'' := [(6, .ptr 3 0)]) (h'' := [(0, .cells [.lsl 2 4 0 (L.map rowN).length]), (2, .arr 4 (L.map rowN)), (3, ansX c0)]) (WkR.of [4, 3] (by (repeat' first | exact trivial | refine And.intro ?_ ?_ | rfl); first | done | fail) (by (repeat' first | exact trivial | refine And.intro ?_ ?_ | rfl); first | done | fail) rfl) rfl rfl ⟨?_, rfl⟩
  rfl
set_option maxHeartbeats 4000000 in
theorem refOne3no_ok (l : List NV) (i : Nat) (o : OV) (hi : i < l.length) (hl : l.length ≤ 4000000) (hk : o.kind = 3) (hd : l[i].done = true) :
    ACalls prog 90 2 [.ptr 0 0, I i, .st (.agg (rowO o))] (catH l) fun r h => r = ansC 6 ∧ h = catO l := by
  have hno := refNo_ok 6
  have hm : (List.map rowN l).length = l.length := List.length_map _
  have hat : (List.map rowN l)[0 + ((i : Nat) : Int).toNat]? = some (rowN l[i]) := by simp [hi]
  obtain ⟨k, nm, pt, ks, n⟩ := o
  simp only at hk
  subst hk
  generalize l[i] = s at *
  obtain ⟨c', n', d', es⟩ := s
  simp only at hd
  subst hd
  refine ACalls.drop1 (h1 := catO l ++ [(3, ansX 6)]) ⟨rfl, rfl, trivial⟩ ?_
  refine fnC lay_ok func90 rfl rfl rfl rfl rfl ?_
  repeat' first | refine stp lay_ok rfl ?_ | refine fin ?_ | refine n_thn ?_ | refine r_thn ?_ | refine r_blk ?_ | refine .seq ?_ | refine reg ?_ | refine .block ?_ | refine .ret ?_ | refine cndT rfl ?_ | refine cndF rfl ?_ | (refine o_none rfl ?_; (first | refine st_indexL lay_ok rfl rfl rfl rfl (by omega) (by omega) ?_ | refine st_loadE [SV.int .i64 c', .str n', .bool true, .sl 3 (es.map rowE)] lay_ok rfl rfl rfl hat rfl rfl rfl ?_ | refine st_pure (hno) b85 rfl rfl rfl rfl ?_)) | fail
  refine f_end (n0 := 4) (t'' := [(6, .ptr 3 0)]) (h'' := [(0, .cells [.lsl 2 4 0 (l.map rowN).length]), (2, .arr 4 (l.map rowN)), (3, ansX 6)]) (WkR.of [1, 3] (by (repeat' first | exact trivial | refine And.intro ?_ ?_ | rfl); first | done | fail) (by (repeat' first | exact trivial | refine And.intro ?_ ?_ | rfl); first | done | fail) rfl) rfl rfl ⟨?_, rfl⟩
  rfl
set_option maxHeartbeats 4000000 in
theorem refOne4no_ok (l : List NV) (i : Nat) (o : OV) (hi : i < l.length) (hl : l.length ≤ 4000000) (hk : o.kind = 4) (hd : l[i].done = true) :
    ACalls prog 90 2 [.ptr 0 0, I i, .st (.agg (rowO o))] (catH l) fun r h => r = ansC 6 ∧ h = catO l := by
  have hno := refNo_ok 6
  have hm : (List.map rowN l).length = l.length := List.length_map _
  have hat : (List.map rowN l)[0 + ((i : Nat) : Int).toNat]? = some (rowN l[i]) := by simp [hi]
  obtain ⟨k, nm, pt, ks, n⟩ := o
  simp only at hk
  subst hk
  generalize l[i] = s at *
  obtain ⟨c', n', d', es⟩ := s
  simp only at hd
  subst hd
  refine ACalls.drop1 (h1 := catO l ++ [(3, ansX 6)]) ⟨rfl, rfl, trivial⟩ ?_
  refine fnC lay_ok func90 rfl rfl rfl rfl rfl ?_
  repeat' first | refine stp lay_ok rfl ?_ | refine fin ?_ | refine n_thn ?_ | refine r_thn ?_ | refine r_blk ?_ | refine .seq ?_ | refine reg ?_ | refine .block ?_ | refine .ret ?_ | refine cndT rfl ?_ | refine cndF rfl ?_ | (refine o_none rfl ?_; (first | refine st_indexL lay_ok rfl rfl rfl rfl (by omega) (by omega) ?_ | refine st_loadE [SV.int .i64 c', .str n', .bool true, .sl 3 (es.map rowE)] lay_ok rfl rfl rfl hat rfl rfl rfl ?_ | refine st_pure (hno) b85 rfl rfl rfl rfl ?_)) | fail
  refine f_end (n0 := 4) (t'' := [(6, .ptr 3 0)]) (h'' := [(0, .cells [.lsl 2 4 0 (l.map rowN).length]), (2, .arr 4 (l.map rowN)), (3, ansX 6)]) (WkR.of [1, 3] (by (repeat' first | exact trivial | refine And.intro ?_ ?_ | rfl); first | done | fail) (by (repeat' first | exact trivial | refine And.intro ?_ ?_ | rfl); first | done | fail) rfl) rfl rfl ⟨?_, rfl⟩
  rfl
set_option maxHeartbeats 4000000 in
theorem refOne6no_ok (l : List NV) (i : Nat) (o : OV) (hi : i < l.length) (hl : l.length ≤ 4000000) (hk : o.kind = 6) (hd : l[i].done = false) :
    ACalls prog 90 2 [.ptr 0 0, I i, .st (.agg (rowO o))] (catH l) fun r h => r = ansC 6 ∧ h = catO l := by
  have hno := refNo_ok 6
  have hm : (List.map rowN l).length = l.length := List.length_map _
  have hat : (List.map rowN l)[0 + ((i : Nat) : Int).toNat]? = some (rowN l[i]) := by simp [hi]
  obtain ⟨k, nm, pt, ks, n⟩ := o
  simp only at hk
  subst hk
  generalize l[i] = s at *
  obtain ⟨c', n', d', es⟩ := s
  simp only at hd
  subst hd
  refine ACalls.drop1 (h1 := catO l ++ [(3, ansX 6)]) ⟨rfl, rfl, trivial⟩ ?_
  refine fnC lay_ok func90 rfl rfl rfl rfl rfl ?_
  repeat' first | refine stp lay_ok rfl ?_ | refine fin ?_ | refine n_thn ?_ | refine n_blk ?_ | refine r_thn ?_ | refine .seq ?_ | refine reg ?_ | refine .block ?_ | refine .skip ?_ | refine .ret ?_ | refine cndT rfl ?_ | refine cndF rfl ?_ | (refine o_none rfl ?_; (first | refine st_indexL lay_ok rfl rfl rfl rfl (by omega) (by omega) ?_ | refine st_loadE [SV.int .i64 c', .str n', .bool false, .sl 3 (es.map rowE)] lay_ok rfl rfl rfl hat rfl rfl rfl ?_ | refine st_pure (hno) b85 rfl rfl rfl rfl ?_)) | fail
  refine f_end (n0 := 4) (t'' := [(6, .ptr 3 0)]) (h'' := [(0, .cells [.lsl 2 4 0 (l.map rowN).length]), (2, .arr 4 (l.map rowN)), (3, ansX 6)]) (WkR.of [1, 3] (by (repeat' first | exact trivial | refine And.intro ?_ ?_ | rfl); first | done | fail) (by (repeat' first | exact trivial | refine And.intro ?_ ?_ | rfl); first | done | fail) rfl) rfl rfl ⟨?_, rfl⟩
  rfl
set_option maxHeartbeats 4000000 in
theorem refOne7no_ok (l : List NV) (i : Nat) (o : OV) (hi : i < l.length) (hl : l.length ≤ 4000000) (hk : o.kind = 7) (hd : l[i].done = false) :
    ACalls prog 90 2 [.ptr 0 0, I i, .st (.agg (rowO o))] (catH l) fun r h => r = ansC 6 ∧ h = catO l := by
  have hno := refNo_ok 6
  have hm : (List.map rowN l).length = l.length := List.length_map _
  have hat : (List.map rowN l)[0 + ((i : Nat) : Int).toNat]? = some (rowN l[i]) := by simp [hi]
  obtain ⟨k, nm, pt, ks, n⟩ := o
  simp only at hk
  subst hk
  generalize l[i] = s at *
  obtain ⟨c', n', d', es⟩ := s
  simp only at hd
  subst hd
  refine ACalls.drop1 (h1 := catO l ++ [(3, ansX 6)]) ⟨rfl, rfl, trivial⟩ ?_
  refine fnC lay_ok func90 rfl rfl rfl rfl rfl ?_
  repeat' first | refine stp lay_ok rfl ?_ | refine fin ?_ | refine n_thn ?_ | refine n_blk ?_ | refine r_thn ?_ | refine .seq ?_ | refine reg ?_ | refine .block ?_ | refine .skip ?_ | refine .ret ?_ | refine cndT rfl ?_ | refine cndF rfl ?_ | (refine o_none rfl ?_; (first | refine st_indexL lay_ok rfl rfl rfl rfl (by omega) (by omega) ?_ | refine st_loadE [SV.int .i64 c', .str n', .bool false, .sl 3 (es.map rowE)] lay_ok rfl rfl rfl hat rfl rfl rfl ?_ | refine st_pure (hno) b85 rfl rfl rfl rfl ?_)) | fail
  refine f_end (n0 := 4) (t'' := [(6, .ptr 3 0)]) (h'' := [(0, .cells [.lsl 2 4 0 (l.map rowN).length]), (2, .arr 4 (l.map rowN)), (3, ansX 6)]) (WkR.of [1, 3] (by (repeat' first | exact trivial | refine And.intro ?_ ?_ | rfl); first | done | fail) (by (repeat' first | exact trivial | refine And.intro ?_ ?_ | rfl); first | done | fail) rfl) rfl rfl ⟨?_, rfl⟩
  rfl
set_option maxHeartbeats 4000000 in
theorem refOne3_ok (l : List NV) (i : Nat) (o : OV) (hi : i < l.length) (hl : l.length ≤ 4000000) (hk : o.kind = 3) (hd : l[i].done = false) :
    ACalls prog 90 2 [.ptr 0 0, I i, .st (.agg (rowO o))] (catH l) fun r h => r = ansC 0 ∧ h = catO (l.set i ⟨l[i].client, l[i].name, true, l[i].entries⟩) := by
  have hm : (List.map rowN l).length = l.length := List.length_map _
  have hat : (List.map rowN l)[0 + ((i : Nat) : Int).toNat]? = some (rowN l[i]) := by simp [hi]
  have hset := set_rowN (l := l) (i := i) (s := l[i]) ⟨l[i].client, l[i].name, true, l[i].entries⟩
  obtain ⟨k, nm, pt, ks, n⟩ := o
  simp only at hk
  subst hk
  generalize l[i] = s at *
  obtain ⟨c', n', d', es⟩ := s
  simp only at hd hset ⊢
  subst hd
  have hlS : (List.map rowN (l.set i ⟨c', n', true, es⟩)).length = (List.map rowN l).length := by simp
  refine ACalls.drop1 (h1 := catO (l.set i ⟨c', n', true, es⟩) ++ [(3, ansX 0)]) ⟨rfl, rfl, trivial⟩ ?_
  have hcat : catO (l.set i ⟨c', n', true, es⟩) = [(0, .cells [.lsl 2 4 0 (l.map rowN).length]), (2, .arr 4 ((List.map rowN l).set (0 + ((i : Nat) : Int).toNat) (rowN ⟨c', n', true, es⟩)))] := by
    show [(0, AO.cells [.lsl 2 4 0 _]), (2, AO.arr 4 _)] = _
    rw [hlS, hset]
  rw [hcat]
  refine fnC lay_ok func90 rfl rfl rfl rfl rfl ?_
  repeat' first | refine stp lay_ok rfl ?_ | refine fin ?_ | refine n_thn ?_ | refine r_thn ?_ | refine r_blk ?_ | refine .seq ?_ | refine reg ?_ | refine .block ?_ | refine .skip ?_ | refine .ret ?_ | refine cndT rfl ?_ | refine cndF rfl ?_ | ((first | refine o_none rfl ?_ | refine o_none_ ?_); (first | refine st_indexL lay_ok rfl rfl rfl rfl (by omega) (by omega) ?_ | refine st_loadE [SV.int .i64 c', .str n', .bool false, .sl 3 (es.map rowE)] lay_ok rfl rfl rfl hat rfl rfl rfl ?_)) | refine o_none_ (st_storeE lay_ok rfl rfl rfl hat rfl rfl rfl rfl ?_) | fail
  refine f_end (n0 := 4) (t'' := [(6, .ptr 3 0)]) (h'' := [(0, .cells [.lsl 2 4 0 (l.map rowN).length]), (2, .arr 4 ((List.map rowN l).set (0 + ((i : Nat) : Int).toNat) (rowN ⟨c', n', true, es⟩))), (3, ansX 0)]) (WkR.of [1, 3] (by (repeat' first | exact trivial | refine And.intro ?_ ?_ | rfl); first | done | fail) (by (repeat' first | exact trivial | refine And.intro ?_ ?_ | rfl); first | done | fail) rfl) rfl rfl ⟨?_, rfl⟩
  rfl
set_option maxHeartbeats 4000000 in
theorem refOne4_ok (l : List NV) (i : Nat) (o : OV) (hi : i < l.length) (hl : l.length ≤ 4000000) (hk : o.kind = 4) (hd : l[i].done = false) :
    ACalls prog 90 2 [.ptr 0 0, I i, .st (.agg (rowO o))] (catH l) fun r h => r = ansC 0 ∧ h = catO (l.eraseIdx i) := by
  have hm : (List.map rowN l).length = l.length := List.length_map _
  have hat : (List.map rowN l)[0 + ((i : Nat) : Int).toNat]? = some (rowN l[i]) := by simp [hi]
  have hw := refWithout_ok l i hl
  obtain ⟨k, nm, pt, ks, n⟩ := o
  simp only at hk
  subst hk
  generalize l[i] = s at *
  obtain ⟨c', n', d', es⟩ := s
  simp only at hd
  subst hd
  generalize l.eraseIdx i = L at *
  refine ACalls.drop1 (h1 := catO L ++ [(3, ansX 0)]) ⟨rfl, rfl, trivial⟩ ?_
  refine fnC lay_ok func90 rfl rfl rfl rfl rfl ?_
  repeat' first | refine stp lay_ok rfl ?_ | refine fin ?_ | refine n_thn ?_ | refine r_thn ?_ | refine r_blk ?_ | refine .seq ?_ | refine reg ?_ | refine .block ?_ | refine .skip ?_ | refine .ret ?_ | refine cndT rfl ?_ | refine cndF rfl ?_ | (refine o_none rfl ?_; (first | refine st_indexL lay_ok rfl rfl rfl rfl (by omega) (by omega) ?_ | refine st_loadE [SV.int .i64 c', .str n', .bool false, .sl 3 (es.map rowE)] lay_ok rfl rfl rfl hat rfl rfl rfl ?_ | refine st_callG [0,1] 1 (hw) b125 rfl rfl rfl rfl rfl (by (repeat' first | exact trivial | refine And.intro ?_ ?_ | rfl); first | done | fail) rfl ?_)) | fail
  refine f_end (n0 := 4) (t'' := [(6, .ptr 3 0)]) (h'' := [(0, .cells [.lsl 2 4 0 (L.map rowN).length]), (2, .arr 4 (L.map rowN)), (3, ansX 0)]) (WkR.of [4, 3] (by (repeat' first | exact trivial | refine And.intro ?_ ?_ | rfl); first | done | fail) (by (repeat' first | exact trivial | refine And.intro ?_ ?_ | rfl); first | done | fail) rfl) rfl rfl ⟨?_, rfl⟩
  rfl
set_option maxHeartbeats 4000000 in
theorem refOne7_ok (l : List NV) (i : Nat) (o : OV) (hi : i < l.length) (hl : l.length ≤ 4000000) (hk : o.kind = 7) (hd : l[i].done = true) (hlen : l[i].entries.length ≤ 4000000) (hks : ∀ e ∈ l[i].entries, e.keys.length ≤ 4000000000) :
    ACalls prog 90 2 [.ptr 0 0, I i, .st (.agg (rowO o))] (catH l) fun r h => r = ansP l[i].entries ∧ h = catO l := by
  have hm : (List.map rowN l).length = l.length := List.length_map _
  have hat : (List.map rowN l)[0 + ((i : Nat) : Int).toNat]? = some (rowN l[i]) := by simp [hi]
  have hcp := refCopy4_ok l[i].entries hlen hks
  obtain ⟨k, nm, pt, ks, n⟩ := o
  simp only at hk
  subst hk
  generalize l[i] = s at *
  obtain ⟨c', n', d', es⟩ := s
  simp only at hd hcp ⊢
  subst hd
  refine ACalls.drop1 (h1 := catO l ++ [(3, .cells [.st (.int .i64 0), .st (.int .i64 0), .st .nilsl, .st .nilsl, .st (.sl 3 (es.map rowE))])]) ⟨rfl, rfl, trivial⟩ ?_
  refine fnC lay_ok func90 rfl rfl rfl rfl rfl ?_
  repeat' first | refine stp lay_ok rfl ?_ | refine fin ?_ | refine n_thn ?_ | refine n_blk ?_ | refine r_thn ?_ | refine .seq ?_ | refine reg ?_ | refine .block ?_ | refine .skip ?_ | refine .ret ?_ | refine cndT rfl ?_ | refine cndF rfl ?_ | (refine o_none rfl ?_; (first | refine st_indexL lay_ok rfl rfl rfl rfl (by omega) (by omega) ?_ | refine st_loadE [SV.int .i64 c', .str n', .bool true, .sl 3 (es.map rowE)] lay_ok rfl rfl rfl hat rfl rfl rfl ?_ | refine st_pure (hcp) b128 rfl rfl rfl rfl ?_)) | fail
  refine f_end (n0 := 4) (t'' := [(6, .ptr 3 0)]) (h'' := [(0, .cells [.lsl 2 4 0 (l.map rowN).length]), (2, .arr 4 (l.map rowN)), (3, .cells [.st (.int .i64 0), .st (.int .i64 0), .st .nilsl, .st .nilsl, .st (.sl 3 (es.map rowE))])]) (WkR.of [1, 3] (by (repeat' first | exact trivial | refine And.intro ?_ ?_ | rfl); first | done | fail) (by (repeat' first | exact trivial | refine And.intro ?_ ?_ | rfl); first | done | fail) rfl) rfl rfl ⟨?_, rfl⟩
  rfl
end Go.Proofs.YtohmbpcjapjkbaaGreatDoorFn
namespace Go.Proofs.YtohmbpcjapjkbaaGreatDoorFn
open Go.Proofs.YtohmbpcjapjkbaaGreatDoorAl Go.Proofs.Tryz
attribute [local irreducible] IntKind.wrap CodeOk OpsL OpG ACalls thn inBlk rndR cutR WkR Wk fnR DW ExtOk partsOf
/-! ### the document looks an entry up -/
set_option maxHeartbeats 8000000 in
theorem refOne6_ok (l : List NV) (i : Nat) (o : OV) (hi : i < l.length) (hl : l.length ≤ 4000000) (hk : o.kind = 6) (hd : l[i].done = true) (hlen : l[i].entries.length ≤ 4000000) (hks : ∀ e ∈ l[i].entries, e.keys.length ≤ 4000000000) :
    ACalls prog 90 2 [.ptr 0 0, I i, .st (.agg (rowO o))] (catH l) fun r h => r = lookN l[i].entries o.path ∧ h = catO l := by
  have hno := refNo_ok 3
  have hm : (List.map rowN l).length = l.length := List.length_map _
  have hat : (List.map rowN l)[0 + ((i : Nat) : Int).toNat]? = some (rowN l[i]) := by simp [hi]
  obtain ⟨k, nm, pt, ks, n⟩ := o
  simp only at hk
  subst hk
  generalize l[i] = s at *
  obtain ⟨c', n', d', es⟩ := s
  simp only at hd hlen hks ⊢
  subst hd
  have hme : (List.map rowE es).length = es.length := List.length_map _
  have hA : lookN es pt = match es.find? fun e => decide (e.path = pt) with
    | some e => ansK e.size e.keys
    | none => ansC 3 := rfl
  generalize lookN es pt = R at *
  cases hF : es.find? fun e => decide (e.path = pt) with
  | none =>
    rw [hF] at hA
    simp only at hA
    subst hA
    have hall : ∀ j (h : j < es.length), es[j].path ≠ pt := fun j h => by
      have := List.find?_eq_none.1 hF es[j] (List.getElem_mem h)
      simpa using this
    refine ACalls.drop1 (h1 := catO l ++ [(3, ansX 3)]) ⟨rfl, rfl, trivial⟩ ?_
    refine fnC lay_ok func90 rfl rfl rfl rfl rfl ?_
    repeat' first | refine stp lay_ok rfl ?_ | refine fin ?_ | refine n_thn ?_ | refine n_blk ?_ | refine .seq ?_ | refine reg ?_ | refine .block ?_ | refine .skip ?_ | refine cndF rfl ?_ | (refine o_none rfl ?_; (first | refine st_indexL lay_ok rfl rfl rfl rfl (by omega) (by omega) ?_ | refine st_loadE [SV.int .i64 c', .str n', .bool true, .sl 3 (es.map rowE)] lay_ok rfl rfl rfl hat rfl rfl rfl ?_)) | fail
    refine lpR (fun j => j ≤ es.length) (fun j => es.length - j) (fun j => [(8, I j)]) (fun j => []) (0) [0, 1, 5, 6] [] [] rfl rfl rfl (.of [] (by (repeat' first | exact trivial | refine And.intro ?_ ?_ | rfl); first | done | fail) (by (repeat' first | exact trivial | refine And.intro ?_ ?_ | rfl); first | done | fail) rfl) ?_ ?_
    · exact Nat.zero_le _
    rintro j j1
    refine nrm rfl rfl ?_
    by_cases hjl : j < es.length
    · have hatj := at_rowE hjl
      have hne := hall j hjl
      generalize es[j] = e at *
      obtain ⟨p, z, eks⟩ := e
      simp only at hne
      repeat' first | refine wr (by omega) ?_ | refine ln ?_ | refine stp lay_ok rfl ?_ | refine fin ?_ | refine n_thn ?_ | refine n_blk ?_ | refine e_thn ?_ | refine e_hit ?_ | refine e_rr ?_ | refine .seq ?_ | refine reg ?_ | refine .block ?_ | refine .skip ?_ | refine .exit ?_ | refine c_dec rfl (fun hc => ?_) (fun hc => ?_) | (refine o_none rfl ?_; (first | refine st_indexL lay_ok rfl rfl rfl rfl (by omega) (by omega) ?_ | refine st_loadE [SV.int .i64 c', .str n', .bool true, .sl 3 (es.map rowE)] lay_ok rfl rfl rfl hat rfl rfl rfl ?_ | refine st_index (rowE ⟨p, z, eks⟩) lay_ok rfl rfl rfl rfl (by omega) hatj ?_)) | fail
      all_goals first
        | (exfalso; omega)
        | (exfalso; exact hne (by assumption))
        | skip
      refine n_rr (j + 1) ?_ (.of [] (by (repeat' first | exact trivial | refine And.intro ?_ ?_ | rfl | exact congrArg (fun z : Int => some (AV.st (.int .i64 z))) (show (j : Int) + 1 = ((j + 1 : Nat) : Int) by omega)); first | done | fail) (by (repeat' first | exact trivial | refine And.intro ?_ ?_ | rfl | exact congrArg (fun z : Int => some (AV.st (.int .i64 z))) (show (j : Int) + 1 = ((j + 1 : Nat) : Int) by omega)); first | done | fail) rfl) ?_
      · show es.length - (j + 1) < es.length - j; omega
      · exact hjl
    have hje : j = es.length := by omega
    subst hje
    repeat' first | refine ln ?_ | refine stp lay_ok rfl ?_ | refine fin ?_ | refine n_thn ?_ | refine e_thn ?_ | refine e_hit ?_ | refine e_rr ?_ | refine .seq ?_ | refine reg ?_ | refine .block ?_ | refine .skip ?_ | refine .ret ?_ | refine .exit ?_ | refine c_dec rfl (fun hc => ?_) (fun hc => ?_) | (refine o_none rfl ?_; (first | refine st_indexL lay_ok rfl rfl rfl rfl (by omega) (by omega) ?_ | refine st_loadE [SV.int .i64 c', .str n', .bool true, .sl 3 (es.map rowE)] lay_ok rfl rfl rfl hat rfl rfl rfl ?_ | refine st_pure (hno) b85 rfl rfl rfl rfl ?_)) | fail
    all_goals first
      | (exfalso; omega)
      | skip
    refine f_end (n0 := 4) (t'' := [(6, .ptr 3 0)]) (h'' := [(0, .cells [.lsl 2 4 0 (l.map rowN).length]), (2, .arr 4 (l.map rowN)), (3, ansX 3)]) (WkR.of [1, 3] (by (repeat' first | exact trivial | refine And.intro ?_ ?_ | rfl); first | done | fail) (by (repeat' first | exact trivial | refine And.intro ?_ ?_ | rfl); first | done | fail) rfl) rfl rfl ⟨?_, rfl⟩
    rfl
  | some f =>
    rw [hF] at hA
    obtain ⟨fp, fz, fks⟩ := f
    simp only at hA
    subst hA
    have hfmem := List.mem_of_find?_eq_some hF
    have hfp := List.find?_some hF
    simp only [decide_eq_true_eq] at hfp
    have hkf := hks _ hfmem
    simp only at hkf
    refine ACalls.drop1 (h1 := catO l ++ [(3, .cells [.st (.int .i64 0), .st (.int .i64 fz), .st .nilsl, .st (.sl 1 (fks.map rowS)), .st .nilsl])]) ⟨rfl, rfl, trivial⟩ ?_
    refine fnC lay_ok func90 rfl rfl rfl rfl rfl ?_
    repeat' first | refine stp lay_ok rfl ?_ | refine fin ?_ | refine n_thn ?_ | refine n_blk ?_ | refine .seq ?_ | refine reg ?_ | refine .block ?_ | refine .skip ?_ | refine cndF rfl ?_ | (refine o_none rfl ?_; (first | refine st_indexL lay_ok rfl rfl rfl rfl (by omega) (by omega) ?_ | refine st_loadE [SV.int .i64 c', .str n', .bool true, .sl 3 (es.map rowE)] lay_ok rfl rfl rfl hat rfl rfl rfl ?_)) | fail
    refine lpR (fun j => j ≤ es.length ∧ (es.drop j).find? (fun e => decide (e.path = pt)) = some ⟨fp, fz, fks⟩) (fun j => es.length - j) (fun j => [(8, I j)]) (fun j => []) (0) [0, 1, 5, 6] [] [] rfl rfl rfl (.of [] (by (repeat' first | exact trivial | refine And.intro ?_ ?_ | rfl); first | done | fail) (by (repeat' first | exact trivial | refine And.intro ?_ ?_ | rfl); first | done | fail) rfl) ?_ ?_
    · exact ⟨Nat.zero_le _, hF⟩
    rintro j ⟨j1, j2⟩
    refine nrm rfl rfl ?_
    by_cases hjl : j < es.length
    · have hatj := at_rowE hjl
      rw [List.drop_eq_getElem_cons hjl, List.find?_cons] at j2
      have hmk : (List.map rowS fks).length = fks.length := List.length_map _
      generalize es[j] = e at *
      obtain ⟨p, z, eks⟩ := e
      by_cases hpe : p = pt
      · simp only [hpe, decide_true] at j2
        simp only [Option.some.injEq, EV.mk.injEq] at j2
        obtain ⟨e1, e2, e3⟩ := j2
        subst e2 e3
        repeat' first | refine wr (by omega) ?_ | refine ln ?_ | refine stp lay_ok rfl ?_ | refine fin ?_ | refine n_thn ?_ | refine n_blk ?_ | refine e_thn ?_ | refine e_hit ?_ | refine e_rr ?_ | refine .seq ?_ | refine reg ?_ | refine .block ?_ | refine .skip ?_ | refine .exit ?_ | refine c_dec rfl (fun hc => ?_) (fun hc => ?_) | (refine o_none rfl ?_; (first | refine st_indexL lay_ok rfl rfl rfl rfl (by omega) (by omega) ?_ | refine st_loadE [SV.int .i64 c', .str n', .bool true, .sl 3 (es.map rowE)] lay_ok rfl rfl rfl hat rfl rfl rfl ?_ | refine st_index (rowE ⟨p, z, eks⟩) lay_ok rfl rfl rfl rfl (by omega) hatj ?_)) | fail
        all_goals first
          | (exfalso; omega)
          | (exfalso; exact absurd hpe (by assumption))
          | skip
        refine dreg [(0, [], [93, 94, 95, 96]), (1, [0], [93, 94, 95, 96]), (2, [], [91, 92, 94, 95]), (3, [], [91, 92, 93]), (4, [3], [91, 92, 93]), (5, [2, 3, 4], [91, 92]), (6, [0, 1, 2, 3, 4, 5], []), (7, [0, 1, 2, 3, 4, 5, 6], [])] mixed (by kernel_rfl) ?_
        repeat' first | refine n_thn ?_ | refine r_thn ?_ | refine r_blk ?_ | refine r_rr ?_ | refine .ret ?_ | refine dws lay_ok rfl rfl rfl rfl rfl rfl rfl ?_ | refine dwu lay_ok rfl rfl rfl rfl rfl rfl rfl rfl rfl ?_ | refine dw_end ?_ | refine dwg rfl rfl rfl rfl rfl (by (first | refine st_append lay_ok rfl rfl rfl rfl rfl rfl rfl rfl .sl0 .sl rfl rowS_one (by simp only [List.length_nil, List.length_map]; omega) (by simp only [List.length_nil, List.length_map]; omega) ?_); exact fin rfl) rfl rfl rfl rfl rfl ?_ | fail
        all_goals first
          | (exfalso; omega)
          | skip
        refine f_end (n0 := 4) (t'' := [(6, .ptr 3 0)]) (h'' := [(0, .cells [.lsl 2 4 0 (l.map rowN).length]), (2, .arr 4 (l.map rowN)), (3, .cells [.st (.int .i64 0), .st (.int .i64 z), .st .nilsl, .st (.sl 1 (eks.map rowS)), .st .nilsl])]) (Wk.then (Wk.frz 5 [6] rfl rfl rfl (by (repeat' first | exact trivial | refine And.intro ?_ ?_ | rfl); first | done | fail) (by (repeat' first | exact trivial | refine And.intro ?_ ?_ | rfl); first | done | fail) rfl rfl) (WkR.of [1, 3] (by (repeat' first | exact trivial | refine And.intro ?_ ?_ | rfl); first | done | fail) (by (repeat' first | exact trivial | refine And.intro ?_ ?_ | rfl); first | done | fail) rfl)) rfl rfl ⟨?_, rfl⟩
        rfl
      · simp only [hpe, decide_false] at j2
        repeat' first | refine wr (by omega) ?_ | refine ln ?_ | refine stp lay_ok rfl ?_ | refine fin ?_ | refine n_thn ?_ | refine n_blk ?_ | refine e_thn ?_ | refine e_hit ?_ | refine e_rr ?_ | refine .seq ?_ | refine reg ?_ | refine .block ?_ | refine .skip ?_ | refine .exit ?_ | refine c_dec rfl (fun hc => ?_) (fun hc => ?_) | (refine o_none rfl ?_; (first | refine st_indexL lay_ok rfl rfl rfl rfl (by omega) (by omega) ?_ | refine st_loadE [SV.int .i64 c', .str n', .bool true, .sl 3 (es.map rowE)] lay_ok rfl rfl rfl hat rfl rfl rfl ?_ | refine st_index (rowE ⟨p, z, eks⟩) lay_ok rfl rfl rfl rfl (by omega) hatj ?_)) | fail
        all_goals first
          | (exfalso; omega)
          | (exfalso; exact absurd (by assumption) hpe)
          | skip
        refine n_rr (j + 1) ?_ (.of [] (by (repeat' first | exact trivial | refine And.intro ?_ ?_ | rfl | exact congrArg (fun z : Int => some (AV.st (.int .i64 z))) (show (j : Int) + 1 = ((j + 1 : Nat) : Int) by omega)); first | done | fail) (by (repeat' first | exact trivial | refine And.intro ?_ ?_ | rfl | exact congrArg (fun z : Int => some (AV.st (.int .i64 z))) (show (j : Int) + 1 = ((j + 1 : Nat) : Int) by omega)); first | done | fail) rfl) ?_
        · show es.length - (j + 1) < es.length - j; omega
        · exact ⟨hjl, j2⟩
    exfalso
    have hje : j = es.length := by omega
    subst hje
    rw [List.drop_length] at j2
    cases j2
end Go.Proofs.YtohmbpcjapjkbaaGreatDoorFn
namespace Go.Proofs.YtohmbpcjapjkbaaGreatDoorFn
open Go.Proofs.YtohmbpcjapjkbaaGreatDoorAl Go.Proofs.Tryz
attribute [local irreducible] IntKind.wrap CodeOk OpsL OpG ACalls thn inBlk rndR cutR WkR Wk fnR DW ExtOk partsOf
theorem b15 : HasBody prog 15 := ⟨f15, func15, Option.some_ne_none _, by decide⟩
theorem b46 : HasBody prog 46 := ⟨f46, func46, Option.some_ne_none _, by decide⟩
theorem b16 : HasBody prog 16 := ⟨f16, func16, Option.some_ne_none _, by decide⟩
theorem b24 : HasBody prog 24 := ⟨f24, func24, Option.some_ne_none _, by decide⟩
theorem b26 : HasBody prog 26 := ⟨f26, func26, Option.some_ne_none _, by decide⟩
theorem b17 : HasBody prog 17 := ⟨f17, func17, Option.some_ne_none _, by decide⟩
theorem b23 : HasBody prog 23 := ⟨f23, func23, Option.some_ne_none _, by decide⟩
/-! ### an executor -/
/-- A client's last request: its time, and what it came to. -/
structure LA where
  time : Int
  ans : NS
def la0 : LA := ⟨0, noA 0⟩
def upd (z : Nat → LA) (c : Nat) (v : LA) : Nat → LA := fun i => if i = c then v else z i
abbrev exC (z : Nat → LA) (bs : AV) : AO := .cells [.ptr 1 0, .st (.int .i64 (z 0).time), .st (.int .i64 (z 0).ans.code), .st (.int .i64 (z 0).ans.n), .st (.sl 1 ((z 0).ans.names.map rowS)), .st (.sl 1 ((z 0).ans.keys.map rowS)), .st (.sl 3 ((z 0).ans.entries.map rowE)), .st (.int .i64 (z 1).time), .st (.int .i64 (z 1).ans.code), .st (.int .i64 (z 1).ans.n), .st (.sl 1 ((z 1).ans.names.map rowS)), .st (.sl 1 ((z 1).ans.keys.map rowS)), .st (.sl 3 ((z 1).ans.entries.map rowE)), .st (.int .i64 (z 2).time), .st (.int .i64 (z 2).ans.code), .st (.int .i64 (z 2).ans.n), .st (.sl 1 ((z 2).ans.names.map rowS)), .st (.sl 1 ((z 2).ans.keys.map rowS)), .st (.sl 3 ((z 2).ans.entries.map rowE)), .st (.int .i64 (z 3).time), .st (.int .i64 (z 3).ans.code), .st (.int .i64 (z 3).ans.n), .st (.sl 1 ((z 3).ans.names.map rowS)), .st (.sl 1 ((z 3).ans.keys.map rowS)), .st (.sl 3 ((z 3).ans.entries.map rowE)), .st (.int .i64 (z 4).time), .st (.int .i64 (z 4).ans.code), .st (.int .i64 (z 4).ans.n), .st (.sl 1 ((z 4).ans.names.map rowS)), .st (.sl 1 ((z 4).ans.keys.map rowS)), .st (.sl 3 ((z 4).ans.entries.map rowE)), .st (.int .i64 (z 5).time), .st (.int .i64 (z 5).ans.code), .st (.int .i64 (z 5).ans.n), .st (.sl 1 ((z 5).ans.names.map rowS)), .st (.sl 1 ((z 5).ans.keys.map rowS)), .st (.sl 3 ((z 5).ans.entries.map rowE)), .st (.int .i64 (z 6).time), .st (.int .i64 (z 6).ans.code), .st (.int .i64 (z 6).ans.n), .st (.sl 1 ((z 6).ans.names.map rowS)), .st (.sl 1 ((z 6).ans.keys.map rowS)), .st (.sl 3 ((z 6).ans.entries.map rowE)), .st (.int .i64 (z 7).time), .st (.int .i64 (z 7).ans.code), .st (.int .i64 (z 7).ans.n), .st (.sl 1 ((z 7).ans.names.map rowS)), .st (.sl 1 ((z 7).ans.keys.map rowS)), .st (.sl 3 ((z 7).ans.entries.map rowE)), bs]
/-- An executor: the catalog's snapshots (array i), the last requests, the bodies (array j). -/
abbrev exX (i j : Nat) (l : List NV) (b : Bool) (z : Nat → LA) (bs : List ByteArray) : Heap :=
  [(0, exC z (.lsl j 1 0 (bs.map rowS).length)), (1, .cells [.lsl i 4 (gN b) (l.map rowN).length]), (i, .arr 4 (l.map rowN ++ gR b)), (j, .arr 1 (bs.map rowS))]
set_option maxHeartbeats 4000000 in
theorem execNew_ok : ACalls prog 15 0 [] [] fun r h => r = .ptr 0 0 ∧ h = exX 2 3 [] false (fun _ => la0) [] := by
  have hN := newC_ok
  refine fnC lay_ok func15 rfl rfl rfl rfl rfl ?_
  repeat' first | refine stp lay_ok rfl ?_ | refine fin ?_ | refine n_thn ?_ | refine .seq ?_ | refine reg ?_ | refine .ret ?_ | (refine o_none rfl ?_; refine st_callF 2 (hN) b30 rfl rfl rfl rfl rfl rfl (by (repeat' first | exact trivial | refine And.intro ?_ ?_ | rfl); first | done | fail) rfl ?_) | fail
  refine f_end (n0 := 4) (t'' := [(0, .ptr 0 0)]) (h'' := exX 2 3 [] false (fun _ => la0) []) (Wk.then (Wk.nilC 1 2 49 rfl rfl rfl rfl rfl) (Wk.then (Wk.cellsLe (cs' := [.ptr 0 0, .st (.int .i64 0), .st (.int .i64 0), .st (.int .i64 0), .st (.sl 1 []), .st (.sl 1 []), .st (.sl 3 []), .st (.int .i64 0), .st (.int .i64 0), .st (.int .i64 0), .st (.sl 1 []), .st (.sl 1 []), .st (.sl 3 []), .st (.int .i64 0), .st (.int .i64 0), .st (.int .i64 0), .st (.sl 1 []), .st (.sl 1 []), .st (.sl 3 []), .st (.int .i64 0), .st (.int .i64 0), .st (.int .i64 0), .st (.sl 1 []), .st (.sl 1 []), .st (.sl 3 []), .st (.int .i64 0), .st (.int .i64 0), .st (.int .i64 0), .st (.sl 1 []), .st (.sl 1 []), .st (.sl 3 []), .st (.int .i64 0), .st (.int .i64 0), .st (.int .i64 0), .st (.sl 1 []), .st (.sl 1 []), .st (.sl 3 []), .st (.int .i64 0), .st (.int .i64 0), .st (.int .i64 0), .st (.sl 1 []), .st (.sl 1 []), .st (.sl 3 []), .st (.int .i64 0), .st (.int .i64 0), .st (.int .i64 0), .st (.sl 1 []), .st (.sl 1 []), .st (.sl 3 []), .lsl 3 1 0 0]) 2 rfl (by repeat' first | exact AVLeL.nil | refine AVLeL.cons ?_ ?_ | exact AVLe.refl _ | exact AVLe.st (SLe.nil _)) rfl) (WkR.of [2, 0, 1, 3] (by (repeat' first | exact trivial | refine And.intro ?_ ?_ | rfl); first | done | fail) (by (repeat' first | exact trivial | refine And.intro ?_ ?_ | rfl); first | done | fail) rfl))) rfl rfl ⟨?_, rfl⟩
  rfl
theorem copied_ok (a : NS) (ha : a.fit) : ACalls prog 46 0 [ansS a] [] fun r h => r = ansS a ∧ h = [] := by
  obtain ⟨a1, a2, a3, a4⟩ := ha
  obtain ⟨c, n, ns, ks, es⟩ := a
  simp only at a1 a2 a3 a4
  have h1 := cloneS_ok ns a1
  have h2 := cloneS_ok ks a2
  have h3 := cloneE_ok es a3
  have hm : (List.map rowE es).length = es.length := List.length_map _
  refine ACalls.drop1 (h1 := [(0, ansB ⟨c, n, ns, ks, es⟩)]) trivial ?_
  refine fnC lay_ok func46 rfl rfl rfl rfl rfl ?_
  repeat' first | refine stp lay_ok rfl ?_ | refine fin ?_ | refine n_thn ?_ | refine .seq ?_ | refine reg ?_ | fail
  refine dreg [(0, [], [7, 8, 10, 11]), (1, [0], [7, 8, 10, 11]), (2, [0, 1], [7, 8, 10, 11]), (3, [], [4, 5, 6, 10, 11]), (4, [3], [4, 5, 6, 10, 11]), (5, [0, 1, 2, 3, 4], [10, 11, 13]), (6, [], [4, 5, 6, 7, 8, 9]), (7, [6], [4, 5, 6, 7, 8, 9]), (8, [0, 1, 2, 3, 4, 5, 6, 7], [13]), (9, [0, 1, 2, 3, 4, 6, 7], [9, 12]), (10, [0, 1, 2, 3, 4, 5, 6, 7, 8, 9], []), (11, [0, 1, 2, 3, 4, 5, 6, 7, 8, 9, 10], []), (12, [0, 1, 2, 3, 4, 5, 6, 7, 8, 9, 10, 11], []), (13, [0, 1, 2, 3, 4, 5, 6, 7, 8, 9, 10, 11, 12], []), (14, [0, 1, 2, 3, 4, 5, 6, 7, 8, 9, 10, 11, 12, 13], [])] mixed (by kernel_rfl) ?_
  repeat' first | refine ln ?_ | refine stp lay_ok rfl ?_ | refine fin ?_ | refine n_thn ?_ | refine .seq ?_ | refine reg ?_ | refine .block ?_ | refine dws lay_ok rfl rfl rfl rfl rfl rfl rfl ?_ | refine dwu lay_ok rfl rfl rfl rfl rfl rfl rfl rfl rfl ?_ | refine dw_end ?_ | refine dwb rfl rfl rfl rfl rfl (by (first | refine st_pure (h1) b51 rfl rfl rfl rfl ?_ | refine st_pure (h2) b51 rfl rfl rfl rfl ?_ | refine st_callF 1 (h3) b81 rfl rfl rfl rfl rfl rfl (by (repeat' first | exact trivial | refine And.intro ?_ ?_ | rfl); first | done | fail) rfl ?_); exact fin rfl) rfl rfl ?_ | refine dwg rfl rfl rfl rfl rfl (by (first | refine st_pure (h1) b51 rfl rfl rfl rfl ?_ | refine st_pure (h2) b51 rfl rfl rfl rfl ?_ | refine st_callF 1 (h3) b81 rfl rfl rfl rfl rfl rfl (by (repeat' first | exact trivial | refine And.intro ?_ ?_ | rfl); first | done | fail) rfl ?_); exact fin rfl) rfl rfl rfl rfl rfl ?_ | fail
  refine lpR (fun k => k ≤ es.length) (fun k => es.length - k) (fun k => [(19, I k)]) (fun k => [(0, .cells [.st (.int .i64 c), .st (.int .i64 n), .st (.sl 1 (ns.map rowS)), .st (.sl 1 (ks.map rowS)), .lsl 2 3 0 (es.map rowE).length]), (1, .cells [.st (.int .i64 0), .st (.int .i64 0), .st .nilsl, .st .nilsl, .st .nilsl]), (2, .arr 3 (es.map rowE))]) (0) [1, 2, 18] [0, 1, 2] [] rfl rfl rfl (.of [] (by (repeat' first | exact trivial | refine And.intro ?_ ?_ | rfl); first | done | fail) (by (repeat' first | exact trivial | refine And.intro ?_ ?_ | rfl); first | done | fail) rfl) ?_ ?_
  · exact Nat.zero_le _
  rintro k hk0
  refine nrm rfl rfl ?_
  by_cases hk' : k < es.length
  · have hcl := cloneS_ok es[k].keys (a4 _ (List.getElem_mem hk'))
    have hat : (es.map rowE)[0 + ((k : Nat) : Int).toNat]? = some (rowE es[k]) := by simp [hk']
    have hset : (es.map rowE).set (0 + ((k : Nat) : Int).toNat) (putAt (rowE es[k]) 2 [.sl 1 (es[k].keys.map rowS)]) = es.map rowE := set_same hat
    generalize es[k] = e at *
    obtain ⟨p, zz, ks'⟩ := e
    simp only [rowE, putAt] at hcl hset hat
    repeat' first | refine stp lay_ok rfl ?_ | refine fin ?_ | refine n_thn ?_ | refine e_thn ?_ | refine e_hit ?_ | refine e_rr ?_ | refine .seq ?_ | refine reg ?_ | refine .block ?_ | refine .skip ?_ | refine .ret ?_ | refine .exit ?_ | refine c_dec rfl (fun hc => ?_) (fun hc => ?_) | fail
    all_goals first
      | (exfalso; omega)
      | skip
    refine dreg [(0, [], [24, 25, 26, 27, 28, 29, 30, 31]), (1, [0], [24, 25, 26, 27, 28, 29, 30, 31]), (2, [], [22, 23, 25, 26, 27, 28, 29, 30, 31]), (3, [], [22, 23, 24, 27]), (4, [3], [22, 23, 24, 27]), (5, [], [22, 23, 24, 25, 26]), (6, [3, 4, 5], [22, 23, 24]), (7, [3, 4, 5, 6], [22, 23, 24]), (8, [3, 4, 5, 6, 7], [22, 23, 24]), (9, [3, 4, 5, 6, 7, 8], [22, 23, 24]), (10, [0, 1, 2, 3, 4, 5, 6, 7, 8, 9], []), (11, [0, 1, 2, 3, 4, 5, 6, 7, 8, 9, 10], []), (12, [0, 1, 2, 3, 4, 5, 6, 7, 8, 9, 10, 11], [])] mixed (by kernel_rfl) ?_
    repeat' first | refine wr (by omega) ?_ | refine stp lay_ok rfl ?_ | refine fin ?_ | refine n_thn ?_ | refine n_blk ?_ | refine reg ?_ | refine dws lay_ok rfl rfl rfl rfl rfl rfl rfl ?_ | refine dw_end ?_ | refine dwb rfl rfl rfl rfl rfl (by (first | refine st_indexL lay_ok rfl rfl rfl rfl (by omega) (by omega) ?_ | refine st_loadE [SV.str p, SV.int .i64 zz, SV.sl 1 (ks'.map rowS)] lay_ok rfl rfl rfl hat rfl rfl rfl ?_ | refine st_pure (hcl) b51 rfl rfl rfl rfl ?_); exact fin rfl) rfl rfl ?_ | refine dwv rfl rfl rfl rfl (by refine st_storeE lay_ok rfl rfl rfl hat rfl rfl rfl rfl ?_; exact fin rfl) rfl rfl rfl rfl ?_ | fail
    refine n_rr (k + 1) ?_ (.of [] (by (repeat' first | exact trivial | refine And.intro ?_ ?_ | rfl | first | exact congrArg (fun r => some (AO.arr 3 r)) hset | exact congrArg (fun z : Int => some (AV.st (.int .i64 z))) (show (k : Int) + 1 = ((k + 1 : Nat) : Int) by omega)); first | done | fail) (by (repeat' first | exact trivial | refine And.intro ?_ ?_ | rfl | first | exact congrArg (fun r => some (AO.arr 3 r)) hset | exact congrArg (fun z : Int => some (AV.st (.int .i64 z))) (show (k : Int) + 1 = ((k + 1 : Nat) : Int) by omega)); first | done | fail) rfl) ?_
    · omega
    · exact hk'
  · refine CodeOk.wk (Wk.frz 2 [ 1, 2, 18, 19] rfl rfl rfl (by (repeat' first | exact trivial | refine And.intro ?_ ?_ | rfl); first | done | fail) (by (repeat' first | exact trivial | refine And.intro ?_ ?_ | rfl); first | done | fail) rfl rfl) (Nat.le_refl _) ?_; refine nrm rfl rfl ?_
    repeat' first | refine stp lay_ok rfl ?_ | refine fin ?_ | refine n_thn ?_ | refine e_thn ?_ | refine e_hit ?_ | refine e_rr ?_ | refine .seq ?_ | refine reg ?_ | refine .block ?_ | refine .skip ?_ | refine .ret ?_ | refine .exit ?_ | refine c_dec rfl (fun hc => ?_) (fun hc => ?_) | fail
    all_goals first
      | (exfalso; omega)
      | skip
    refine f_end (n0 := 1) (t'' := [(2, .ptr 0 0)]) (h'' := [(0, ansB ⟨c, n, ns, ks, es⟩)]) (WkR.of [1] (by (repeat' first | exact trivial | refine And.intro ?_ ?_ | rfl); first | done | fail) (by (repeat' first | exact trivial | refine And.intro ?_ ?_ | rfl); first | done | fail) rfl) rfl rfl ⟨?_, rfl⟩
    rfl
/-- How many bodies were done. -/
theorem execLen_ok (s : List NV) (b : Bool) (z : Nat → LA) (bs : List ByteArray) : ACalls prog 23 4 [.ptr 0 0] (exX 2 3 s b z bs) fun r h => r = I bs.length ∧ h = exX 2 3 s b z bs := by
  have hm : (List.map rowS bs).length = bs.length := List.length_map _
  refine fnC lay_ok func23 rfl rfl rfl rfl rfl ?_
  repeat' first | refine ln ?_ | refine stp lay_ok rfl ?_ | refine fin ?_ | refine n_thn ?_ | refine .seq ?_ | refine reg ?_ | refine .ret ?_ | fail
  refine f_r [(0, exC z (.lsl 3 1 0 (bs.map rowS).length)), (1, .cells [.lsl 2 4 (gN b) (s.map rowN).length]), (2, .arr 4 (s.map rowN ++ gR b)), (3, .arr 1 (bs.map rowS))] rfl (by (repeat' first | exact trivial | refine And.intro ?_ ?_ | rfl); first | done | fail) rfl ⟨?_, rfl⟩
  rfl
end Go.Proofs.YtohmbpcjapjkbaaGreatDoorFn
namespace Go.Proofs.YtohmbpcjapjkbaaGreatDoorFn
open Go.Proofs.YtohmbpcjapjkbaaGreatDoorAl Go.Proofs.Tryz
attribute [local irreducible] IntKind.wrap CodeOk OpsL OpG ACalls thn inBlk rndR cutR WkR Wk fnR DW ExtOk partsOf
/-! ### an executor does a body -/
abbrev zeroA : SV := .agg [.int .i64 0, .int .i64 0, .nilsl, .nilsl, .nilsl]
abbrev zeroB : AO := .cells [.st (.int .i64 0), .st (.int .i64 0), .st .nilsl, .st .nilsl, .st .nilsl]
theorem arr8 : prog.underlying 95 = some (.array 8 94) := underlying95
abbrev bd (s : ByteArray) : List UInt8 := s.data.toList
theorem exNone_ok (l : List NV) (b : Bool) (z : Nat → LA) (bs : List ByteArray) (body : ByteArray) (hz : body.size ≤ 4000000000) (hn : bs.length ≤ 4000000000) (hq : getQ (bd body) = none) :
    ACalls prog 16 4 [.ptr 0 0, Sx body] (exX 2 3 l b z bs) fun r h => r = .tuple [.st zeroA, B false] ∧ h = exX 5 4 l b z (bs ++ [body]) := by
  have hm : (List.map rowS bs).length = bs.length := List.length_map _
  have hg := orderGet_ok (bd body) (by rw [Array.length_toList]; exact hz)
  rw [hq] at hg
  simp only [getQX] at hg
  have hr : List.map rowS bs ++ [[SV.str body]] = List.map rowS (bs ++ [body]) := by rw [List.map_append]; rfl
  refine ACalls.drop1 (h1 := exX 5 4 l b z (bs ++ [body]) ++ [(6, zeroB)]) ⟨rfl, rfl, rfl, rfl, trivial⟩ ?_
  refine fnC lay_ok func16 rfl rfl rfl rfl rfl ?_
  repeat' first | refine stp lay_ok rfl ?_ | refine fin ?_ | refine n_thn ?_ | refine .seq ?_ | refine reg ?_ | (refine o_none rfl ?_; refine st_append lay_ok rfl rfl rfl rfl rfl rfl rfl rfl (.lsl rfl rfl) .sl rfl (rowS_one (b := [body])) (by simp only [List.length_cons, List.length_nil]; omega) (by simp only [List.length_cons, List.length_nil]; omega) ?_) | fail
  rw [hr]
  repeat' first | refine stp lay_ok rfl ?_ | refine fin ?_ | refine n_thn ?_ | refine .seq ?_ | (refine o_none rfl ?_; (first | refine st_bytesOf lay_ok rfl rfl rfl rfl rfl rfl rfl ?_ | refine st_pure (hg) b45 rfl rfl rfl rfl ?_)) | fail
  refine dreg [(0, [], []), (1, [0], []), (2, [0, 1], []), (3, [0, 1, 2], [30, 31, 32, 33, 34, 35, 36, 37]), (4, [0, 1, 2, 3], [30, 31, 32, 33, 34, 35, 36, 37]), (5, [0, 1, 2], [28, 29, 31, 32]), (6, [0, 1, 2], [28, 29, 30, 33, 34]), (7, [0, 1, 2, 6], [28, 29, 30, 33, 34]), (8, [0, 1, 2, 5], [28, 29, 31, 32]), (9, [0, 1, 2, 5, 8], [28, 29, 31, 32]), (10, [0, 1, 2, 5, 6, 7, 8, 9], [28, 29]), (11, [0, 1, 2, 5, 6, 7, 8, 9, 10], [28, 29]), (12, [0, 1, 2, 5, 6, 7, 8, 9, 10, 11], [28, 29]), (13, [0, 1, 2, 3, 4, 5, 6, 7, 8, 9, 10, 11, 12], []), (14, [0, 1, 2, 3, 4, 5, 6, 7, 8, 9, 10, 11, 12, 13], [])] mixed (by kernel_rfl) ?_
  repeat' first | refine stp lay_ok rfl ?_ | refine fin ?_ | refine n_thn ?_ | refine r_thn ?_ | refine .seq ?_ | refine reg ?_ | refine .ret ?_ | refine cndT rfl ?_ | refine dws lay_ok rfl rfl rfl rfl rfl rfl rfl ?_ | refine dw_end ?_ | refine dw_skip rfl rfl rfl ?_ | fail
  refine f_end (n0 := 7) (t'' := [(4, .ptr 6 0), (5, B false)]) (h'' := [(0, exC z (.lsl 4 1 0 ((bs ++ [body]).map rowS).length)), (1, .cells [.lsl 5 4 (gN b) (l.map rowN).length]), (5, .arr 4 (l.map rowN ++ gR b)), (4, .arr 1 ((bs ++ [body]).map rowS)), (6, zeroB)]) (WkR.of [5, 2, 4] (by (repeat' first | exact trivial | refine And.intro ?_ ?_ | rfl); first | done | fail) (by (repeat' first | exact trivial | refine And.intro ?_ ?_ | rfl); first | done | fail) rfl) rfl rfl ⟨?_, rfl⟩
  rfl
set_option maxHeartbeats 16000000 in
theorem exOld_ok (c : Nat) (hc8 : c < 8) (l : List NV) (b : Bool) (z : Nat → LA) (bs : List ByteArray) (body : ByteArray) (t : Int) (o : OV) (hz : body.size ≤ 4000000000) (hn : bs.length ≤ 4000000000) (hq : getQ (bd body) = some ⟨(c : Int), t, o⟩) (ht : t ≤ (z c).time) :
    ACalls prog 16 4 [.ptr 0 0, Sx body] (exX 2 3 l b z bs) fun r h => r = .tuple [.st zeroA, B false] ∧ h = exX 5 4 l b z (bs ++ [body]) := by
  have hm : (List.map rowS bs).length = bs.length := List.length_map _
  have hg := orderGet_ok (bd body) (by rw [Array.length_toList]; exact hz)
  rw [hq] at hg
  obtain ⟨kd, nm, p, oks, n⟩ := o
  simp only [getQX, rowR, rowQ, rowO] at hg
  have hr : List.map rowS bs ++ [[SV.str body]] = List.map rowS (bs ++ [body]) := by rw [List.map_append]; rfl
  refine ACalls.drop1 (h1 := exX 5 4 l b z (bs ++ [body]) ++ [(6, zeroB)]) ⟨rfl, rfl, rfl, rfl, trivial⟩ ?_
  refine fnC lay_ok func16 rfl rfl rfl rfl rfl ?_
  repeat' first | refine stp lay_ok rfl ?_ | refine fin ?_ | refine n_thn ?_ | refine .seq ?_ | refine reg ?_ | (refine o_none rfl ?_; refine st_append lay_ok rfl rfl rfl rfl rfl rfl rfl rfl (.lsl rfl rfl) .sl rfl (rowS_one (b := [body])) (by simp only [List.length_cons, List.length_nil]; omega) (by simp only [List.length_cons, List.length_nil]; omega) ?_) | fail
  rw [hr]
  repeat' first | refine stp lay_ok rfl ?_ | refine fin ?_ | refine n_thn ?_ | refine .seq ?_ | (refine o_none rfl ?_; (first | refine st_bytesOf lay_ok rfl rfl rfl rfl rfl rfl rfl ?_ | refine st_pure (hg) b45 rfl rfl rfl rfl ?_)) | fail
  rcases (show c = 0 ∨ c = 1 ∨ c = 2 ∨ c = 3 ∨ c = 4 ∨ c = 5 ∨ c = 6 ∨ c = 7 by omega) with rfl | rfl | rfl | rfl | rfl | rfl | rfl | rfl
  all_goals
    refine dreg [(0, [], []), (1, [0], []), (2, [0, 1], []), (3, [0, 1, 2], [30, 31, 32, 33, 34, 35, 36, 37]), (4, [0, 1, 2, 3], [30, 31, 32, 33, 34, 35, 36, 37]), (5, [0, 1, 2], [28, 29, 31, 32]), (6, [0, 1, 2], [28, 29, 30, 33, 34]), (7, [0, 1, 2, 6], [28, 29, 30, 33, 34]), (8, [0, 1, 2, 5], [28, 29, 31, 32]), (9, [0, 1, 2, 5, 8], [28, 29, 31, 32]), (10, [0, 1, 2, 5, 6, 7, 8, 9], [28, 29]), (11, [0, 1, 2, 5, 6, 7, 8, 9, 10], [28, 29]), (12, [0, 1, 2, 5, 6, 7, 8, 9, 10, 11], [28, 29]), (13, [0, 1, 2, 3, 4, 5, 6, 7, 8, 9, 10, 11, 12], []), (14, [0, 1, 2, 3, 4, 5, 6, 7, 8, 9, 10, 11, 12, 13], [])] mixed (by kernel_rfl) ?_
    repeat' first | refine stp lay_ok rfl ?_ | refine fin ?_ | refine n_thn ?_ | refine r_thn ?_ | refine .seq ?_ | refine reg ?_ | refine .skip ?_ | refine .ret ?_ | refine c_dec rfl (fun hc => ?_) (fun hc => ?_) | refine dws lay_ok rfl rfl rfl rfl rfl rfl rfl ?_ | refine dw_end ?_ | refine dwb rfl rfl rfl rfl rfl (by (first | refine st_indexP lay_ok arr8 rfl rfl rfl (by omega) (by omega) ?_); exact fin rfl) rfl rfl ?_ | fail
    all_goals first
      | (exfalso; omega)
      | skip
    refine f_end (n0 := 7) (t'' := [(4, .ptr 6 0), (5, B false)]) (h'' := [(0, exC z (.lsl 4 1 0 ((bs ++ [body]).map rowS).length)), (1, .cells [.lsl 5 4 (gN b) (l.map rowN).length]), (5, .arr 4 (l.map rowN ++ gR b)), (4, .arr 1 ((bs ++ [body]).map rowS)), (6, zeroB)]) (WkR.of [5, 2, 4] (by (repeat' first | exact trivial | refine And.intro ?_ ?_ | rfl); first | done | fail) (by (repeat' first | exact trivial | refine And.intro ?_ ?_ | rfl); first | done | fail) rfl) rfl rfl ⟨?_, rfl⟩
    rfl
set_option maxHeartbeats 32000000 in
theorem exNew_ok (c : Nat) (hc8 : c < 8) (l : List NV) (b : Bool) (z : Nat → LA) (bs : List ByteArray) (body : ByteArray) (t : Int) (o : OV) (hb : b = true → l = []) (hC : CatP l) (ho : o.fit) (hz : body.size ≤ 4000000000) (hn : bs.length ≤ 4000000000) (hq : getQ (bd body) = some ⟨(c : Int), t, o⟩) (ht : ¬ t ≤ (z c).time) :
    ACalls prog 16 4 [.ptr 0 0, Sx body] (exX 2 3 l b z bs) fun r h => r = .tuple [ansS (doP l (c : Int) o).2, B true] ∧ h = exX 5 4 (doP l (c : Int) o).1 (doB l b (c : Int) o) (upd z c ⟨t, (doP l (c : Int) o).2⟩) (bs ++ [body]) := by
  have hm : (List.map rowS bs).length = bs.length := List.length_map _
  have hg := orderGet_ok (bd body) (by rw [Array.length_toList]; exact hz)
  rw [hq] at hg
  have hdo := do_ok l b (c : Int) o hb hC ho
  have hcp := copied_ok (doP l (c : Int) o).2 (doP_fit (c : Int) o hC)
  generalize doP l (c : Int) o = R at *
  generalize doB l b (c : Int) o = b2 at *
  obtain ⟨l2, a⟩ := R
  simp only at hdo hcp
  obtain ⟨kd, nm, p, oks, n⟩ := o
  simp only [getQX, rowR, rowQ, rowO] at hg hdo
  have hr : List.map rowS bs ++ [[SV.str body]] = List.map rowS (bs ++ [body]) := by rw [List.map_append]; rfl
  refine ACalls.drop1 (h1 := exX 5 4 l2 b2 (upd z c ⟨t, a⟩) (bs ++ [body]) ++ [(6, ansB a)]) ⟨rfl, rfl, rfl, rfl, trivial⟩ ?_
  refine fnC lay_ok func16 rfl rfl rfl rfl rfl ?_
  repeat' first | refine stp lay_ok rfl ?_ | refine fin ?_ | refine n_thn ?_ | refine .seq ?_ | refine reg ?_ | (refine o_none rfl ?_; refine st_append lay_ok rfl rfl rfl rfl rfl rfl rfl rfl (.lsl rfl rfl) .sl rfl (rowS_one (b := [body])) (by simp only [List.length_cons, List.length_nil]; omega) (by simp only [List.length_cons, List.length_nil]; omega) ?_) | fail
  rw [hr]
  repeat' first | refine stp lay_ok rfl ?_ | refine fin ?_ | refine n_thn ?_ | refine .seq ?_ | (refine o_none rfl ?_; (first | refine st_bytesOf lay_ok rfl rfl rfl rfl rfl rfl rfl ?_ | refine st_pure (hg) b45 rfl rfl rfl rfl ?_)) | fail
  rcases (show c = 0 ∨ c = 1 ∨ c = 2 ∨ c = 3 ∨ c = 4 ∨ c = 5 ∨ c = 6 ∨ c = 7 by omega) with rfl | rfl | rfl | rfl | rfl | rfl | rfl | rfl
  all_goals
    refine dreg [(0, [], []), (1, [0], []), (2, [0, 1], []), (3, [0, 1, 2], [30, 31, 32, 33, 34, 35, 36, 37]), (4, [0, 1, 2, 3], [30, 31, 32, 33, 34, 35, 36, 37]), (5, [0, 1, 2], [28, 29, 31, 32]), (6, [0, 1, 2], [28, 29, 30, 33, 34]), (7, [0, 1, 2, 6], [28, 29, 30, 33, 34]), (8, [0, 1, 2, 5], [28, 29, 31, 32]), (9, [0, 1, 2, 5, 8], [28, 29, 31, 32]), (10, [0, 1, 2, 5, 6, 7, 8, 9], [28, 29]), (11, [0, 1, 2, 5, 6, 7, 8, 9, 10], [28, 29]), (12, [0, 1, 2, 5, 6, 7, 8, 9, 10, 11], [28, 29]), (13, [0, 1, 2, 3, 4, 5, 6, 7, 8, 9, 10, 11, 12], []), (14, [0, 1, 2, 3, 4, 5, 6, 7, 8, 9, 10, 11, 12, 13], [])] mixed (by kernel_rfl) ?_
    repeat' first | refine stp lay_ok rfl ?_ | refine fin ?_ | refine n_thn ?_ | refine r_thn ?_ | refine .seq ?_ | refine reg ?_ | refine .skip ?_ | refine .ret ?_ | refine c_dec rfl (fun hc => ?_) (fun hc => ?_) | refine dws lay_ok rfl rfl rfl rfl rfl rfl rfl ?_ | refine dw_end ?_ | refine dwb rfl rfl rfl rfl rfl (by (first | refine st_indexP lay_ok arr8 rfl rfl rfl (by omega) (by omega) ?_); exact fin rfl) rfl rfl ?_ | fail
    all_goals first
      | (exfalso; omega)
      | skip
    refine dreg [(0, [], [45, 46, 47, 48, 8]), (1, [0], [45, 46, 47, 48, 8]), (2, [0, 1], [45, 46, 47, 48, 8]), (3, [0, 1, 2], [45, 46, 47, 48, 8]), (4, [], [41, 42, 43, 44, 47, 48, 8]), (5, [4], [41, 42, 43, 44, 47, 48, 8]), (6, [], [41, 42, 43, 44, 45, 46, 8]), (7, [6], [41, 42, 43, 44, 45, 46, 8]), (8, [0, 1, 2, 3, 4, 5, 6, 7], [8]), (9, [], [41, 42, 43, 44, 45, 46, 47, 48, 49]), (10, [0, 1, 2, 3, 4, 5, 6, 7, 8, 9], [])] mixed (by kernel_rfl) ?_
    repeat' first | refine n_thn ?_ | refine .seq ?_ | refine dws lay_ok rfl rfl rfl rfl rfl rfl rfl ?_ | refine dwu lay_ok rfl rfl rfl rfl rfl rfl rfl rfl rfl ?_ | refine dw_end ?_ | refine dwn lay_ok rfl rfl rfl rfl rfl ?_ | refine dwG [1,2] rfl rfl rfl rfl (by refine st_callG [1,2] 1 (hdo) b27 rfl rfl rfl rfl rfl (by (repeat' first | exact trivial | refine And.intro ?_ ?_ | rfl); first | done | fail) rfl ?_; exact fin rfl) rfl rfl rfl rfl rfl ?_ | fail
    refine dreg [(0, [], [51, 52, 53, 54, 55, 56]), (1, [], [50, 53, 54, 55, 56, 57, 58]), (2, [1], [50, 53, 54, 55, 56, 57, 58]), (3, [], [50, 51, 52, 55, 57, 58]), (4, [3], [50, 51, 52, 55, 57, 58]), (5, [], [50, 51, 52, 53, 54, 57, 58]), (6, [3, 4, 5], [50, 51, 52, 57, 58]), (7, [0], [51, 52, 53, 54, 55, 56]), (8, [0, 7], [51, 52, 53, 54, 55, 56]), (9, [0, 1, 2, 3, 4, 5, 6, 7, 8], []), (10, [0, 1, 2, 3, 4, 5, 6, 7, 8, 9], [])] mixed (by kernel_rfl) ?_
    repeat' first | refine stp lay_ok rfl ?_ | refine n_thn ?_ | refine .seq ?_ | refine reg ?_ | refine dws lay_ok rfl rfl rfl rfl rfl rfl rfl ?_ | refine dwu lay_ok rfl rfl rfl rfl rfl rfl rfl rfl rfl ?_ | refine dw_end ?_ | refine dwb rfl rfl rfl rfl rfl (by (first | refine st_indexP lay_ok arr8 rfl rfl rfl (by omega) (by omega) ?_); exact fin rfl) rfl rfl ?_ | fail
    repeat' first | refine stp lay_ok rfl ?_ | refine fin ?_ | refine n_thn ?_ | refine .ret ?_ | (refine o_none rfl ?_; refine st_pure (hcp) b46 rfl rfl rfl rfl ?_) | fail
    refine f_end (n0 := 7) (t'' := [(4, .ptr 6 0), (5, B true)]) (h'' := [(0, exC (upd z _ ⟨t, a⟩) (.lsl 4 1 0 ((bs ++ [body]).map rowS).length)), (1, .cells [.lsl 5 4 (gN b2) (l2.map rowN).length]), (5, .arr 4 (l2.map rowN ++ gR b2)), (4, .arr 1 ((bs ++ [body]).map rowS)), (6, ansB a)]) (WkR.of [5, 7, 4] (by (repeat' first | exact trivial | refine And.intro ?_ ?_ | rfl); first | done | fail) (by (repeat' first | exact trivial | refine And.intro ?_ ?_ | rfl); first | done | fail) rfl) rfl rfl ⟨?_, rfl⟩
    rfl
end Go.Proofs.YtohmbpcjapjkbaaGreatDoorFn
namespace Go.Proofs.YtohmbpcjapjkbaaGreatDoorFn
open Go.Proofs.YtohmbpcjapjkbaaGreatDoorAl Go.Proofs.Tryz
end Go.Proofs.YtohmbpcjapjkbaaGreatDoorFn
namespace Go.Proofs.YtohmbpcjapjkbaaGreatDoorFn
open Go.Proofs.YtohmbpcjapjkbaaGreatDoorAl Go.Proofs.Tryz
attribute [local irreducible] IntKind.wrap CodeOk OpsL OpG ACalls thn inBlk rndR cutR WkR Wk fnR DW ExtOk partsOf
end Go.Proofs.YtohmbpcjapjkbaaGreatDoorFn
namespace Go.Proofs.YtohmbpcjapjkbaaGreatDoorFn
open Go.Proofs.YtohmbpcjapjkbaaGreatDoorAl Go.Proofs.Tryz
attribute [local irreducible] IntKind.wrap CodeOk OpsL OpG ACalls thn inBlk rndR cutR WkR Wk fnR DW ExtOk partsOf
/-! ### a part has no slash -/
theorem dec_slash (s : ByteArray) (p j : Nat) (hm : mayR (Utf8.decode s p).1 = true) (hj : j < (Utf8.decode s p).2) (hlt : p + j < s.size) : (s.get! (p + j)).toNat ≠ 47 := by
  have hd := dec_eq s p
  have hmn : mayR 65533 = false := by decide
  generalize Utf8.decode s p = D at *
  have h123 : j = 0 ∨ j = 1 ∨ j = 2 ∨ j = 3 ∨ 4 ≤ j := by omega
  split at hd
  · subst hd
    rename_i h
    simp only at hm hj
    have : j = 0 := by omega
    subst this
    rw [mayR_lo h] at hm
    simp only [plainB, Bool.or_eq_true, decide_eq_true_eq] at hm
    rw [Nat.add_zero]; omega
  rename_i h0
  have hfirst : (s.get! (p + 0)).toNat ≠ 47 := by rw [Nat.add_zero]; omega
  split at hd
  · rename_i h1
    split at hd
    · subst hd; simp only at hj
      rcases h123 with rfl | rfl | rfl | rfl | h <;> first | exact hfirst | omega
    · subst hd; simp only at hm; rw [hmn] at hm; cases hm
  split at hd
  · rename_i h1
    split at hd
    · subst hd; simp only at hj
      rcases h123 with rfl | rfl | rfl | rfl | h <;> first | exact hfirst | omega
    · subst hd; simp only at hm; rw [hmn] at hm; cases hm
  split at hd
  · rename_i h1
    split at hd
    · subst hd; simp only at hj
      rcases h123 with rfl | rfl | rfl | rfl | h <;> first | exact hfirst | omega
    · subst hd; simp only at hm; rw [hmn] at hm; cases hm
  · subst hd; simp only at hm; rw [hmn] at hm; cases hm
theorem runs_slash (s : ByteArray) : ∀ (f p n : Nat), s.size < p + f → runs s f p = some n → ∀ j, p ≤ j → j < s.size → (s.get! j).toNat ≠ 47
  | 0, p, n, hf, _, j, h1, h2 => by omega
  | f + 1, p, n, hf, h, j, h1, h2 => by
    rw [runs, if_pos (by omega)] at h
    split at h
    · rename_i hm
      cases hr : runs s f (p + (Utf8.decode s p).2) with
      | none => rw [hr] at h; cases h
      | some n' =>
        have hw := decode_pos s p
        by_cases hj : j < p + (Utf8.decode s p).2
        · have := dec_slash s p (j - p) hm (by omega) (by omega)
          rwa [show p + (j - p) = j by omega] at this
        · exact runs_slash s f _ n' (by omega) hr j (by omega) h2
    · cases h
theorem slAt_iff (s : ByteArray) : slAt s < 0 ↔ ∀ j : Nat, j < s.size → (s.get! j).toNat ≠ 47 := by
  constructor
  · intro h j hj e
    have h1 := (idx_neg h).2
    rw [List.count_eq_zero] at h1
    apply h1
    have h2 := get_some hj
    rw [← data_get] at h2
    have : s.get! j = 47 := UInt8.toNat.inj (by rw [e]; rfl)
    rw [this] at h2
    exact List.mem_of_getElem? h2
  · intro h
    rcases Int.lt_or_le (slAt s) 0 with h0 | h0
    · exact h0
    · exfalso
      obtain ⟨m, hm⟩ : ∃ m : Nat, slAt s = m := ⟨(slAt s).toNat, by omega⟩
      have h3 : 0 < s.data.toList.count 47 := by have := (idx_pos hm).2.2; omega
      have h4 := List.count_pos_iff.1 h3
      obtain ⟨j, hj⟩ := List.mem_iff_getElem?.1 h4
      rw [data_get] at hj
      have hjs : j < s.size := by
        rcases Nat.lt_or_ge j s.size with g | g
        · exact g
        · rw [getElem?_neg s j (by omega)] at hj; cases hj
      rw [get_some hjs] at hj
      exact h j hjs (by rw [Option.some.inj hj]; rfl)
theorem nameOk_part (s : ByteArray) : nameOk s = partOk s := by
  unfold nameOk
  rcases Int.lt_or_le (slAt s) 0 with h0 | h0
  · rw [decide_eq_false (by omega), Bool.not_false, Bool.and_true]
    unfold pathOk
    rw [parts_neg h0]
    simp
  · rw [decide_eq_true (by omega), Bool.not_true, Bool.and_false]
    symm
    cases hp : partOk s with
    | false => rfl
    | true =>
      exfalso
      unfold partOk at hp
      cases hr : runs s (s.size + 1) 0 with
      | none => rw [hr] at hp; cases hp
      | some n =>
        have h1 := runs_slash s (s.size + 1) 0 n (by omega) hr
        have h2 := (slAt_iff s).2 (fun j hj => h1 j (Nat.zero_le _) hj)
        omega
end Go.Proofs.YtohmbpcjapjkbaaGreatDoorFn
namespace Go.Proofs.YtohmbpcjapjkbaaGreatDoorFn
open Go.Proofs.YtohmbpcjapjkbaaGreatDoorAl Go.Proofs.Tryz
attribute [local irreducible] IntKind.wrap CodeOk OpsL OpG ACalls thn inBlk rndR cutR WkR Wk fnR DW ExtOk partsOf
theorem b113 : HasBody prog 113 := ⟨f113, func113, Option.some_ne_none _, by decide⟩
theorem b69 : HasBody prog 69 := ⟨f69, func69, Option.some_ne_none _, by decide⟩
theorem b147 : HasBody prog 147 := ⟨f147, func147, Option.some_ne_none _, by decide⟩
/-! ### the document's word on which operations may be -/
theorem refName_ok (s : ByteArray) (hs : s.size ≤ 4000000000 - 1) : ACalls prog 147 0 [Sx s] [] fun r h => r = B (nameOk s) ∧ h = [] := by
  have h1 := refPart_ok s (by omega)
  rw [← nameOk_part] at h1
  refine fnC lay_ok func147 rfl rfl rfl rfl rfl ?_
  repeat' first | refine stp lay_ok rfl ?_ | refine fin ?_ | refine n_thn ?_ | refine .seq ?_ | refine reg ?_ | refine .ret ?_ | (refine o_none rfl ?_; refine st_pure (h1) b176 rfl rfl rfl rfl ?_) | fail
  refine f_r [] rfl trivial rfl ⟨?_, rfl⟩
  rfl
theorem kindT (k : Int) (h : 1 ≤ k ∧ k ≤ 9) : (k = 1 ∧ namedK k = true ∧ pathedK k = false ∧ decide (k = 2) = false ∧ decide (k = 8) = false) ∨ (k = 2 ∧ namedK k = true ∧ pathedK k = true ∧ decide (k = 2) = true ∧ decide (k = 8) = false) ∨ (k = 3 ∧ namedK k = true ∧ pathedK k = false ∧ decide (k = 2) = false ∧ decide (k = 8) = false) ∨ (k = 4 ∧ namedK k = true ∧ pathedK k = false ∧ decide (k = 2) = false ∧ decide (k = 8) = false) ∨ (k = 5 ∧ namedK k = false ∧ pathedK k = false ∧ decide (k = 2) = false ∧ decide (k = 8) = false) ∨ (k = 6 ∧ namedK k = true ∧ pathedK k = true ∧ decide (k = 2) = false ∧ decide (k = 8) = false) ∨ (k = 7 ∧ namedK k = true ∧ pathedK k = false ∧ decide (k = 2) = false ∧ decide (k = 8) = false) ∨ (k = 8 ∧ namedK k = false ∧ pathedK k = false ∧ decide (k = 2) = false ∧ decide (k = 8) = true) ∨ (k = 9 ∧ namedK k = false ∧ pathedK k = false ∧ decide (k = 2) = false ∧ decide (k = 8) = false) := by
  rcases (show k = 1 ∨ k = 2 ∨ k = 3 ∨ k = 4 ∨ k = 5 ∨ k = 6 ∨ k = 7 ∨ k = 8 ∨ k = 9 by omega) with rfl | rfl | rfl | rfl | rfl | rfl | rfl | rfl | rfl <;> decide
set_option maxHeartbeats 4000000 in
theorem refOpK_ok (k : Int) (nm p : ByteArray) (ks : List ByteArray) (n : Int) (hk9 : 1 ≤ k ∧ k ≤ 9) (hn : nm.size ≤ 4000000000 - 1) (hp : p.size ≤ 4000000000 - 1) (hk : ks.length ≤ 4000000000) : ACalls prog 113 0 [.st (.agg (rowO ⟨k, nm, p, ks, n⟩))] [] fun r h => r = B (opOk ⟨k, nm, p, ks, n⟩) ∧ h = [] := by
  have e := opOk_of k nm p ks n true (namedK k) (pathedK k) (decide (k = 2)) (decide (k = 8)) (decide_eq_true hk9) rfl rfl rfl rfl
  have h3 := refName_ok nm hn
  have h4 := refPath_ok p hp
  have hm : (List.map rowS ks).length = ks.length := List.length_map _
  by_cases h0 : ks.length ≤ 16 ∧ 0 ≤ n ∧ n ≤ 100
  case neg =>
    have hf : opOk ⟨k, nm, p, ks, n⟩ = false := by
      rw [e, ← Bool.not_eq_true]
      simp only [Bool.and_eq_true, decide_eq_true_eq]
      exact fun h => h0 ⟨h.1.1.1.1.1.1, h.1.1.1.1.2.1, h.1.1.1.1.2.2⟩
    rw [hf]
    clear e
    refine fnC lay_ok func113 rfl rfl rfl rfl rfl ?_
    repeat' first | refine ln ?_ | refine stp lay_ok rfl ?_ | refine fin ?_ | refine n_thn ?_ | refine r_thn ?_ | refine .seq ?_ | refine reg ?_ | refine .block ?_ | refine .skip ?_ | refine .ret ?_ | refine cndT rfl ?_ | refine c_dec rfl (fun hc => ?_) (fun hc => ?_) | refine gd rfl rfl rfl (fun hg => ?_) (fun hg => ?_) | fail
    all_goals first
      | (exfalso; omega)
      | (exfalso; simp only at *; omega)
      | skip
    all_goals
      refine f_r [] rfl trivial rfl ⟨?_, rfl⟩
      rfl
  obtain ⟨g1, g2, g3⟩ := h0
  have e : opOk ⟨k, nm, p, ks, n⟩ = (ks.all keyOk && (if namedK k = true then nameOk nm else decide (nm = ⟨#[]⟩)) && (if pathedK k = true then pathOk p else decide (p = ⟨#[]⟩)) && (decide (k = 2) || decide (ks.length = 0)) && (decide (k = 8) || decide (n = 0))) := by
    rw [e, decide_eq_true g1, decide_eq_true (show 0 ≤ n ∧ n ≤ 100 from ⟨g2, g3⟩)]
    simp
  rw [e]
  clear e
  refine fnC lay_ok func113 rfl rfl rfl rfl rfl ?_
  repeat' first | refine ln ?_ | refine stp lay_ok rfl ?_ | refine fin ?_ | refine n_thn ?_ | refine r_thn ?_ | refine .seq ?_ | refine reg ?_ | refine .block ?_ | refine .skip ?_ | refine .ret ?_ | refine cndT rfl ?_ | refine c_dec rfl (fun hc => ?_) (fun hc => ?_) | refine gd rfl rfl rfl (fun hg => ?_) (fun hg => ?_) | fail
  all_goals first
    | (exfalso; omega)
    | (exfalso; simp only at *; omega)
    | skip
  refine lpR (fun j => j ≤ ks.length ∧ (ks.take j).all keyOk = true) (fun j => ks.length - j) (fun j => [(3, I j)]) (fun j => []) (0) [1] [] [] rfl rfl rfl (.of [] (by (repeat' first | exact trivial | refine And.intro ?_ ?_ | rfl); first | done | fail) (by (repeat' first | exact trivial | refine And.intro ?_ ?_ | rfl); first | done | fail) rfl) ?_ ?_
  · exact ⟨Nat.zero_le _, rfl⟩
  rintro j ⟨j1, j2⟩
  refine nrm rfl rfl ?_
  by_cases hj : j < ks.length
  · have hat := at_rowS hj
    have htk := all_take (p := keyOk) hj
    rw [j2, Bool.true_and] at htk
    have hno := fun h => all_not (p := keyOk) (l := ks) hj h
    generalize ks[j] = y at *
    repeat' first | refine wr (by omega) ?_ | refine ln ?_ | refine stp lay_ok rfl ?_ | refine fin ?_ | refine n_thn ?_ | refine n_blk ?_ | refine e_thn ?_ | refine e_hit ?_ | refine r_thn ?_ | refine r_blk ?_ | refine e_rr ?_ | refine r_rr ?_ | refine .seq ?_ | refine reg ?_ | refine .block ?_ | refine .skip ?_ | refine .ret ?_ | refine .exit ?_ | refine cndT rfl ?_ | refine c_dec rfl (fun hc => ?_) (fun hc => ?_) | ((first | refine o_none rfl ?_ | refine o_yes rfl rfl rfl ?_); refine st_index [SV.str y] lay_ok rfl rfl rfl rfl (by omega) hat ?_) | refine gd rfl rfl rfl (fun hg => ?_) (fun hg => ?_) | fail
    all_goals first
      | (exfalso; omega)
      | (exfalso; simp only at *; omega)
      | skip
    all_goals first
      | (refine f_r [] rfl trivial rfl ⟨?_, rfl⟩
         rw [hno (decide_eq_false (by omega))]; rfl)
      | (refine n_rr (j + 1) ?_ (.of [] (by (repeat' first | exact trivial | refine And.intro ?_ ?_ | rfl | exact congrArg (fun z : Int => some (AV.st (.int .i64 z))) (show (j : Int) + 1 = ((j + 1 : Nat) : Int) by omega)); first | done | fail) (by (repeat' first | exact trivial | refine And.intro ?_ ?_ | rfl | exact congrArg (fun z : Int => some (AV.st (.int .i64 z))) (show (j : Int) + 1 = ((j + 1 : Nat) : Int) by omega)); first | done | fail) rfl) ?_
         · omega
         · exact ⟨hj, by rw [htk]; exact decide_eq_true (by omega)⟩)
  · have hje : j = ks.length := by omega
    subst hje
    rw [List.take_length] at j2
    rw [j2]
    rcases kindT k hk9 with ⟨rfl, q1, q2, q3, q4⟩ | ⟨rfl, q1, q2, q3, q4⟩ | ⟨rfl, q1, q2, q3, q4⟩ | ⟨rfl, q1, q2, q3, q4⟩ | ⟨rfl, q1, q2, q3, q4⟩ | ⟨rfl, q1, q2, q3, q4⟩ | ⟨rfl, q1, q2, q3, q4⟩ | ⟨rfl, q1, q2, q3, q4⟩ | ⟨rfl, q1, q2, q3, q4⟩
    all_goals
      rw [q1, q2, q3, q4]
      clear q1 q2 q3 q4 hk9
      simp only [Bool.true_and, if_true, if_false, Bool.false_eq_true, Bool.true_or, Bool.false_or, Bool.and_true]
      generalize nameOk nm = M at *
      generalize pathOk p = Q at *
      cases M <;> cases Q
      all_goals
        repeat' first | refine ln ?_ | refine stp lay_ok rfl ?_ | refine fin ?_ | refine n_thn ?_ | refine n_blk ?_ | refine e_thn ?_ | refine e_hit ?_ | refine r_thn ?_ | refine r_blk ?_ | refine e_rr ?_ | refine .seq ?_ | refine reg ?_ | refine .block ?_ | refine .skip ?_ | refine .ret ?_ | refine .exit ?_ | refine cndT rfl ?_ | refine cndF rfl ?_ | refine c_dec rfl (fun hc => ?_) (fun hc => ?_) | (refine o_none rfl ?_; (first | refine st_pure (h3) b147 rfl rfl rfl rfl ?_ | refine st_pure (h4) b148 rfl rfl rfl rfl ?_)) | refine gd rfl rfl rfl (fun hg => ?_) (fun hg => ?_) | fail
        all_goals first
          | (exfalso; omega)
          | (exfalso; simp only at *; omega)
          | skip
        all_goals
          refine f_r [] rfl trivial rfl ⟨?_, rfl⟩
          clear h3 h4
          first
            | rfl
            | (simp_all [retOf, B]; done)
            | (simp_all [retOf, B]; omega)
end Go.Proofs.YtohmbpcjapjkbaaGreatDoorFn
namespace Go.Proofs.YtohmbpcjapjkbaaGreatDoorFn
open Go.Proofs.YtohmbpcjapjkbaaGreatDoorAl Go.Proofs.Tryz
attribute [local irreducible] IntKind.wrap CodeOk OpsL OpG ACalls thn inBlk rndR cutR WkR Wk fnR DW ExtOk partsOf
/-! ### the document's word on which requests may be -/
set_option maxHeartbeats 4000000 in
theorem refOpNo_ok (o : OV) (hk : ¬ (1 ≤ o.kind ∧ o.kind ≤ 9)) : ACalls prog 113 0 [.st (.agg (rowO o))] [] fun r h => r = B (opOk o) ∧ h = [] := by
  have e : opOk o = false := by
    unfold opOk
    rw [decide_eq_false hk]; simp
  rw [e]
  clear e
  obtain ⟨k, nm, p, ks, n⟩ := o
  simp only [rowO] at hk ⊢
  have hm : (List.map rowS ks).length = ks.length := List.length_map _
  refine fnC lay_ok func113 rfl rfl rfl rfl rfl ?_
  repeat' first | refine ln ?_ | refine stp lay_ok rfl ?_ | refine fin ?_ | refine n_thn ?_ | refine r_thn ?_ | refine .seq ?_ | refine reg ?_ | refine .block ?_ | refine .skip ?_ | refine .ret ?_ | refine cndT rfl ?_ | refine c_dec rfl (fun hc => ?_) (fun hc => ?_) | refine gd rfl rfl rfl (fun hg => ?_) (fun hg => ?_) | fail
  all_goals first
    | (exfalso; omega)
    | (refine f_r [] rfl trivial rfl ⟨?_, rfl⟩; rfl)
theorem refOp_ok (o : OV) (ho : o.fit) : ACalls prog 113 0 [.st (.agg (rowO o))] [] fun r h => r = B (opOk o) ∧ h = [] := by
  by_cases hk : 1 ≤ o.kind ∧ o.kind ≤ 9
  · obtain ⟨k, nm, p, ks, n⟩ := o
    obtain ⟨f1, f2, f3⟩ := ho
    simp only at hk f1 f2 f3
    exact refOpK_ok k nm p ks n hk f1 f2 f3
  · exact refOpNo_ok o hk
set_option maxHeartbeats 4000000 in
theorem refReq_ok (c : Int) (o : OV) (ho : o.fit) : ACalls prog 69 0 [.st (.agg (rowQ c 1 o))] [] fun r h => r = B (reqOk c o) ∧ h = [] := by
  have h1 := refOp_ok o ho
  have e : reqOk c o = (decide (0 ≤ c ∧ c < 8) && opOk o) := rfl
  rw [e]
  clear e
  generalize opOk o = K at *
  obtain ⟨k, nm, p, ks, n⟩ := o
  simp only [rowQ, rowO] at h1 ⊢
  refine fnC lay_ok func69 rfl rfl rfl rfl rfl ?_
  cases K
  all_goals
    repeat' first | refine stp lay_ok rfl ?_ | refine fin ?_ | refine n_thn ?_ | refine .seq ?_ | refine reg ?_ | refine .ret ?_ | (refine o_none rfl ?_; refine st_pure (h1) b113 rfl rfl rfl rfl ?_) | refine gd rfl rfl rfl (fun hg => ?_) (fun hg => ?_) | fail
    all_goals
      refine f_r [] rfl trivial rfl ⟨?_, rfl⟩
      first
        | (rw [decide_eq_true (show 0 ≤ c ∧ c < 8 by omega)]; rfl)
        | (rw [decide_eq_false (show ¬ (0 ≤ c ∧ c < 8) by omega)]; rfl)
        | (simp [retOf, B]; done)
        | (simp [retOf, B]; omega)
end Go.Proofs.YtohmbpcjapjkbaaGreatDoorFn
namespace Go.Proofs.YtohmbpcjapjkbaaGreatDoorFn
open Go.Proofs.YtohmbpcjapjkbaaGreatDoorAl Go.Proofs.Tryz
attribute [local irreducible] IntKind.wrap CodeOk OpsL OpG ACalls thn inBlk rndR cutR WkR Wk fnR DW ExtOk partsOf
theorem b50 : HasBody prog 50 := ⟨f50, func50, Option.some_ne_none _, by decide⟩
/-! ### the document's operation, by its kind -/
set_option maxHeartbeats 2000000 in
theorem refDo_no (l : List NV) (c : Int) (o : OV) (hr : reqOk c o = false) (ho : o.fit) : ACalls prog 50 2 [.ptr 0 0, I c, .st (.agg (rowO o))] (catH l) fun r h => r = ansC 1 ∧ h = catO l := by
  have hq := refReq_ok c o ho
  rw [hr] at hq
  have hrf := refNo_ok 1
  obtain ⟨k, nm, p, ks, n⟩ := o
  refine ACalls.drop1 (h1 := catO l ++ [(3, ansX 1)]) ⟨rfl, rfl, trivial⟩ ?_
  refine fnC lay_ok func50 rfl rfl rfl rfl rfl ?_
  repeat' first | refine stp lay_ok rfl ?_ | refine fin ?_ | refine n_thn ?_ | refine r_thn ?_ | refine .seq ?_ | refine reg ?_ | refine .ret ?_ | refine cndT rfl ?_ | (refine o_none rfl ?_; (first | refine st_pure (hq) b69 rfl rfl rfl rfl ?_ | refine st_pure (hrf) b85 rfl rfl rfl rfl ?_)) | fail
  refine f_end (n0 := 4) (t'' := [(6, .ptr 3 0)]) (h'' := [(0, .cells [.lsl 2 4 0 (l.map rowN).length]), (2, .arr 4 (l.map rowN)), (3, ansX 1)]) (WkR.of [1, 3] (by (repeat' first | exact trivial | refine And.intro ?_ ?_ | rfl); first | done | fail) (by (repeat' first | exact trivial | refine And.intro ?_ ?_ | rfl); first | done | fail) rfl) rfl rfl ⟨?_, rfl⟩
  rfl
set_option maxHeartbeats 2000000 in
theorem refDo_8 (l L : List NV) (c : Int) (o : OV) (g : Nat) (hk : o.kind = 8) (hr : reqOk c o = true) (ho : o.fit) (hB : ACalls prog 88 2 [.ptr 0 0, I c, I o.n] (catH l) fun r h => r = ansG g ∧ h = catO L) :
    ACalls prog 50 2 [.ptr 0 0, I c, .st (.agg (rowO o))] (catH l) fun r h => r = ansG g ∧ h = catO L := by
  have hq := refReq_ok c o ho
  rw [hr] at hq
  obtain ⟨k, nm, p, ks, n⟩ := o
  simp only at hk hB
  subst hk
  refine ACalls.drop1 (h1 := catO L ++ [(3, .cells [.st (.int .i64 0), .st (.int .i64 g), .st .nilsl, .st .nilsl, .st .nilsl])]) ⟨rfl, rfl, trivial⟩ ?_
  refine fnC lay_ok func50 rfl rfl rfl rfl rfl ?_
  repeat' first | refine stp lay_ok rfl ?_ | refine fin ?_ | refine n_thn ?_ | refine r_thn ?_ | refine r_blk ?_ | refine .seq ?_ | refine reg ?_ | refine .block ?_ | refine .skip ?_ | refine .ret ?_ | refine cndT rfl ?_ | refine cndF rfl ?_ | (refine o_none rfl ?_; (first | refine st_pure (hq) b69 rfl rfl rfl rfl ?_ | refine st_callG [0,1] 1 (hB) b88 rfl rfl rfl rfl rfl (by (repeat' first | exact trivial | refine And.intro ?_ ?_ | rfl); first | done | fail) rfl ?_)) | fail
  refine f_end (n0 := 4) (t'' := [(6, .ptr 3 0)]) (h'' := [(0, .cells [.lsl 2 4 0 (L.map rowN).length]), (2, .arr 4 (L.map rowN)), (3, .cells [.st (.int .i64 0), .st (.int .i64 g), .st .nilsl, .st .nilsl, .st .nilsl])]) (WkR.of [4, 3] (by (repeat' first | exact trivial | refine And.intro ?_ ?_ | rfl); first | done | fail) (by (repeat' first | exact trivial | refine And.intro ?_ ?_ | rfl); first | done | fail) rfl) rfl rfl ⟨?_, rfl⟩
  rfl
set_option maxHeartbeats 2000000 in
theorem refDo_9 (l : List NV) (c : Int) (o : OV) (H : List ByteArray) (hk : o.kind = 9) (hr : reqOk c o = true) (ho : o.fit) (hB : ACalls prog 89 2 [.ptr 0 0] (catH l) fun r h => r = .st (.sl 1 (H.map rowS)) ∧ h = catH l) :
    ACalls prog 50 2 [.ptr 0 0, I c, .st (.agg (rowO o))] (catH l) fun r h => r = ansH H ∧ h = catO l := by
  have hq := refReq_ok c o ho
  rw [hr] at hq
  obtain ⟨k, nm, p, ks, n⟩ := o
  simp only at hk hB
  subst hk
  refine ACalls.drop1 (h1 := catO l ++ [(3, .cells [.st (.int .i64 0), .st (.int .i64 0), .st .nilsl, .st (.sl 1 (H.map rowS)), .st .nilsl])]) ⟨rfl, rfl, trivial⟩ ?_
  refine fnC lay_ok func50 rfl rfl rfl rfl rfl ?_
  repeat' first | refine stp lay_ok rfl ?_ | refine fin ?_ | refine n_thn ?_ | refine r_thn ?_ | refine r_blk ?_ | refine .seq ?_ | refine reg ?_ | refine .block ?_ | refine .skip ?_ | refine .ret ?_ | refine cndT rfl ?_ | refine cndF rfl ?_ | (refine o_none rfl ?_; (first | refine st_pure (hq) b69 rfl rfl rfl rfl ?_ | refine st_callK [0,1] (hB) b89 rfl rfl rfl rfl rfl (by (repeat' first | exact trivial | refine And.intro ?_ ?_ | rfl); first | done | fail) ?_)) | fail
  refine f_end (n0 := 4) (t'' := [(6, .ptr 3 0)]) (h'' := [(0, .cells [.lsl 2 4 0 (l.map rowN).length]), (2, .arr 4 (l.map rowN)), (3, .cells [.st (.int .i64 0), .st (.int .i64 0), .st .nilsl, .st (.sl 1 (H.map rowS)), .st .nilsl])]) (WkR.of [1, 3] (by (repeat' first | exact trivial | refine And.intro ?_ ?_ | rfl); first | done | fail) (by (repeat' first | exact trivial | refine And.intro ?_ ?_ | rfl); first | done | fail) rfl) rfl rfl ⟨?_, rfl⟩
  rfl
set_option maxHeartbeats 2000000 in
theorem refDo_none2 (l : List NV) (c : Int) (o : OV) (hk : o.kind = 2) (hr : reqOk c o = true) (ho : o.fit) (hF : ACalls prog 87 2 [.ptr 0 0, I c, Sx o.name] (catH l) fun r h => r = I (-1) ∧ h = catH l) :
    ACalls prog 50 2 [.ptr 0 0, I c, .st (.agg (rowO o))] (catH l) fun r h => r = ansC 3 ∧ h = catO l := by
  have hq := refReq_ok c o ho
  rw [hr] at hq
  have hrf := refNo_ok 3
  obtain ⟨k, nm, p, ks, n⟩ := o
  simp only at hk hF
  subst hk
  refine ACalls.drop1 (h1 := catO l ++ [(3, ansX 3)]) ⟨rfl, rfl, trivial⟩ ?_
  refine fnC lay_ok func50 rfl rfl rfl rfl rfl ?_
  repeat' first | refine stp lay_ok rfl ?_ | refine fin ?_ | refine n_thn ?_ | refine n_blk ?_ | refine r_thn ?_ | refine .seq ?_ | refine reg ?_ | refine .block ?_ | refine .skip ?_ | refine .ret ?_ | refine cndT rfl ?_ | refine cndF rfl ?_ | (refine o_none rfl ?_; (first | refine st_pure (hq) b69 rfl rfl rfl rfl ?_ | refine st_callK [0,1] (hF) b87 rfl rfl rfl rfl rfl (by (repeat' first | exact trivial | refine And.intro ?_ ?_ | rfl); first | done | fail) ?_ | refine st_pure (hrf) b85 rfl rfl rfl rfl ?_)) | fail
  all_goals first
    | (exfalso; omega)
    | skip
  refine f_end (n0 := 4) (t'' := [(6, .ptr 3 0)]) (h'' := [(0, .cells [.lsl 2 4 0 (l.map rowN).length]), (2, .arr 4 (l.map rowN)), (3, ansX 3)]) (WkR.of [1, 3] (by (repeat' first | exact trivial | refine And.intro ?_ ?_ | rfl); first | done | fail) (by (repeat' first | exact trivial | refine And.intro ?_ ?_ | rfl); first | done | fail) rfl) rfl rfl ⟨?_, rfl⟩
  rfl
set_option maxHeartbeats 2000000 in
theorem refDo_one2 (l L : List NV) (c : Int) (o : OV) (A : NS) (i : Nat) (hk : o.kind = 2) (hr : reqOk c o = true) (ho : o.fit) (hF : ACalls prog 87 2 [.ptr 0 0, I c, Sx o.name] (catH l) fun r h => r = I i ∧ h = catH l)
    (hB : ACalls prog 90 2 [.ptr 0 0, I i, .st (.agg (rowO o))] (catH l) fun r h => r = ansS A ∧ h = catO L) :
    ACalls prog 50 2 [.ptr 0 0, I c, .st (.agg (rowO o))] (catH l) fun r h => r = ansS A ∧ h = catO L := by
  have hq := refReq_ok c o ho
  rw [hr] at hq
  obtain ⟨k, nm, p, ks, n⟩ := o
  simp only at hk hB hF
  subst hk
  refine ACalls.drop1 (h1 := catO L ++ [(3, ansB A)]) ⟨rfl, rfl, trivial⟩ ?_
  refine fnC lay_ok func50 rfl rfl rfl rfl rfl ?_
  repeat' first | refine stp lay_ok rfl ?_ | refine fin ?_ | refine n_thn ?_ | refine n_blk ?_ | refine .seq ?_ | refine reg ?_ | refine .block ?_ | refine .skip ?_ | refine .ret ?_ | refine cndF rfl ?_ | (refine o_none rfl ?_; (first | refine st_pure (hq) b69 rfl rfl rfl rfl ?_ | refine st_callK [0,1] (hF) b87 rfl rfl rfl rfl rfl (by (repeat' first | exact trivial | refine And.intro ?_ ?_ | rfl); first | done | fail) ?_ | refine st_callG [0,1] 1 (hB) b90 rfl rfl rfl rfl rfl (by (repeat' first | exact trivial | refine And.intro ?_ ?_ | rfl); first | done | fail) rfl ?_)) | fail
  all_goals first
    | (exfalso; omega)
    | skip
  refine f_end (n0 := 4) (t'' := [(6, .ptr 3 0)]) (h'' := [(0, .cells [.lsl 2 4 0 (L.map rowN).length]), (2, .arr 4 (L.map rowN)), (3, ansB A)]) (WkR.of [4, 3] (by (repeat' first | exact trivial | refine And.intro ?_ ?_ | rfl); first | done | fail) (by (repeat' first | exact trivial | refine And.intro ?_ ?_ | rfl); first | done | fail) rfl) rfl rfl ⟨?_, rfl⟩
  rfl
set_option maxHeartbeats 2000000 in
theorem refDo_none3 (l : List NV) (c : Int) (o : OV) (hk : o.kind = 3) (hr : reqOk c o = true) (ho : o.fit) (hF : ACalls prog 87 2 [.ptr 0 0, I c, Sx o.name] (catH l) fun r h => r = I (-1) ∧ h = catH l) :
    ACalls prog 50 2 [.ptr 0 0, I c, .st (.agg (rowO o))] (catH l) fun r h => r = ansC 3 ∧ h = catO l := by
  have hq := refReq_ok c o ho
  rw [hr] at hq
  have hrf := refNo_ok 3
  obtain ⟨k, nm, p, ks, n⟩ := o
  simp only at hk hF
  subst hk
  refine ACalls.drop1 (h1 := catO l ++ [(3, ansX 3)]) ⟨rfl, rfl, trivial⟩ ?_
  refine fnC lay_ok func50 rfl rfl rfl rfl rfl ?_
  repeat' first | refine stp lay_ok rfl ?_ | refine fin ?_ | refine n_thn ?_ | refine n_blk ?_ | refine r_thn ?_ | refine .seq ?_ | refine reg ?_ | refine .block ?_ | refine .skip ?_ | refine .ret ?_ | refine cndT rfl ?_ | refine cndF rfl ?_ | (refine o_none rfl ?_; (first | refine st_pure (hq) b69 rfl rfl rfl rfl ?_ | refine st_callK [0,1] (hF) b87 rfl rfl rfl rfl rfl (by (repeat' first | exact trivial | refine And.intro ?_ ?_ | rfl); first | done | fail) ?_ | refine st_pure (hrf) b85 rfl rfl rfl rfl ?_)) | fail
  all_goals first
    | (exfalso; omega)
    | skip
  refine f_end (n0 := 4) (t'' := [(6, .ptr 3 0)]) (h'' := [(0, .cells [.lsl 2 4 0 (l.map rowN).length]), (2, .arr 4 (l.map rowN)), (3, ansX 3)]) (WkR.of [1, 3] (by (repeat' first | exact trivial | refine And.intro ?_ ?_ | rfl); first | done | fail) (by (repeat' first | exact trivial | refine And.intro ?_ ?_ | rfl); first | done | fail) rfl) rfl rfl ⟨?_, rfl⟩
  rfl
set_option maxHeartbeats 2000000 in
theorem refDo_one3 (l L : List NV) (c : Int) (o : OV) (A : NS) (i : Nat) (hk : o.kind = 3) (hr : reqOk c o = true) (ho : o.fit) (hF : ACalls prog 87 2 [.ptr 0 0, I c, Sx o.name] (catH l) fun r h => r = I i ∧ h = catH l)
    (hB : ACalls prog 90 2 [.ptr 0 0, I i, .st (.agg (rowO o))] (catH l) fun r h => r = ansS A ∧ h = catO L) :
    ACalls prog 50 2 [.ptr 0 0, I c, .st (.agg (rowO o))] (catH l) fun r h => r = ansS A ∧ h = catO L := by
  have hq := refReq_ok c o ho
  rw [hr] at hq
  obtain ⟨k, nm, p, ks, n⟩ := o
  simp only at hk hB hF
  subst hk
  refine ACalls.drop1 (h1 := catO L ++ [(3, ansB A)]) ⟨rfl, rfl, trivial⟩ ?_
  refine fnC lay_ok func50 rfl rfl rfl rfl rfl ?_
  repeat' first | refine stp lay_ok rfl ?_ | refine fin ?_ | refine n_thn ?_ | refine n_blk ?_ | refine .seq ?_ | refine reg ?_ | refine .block ?_ | refine .skip ?_ | refine .ret ?_ | refine cndF rfl ?_ | (refine o_none rfl ?_; (first | refine st_pure (hq) b69 rfl rfl rfl rfl ?_ | refine st_callK [0,1] (hF) b87 rfl rfl rfl rfl rfl (by (repeat' first | exact trivial | refine And.intro ?_ ?_ | rfl); first | done | fail) ?_ | refine st_callG [0,1] 1 (hB) b90 rfl rfl rfl rfl rfl (by (repeat' first | exact trivial | refine And.intro ?_ ?_ | rfl); first | done | fail) rfl ?_)) | fail
  all_goals first
    | (exfalso; omega)
    | skip
  refine f_end (n0 := 4) (t'' := [(6, .ptr 3 0)]) (h'' := [(0, .cells [.lsl 2 4 0 (L.map rowN).length]), (2, .arr 4 (L.map rowN)), (3, ansB A)]) (WkR.of [4, 3] (by (repeat' first | exact trivial | refine And.intro ?_ ?_ | rfl); first | done | fail) (by (repeat' first | exact trivial | refine And.intro ?_ ?_ | rfl); first | done | fail) rfl) rfl rfl ⟨?_, rfl⟩
  rfl
set_option maxHeartbeats 2000000 in
theorem refDo_none4 (l : List NV) (c : Int) (o : OV) (hk : o.kind = 4) (hr : reqOk c o = true) (ho : o.fit) (hF : ACalls prog 87 2 [.ptr 0 0, I c, Sx o.name] (catH l) fun r h => r = I (-1) ∧ h = catH l) :
    ACalls prog 50 2 [.ptr 0 0, I c, .st (.agg (rowO o))] (catH l) fun r h => r = ansC 3 ∧ h = catO l := by
  have hq := refReq_ok c o ho
  rw [hr] at hq
  have hrf := refNo_ok 3
  obtain ⟨k, nm, p, ks, n⟩ := o
  simp only at hk hF
  subst hk
  refine ACalls.drop1 (h1 := catO l ++ [(3, ansX 3)]) ⟨rfl, rfl, trivial⟩ ?_
  refine fnC lay_ok func50 rfl rfl rfl rfl rfl ?_
  repeat' first | refine stp lay_ok rfl ?_ | refine fin ?_ | refine n_thn ?_ | refine n_blk ?_ | refine r_thn ?_ | refine .seq ?_ | refine reg ?_ | refine .block ?_ | refine .skip ?_ | refine .ret ?_ | refine cndT rfl ?_ | refine cndF rfl ?_ | (refine o_none rfl ?_; (first | refine st_pure (hq) b69 rfl rfl rfl rfl ?_ | refine st_callK [0,1] (hF) b87 rfl rfl rfl rfl rfl (by (repeat' first | exact trivial | refine And.intro ?_ ?_ | rfl); first | done | fail) ?_ | refine st_pure (hrf) b85 rfl rfl rfl rfl ?_)) | fail
  all_goals first
    | (exfalso; omega)
    | skip
  refine f_end (n0 := 4) (t'' := [(6, .ptr 3 0)]) (h'' := [(0, .cells [.lsl 2 4 0 (l.map rowN).length]), (2, .arr 4 (l.map rowN)), (3, ansX 3)]) (WkR.of [1, 3] (by (repeat' first | exact trivial | refine And.intro ?_ ?_ | rfl); first | done | fail) (by (repeat' first | exact trivial | refine And.intro ?_ ?_ | rfl); first | done | fail) rfl) rfl rfl ⟨?_, rfl⟩
  rfl
set_option maxHeartbeats 2000000 in
theorem refDo_one4 (l L : List NV) (c : Int) (o : OV) (A : NS) (i : Nat) (hk : o.kind = 4) (hr : reqOk c o = true) (ho : o.fit) (hF : ACalls prog 87 2 [.ptr 0 0, I c, Sx o.name] (catH l) fun r h => r = I i ∧ h = catH l)
    (hB : ACalls prog 90 2 [.ptr 0 0, I i, .st (.agg (rowO o))] (catH l) fun r h => r = ansS A ∧ h = catO L) :
    ACalls prog 50 2 [.ptr 0 0, I c, .st (.agg (rowO o))] (catH l) fun r h => r = ansS A ∧ h = catO L := by
  have hq := refReq_ok c o ho
  rw [hr] at hq
  obtain ⟨k, nm, p, ks, n⟩ := o
  simp only at hk hB hF
  subst hk
  refine ACalls.drop1 (h1 := catO L ++ [(3, ansB A)]) ⟨rfl, rfl, trivial⟩ ?_
  refine fnC lay_ok func50 rfl rfl rfl rfl rfl ?_
  repeat' first | refine stp lay_ok rfl ?_ | refine fin ?_ | refine n_thn ?_ | refine n_blk ?_ | refine .seq ?_ | refine reg ?_ | refine .block ?_ | refine .skip ?_ | refine .ret ?_ | refine cndF rfl ?_ | (refine o_none rfl ?_; (first | refine st_pure (hq) b69 rfl rfl rfl rfl ?_ | refine st_callK [0,1] (hF) b87 rfl rfl rfl rfl rfl (by (repeat' first | exact trivial | refine And.intro ?_ ?_ | rfl); first | done | fail) ?_ | refine st_callG [0,1] 1 (hB) b90 rfl rfl rfl rfl rfl (by (repeat' first | exact trivial | refine And.intro ?_ ?_ | rfl); first | done | fail) rfl ?_)) | fail
  all_goals first
    | (exfalso; omega)
    | skip
  refine f_end (n0 := 4) (t'' := [(6, .ptr 3 0)]) (h'' := [(0, .cells [.lsl 2 4 0 (L.map rowN).length]), (2, .arr 4 (L.map rowN)), (3, ansB A)]) (WkR.of [4, 3] (by (repeat' first | exact trivial | refine And.intro ?_ ?_ | rfl); first | done | fail) (by (repeat' first | exact trivial | refine And.intro ?_ ?_ | rfl); first | done | fail) rfl) rfl rfl ⟨?_, rfl⟩
  rfl
set_option maxHeartbeats 2000000 in
theorem refDo_none6 (l : List NV) (c : Int) (o : OV) (hk : o.kind = 6) (hr : reqOk c o = true) (ho : o.fit) (hF : ACalls prog 87 2 [.ptr 0 0, I c, Sx o.name] (catH l) fun r h => r = I (-1) ∧ h = catH l) :
    ACalls prog 50 2 [.ptr 0 0, I c, .st (.agg (rowO o))] (catH l) fun r h => r = ansC 3 ∧ h = catO l := by
  have hq := refReq_ok c o ho
  rw [hr] at hq
  have hrf := refNo_ok 3
  obtain ⟨k, nm, p, ks, n⟩ := o
  simp only at hk hF
  subst hk
  refine ACalls.drop1 (h1 := catO l ++ [(3, ansX 3)]) ⟨rfl, rfl, trivial⟩ ?_
  refine fnC lay_ok func50 rfl rfl rfl rfl rfl ?_
  repeat' first | refine stp lay_ok rfl ?_ | refine fin ?_ | refine n_thn ?_ | refine n_blk ?_ | refine r_thn ?_ | refine .seq ?_ | refine reg ?_ | refine .block ?_ | refine .skip ?_ | refine .ret ?_ | refine cndT rfl ?_ | refine cndF rfl ?_ | (refine o_none rfl ?_; (first | refine st_pure (hq) b69 rfl rfl rfl rfl ?_ | refine st_callK [0,1] (hF) b87 rfl rfl rfl rfl rfl (by (repeat' first | exact trivial | refine And.intro ?_ ?_ | rfl); first | done | fail) ?_ | refine st_pure (hrf) b85 rfl rfl rfl rfl ?_)) | fail
  all_goals first
    | (exfalso; omega)
    | skip
  refine f_end (n0 := 4) (t'' := [(6, .ptr 3 0)]) (h'' := [(0, .cells [.lsl 2 4 0 (l.map rowN).length]), (2, .arr 4 (l.map rowN)), (3, ansX 3)]) (WkR.of [1, 3] (by (repeat' first | exact trivial | refine And.intro ?_ ?_ | rfl); first | done | fail) (by (repeat' first | exact trivial | refine And.intro ?_ ?_ | rfl); first | done | fail) rfl) rfl rfl ⟨?_, rfl⟩
  rfl
set_option maxHeartbeats 2000000 in
theorem refDo_one6 (l L : List NV) (c : Int) (o : OV) (A : NS) (i : Nat) (hk : o.kind = 6) (hr : reqOk c o = true) (ho : o.fit) (hF : ACalls prog 87 2 [.ptr 0 0, I c, Sx o.name] (catH l) fun r h => r = I i ∧ h = catH l)
    (hB : ACalls prog 90 2 [.ptr 0 0, I i, .st (.agg (rowO o))] (catH l) fun r h => r = ansS A ∧ h = catO L) :
    ACalls prog 50 2 [.ptr 0 0, I c, .st (.agg (rowO o))] (catH l) fun r h => r = ansS A ∧ h = catO L := by
  have hq := refReq_ok c o ho
  rw [hr] at hq
  obtain ⟨k, nm, p, ks, n⟩ := o
  simp only at hk hB hF
  subst hk
  refine ACalls.drop1 (h1 := catO L ++ [(3, ansB A)]) ⟨rfl, rfl, trivial⟩ ?_
  refine fnC lay_ok func50 rfl rfl rfl rfl rfl ?_
  repeat' first | refine stp lay_ok rfl ?_ | refine fin ?_ | refine n_thn ?_ | refine n_blk ?_ | refine .seq ?_ | refine reg ?_ | refine .block ?_ | refine .skip ?_ | refine .ret ?_ | refine cndF rfl ?_ | (refine o_none rfl ?_; (first | refine st_pure (hq) b69 rfl rfl rfl rfl ?_ | refine st_callK [0,1] (hF) b87 rfl rfl rfl rfl rfl (by (repeat' first | exact trivial | refine And.intro ?_ ?_ | rfl); first | done | fail) ?_ | refine st_callG [0,1] 1 (hB) b90 rfl rfl rfl rfl rfl (by (repeat' first | exact trivial | refine And.intro ?_ ?_ | rfl); first | done | fail) rfl ?_)) | fail
  all_goals first
    | (exfalso; omega)
    | skip
  refine f_end (n0 := 4) (t'' := [(6, .ptr 3 0)]) (h'' := [(0, .cells [.lsl 2 4 0 (L.map rowN).length]), (2, .arr 4 (L.map rowN)), (3, ansB A)]) (WkR.of [4, 3] (by (repeat' first | exact trivial | refine And.intro ?_ ?_ | rfl); first | done | fail) (by (repeat' first | exact trivial | refine And.intro ?_ ?_ | rfl); first | done | fail) rfl) rfl rfl ⟨?_, rfl⟩
  rfl
set_option maxHeartbeats 2000000 in
theorem refDo_none7 (l : List NV) (c : Int) (o : OV) (hk : o.kind = 7) (hr : reqOk c o = true) (ho : o.fit) (hF : ACalls prog 87 2 [.ptr 0 0, I c, Sx o.name] (catH l) fun r h => r = I (-1) ∧ h = catH l) :
    ACalls prog 50 2 [.ptr 0 0, I c, .st (.agg (rowO o))] (catH l) fun r h => r = ansC 3 ∧ h = catO l := by
  have hq := refReq_ok c o ho
  rw [hr] at hq
  have hrf := refNo_ok 3
  obtain ⟨k, nm, p, ks, n⟩ := o
  simp only at hk hF
  subst hk
  refine ACalls.drop1 (h1 := catO l ++ [(3, ansX 3)]) ⟨rfl, rfl, trivial⟩ ?_
  refine fnC lay_ok func50 rfl rfl rfl rfl rfl ?_
  repeat' first | refine stp lay_ok rfl ?_ | refine fin ?_ | refine n_thn ?_ | refine n_blk ?_ | refine r_thn ?_ | refine .seq ?_ | refine reg ?_ | refine .block ?_ | refine .skip ?_ | refine .ret ?_ | refine cndT rfl ?_ | refine cndF rfl ?_ | (refine o_none rfl ?_; (first | refine st_pure (hq) b69 rfl rfl rfl rfl ?_ | refine st_callK [0,1] (hF) b87 rfl rfl rfl rfl rfl (by (repeat' first | exact trivial | refine And.intro ?_ ?_ | rfl); first | done | fail) ?_ | refine st_pure (hrf) b85 rfl rfl rfl rfl ?_)) | fail
  all_goals first
    | (exfalso; omega)
    | skip
  refine f_end (n0 := 4) (t'' := [(6, .ptr 3 0)]) (h'' := [(0, .cells [.lsl 2 4 0 (l.map rowN).length]), (2, .arr 4 (l.map rowN)), (3, ansX 3)]) (WkR.of [1, 3] (by (repeat' first | exact trivial | refine And.intro ?_ ?_ | rfl); first | done | fail) (by (repeat' first | exact trivial | refine And.intro ?_ ?_ | rfl); first | done | fail) rfl) rfl rfl ⟨?_, rfl⟩
  rfl
set_option maxHeartbeats 2000000 in
theorem refDo_one7 (l L : List NV) (c : Int) (o : OV) (A : NS) (i : Nat) (hk : o.kind = 7) (hr : reqOk c o = true) (ho : o.fit) (hF : ACalls prog 87 2 [.ptr 0 0, I c, Sx o.name] (catH l) fun r h => r = I i ∧ h = catH l)
    (hB : ACalls prog 90 2 [.ptr 0 0, I i, .st (.agg (rowO o))] (catH l) fun r h => r = ansS A ∧ h = catO L) :
    ACalls prog 50 2 [.ptr 0 0, I c, .st (.agg (rowO o))] (catH l) fun r h => r = ansS A ∧ h = catO L := by
  have hq := refReq_ok c o ho
  rw [hr] at hq
  obtain ⟨k, nm, p, ks, n⟩ := o
  simp only at hk hB hF
  subst hk
  refine ACalls.drop1 (h1 := catO L ++ [(3, ansB A)]) ⟨rfl, rfl, trivial⟩ ?_
  refine fnC lay_ok func50 rfl rfl rfl rfl rfl ?_
  repeat' first | refine stp lay_ok rfl ?_ | refine fin ?_ | refine n_thn ?_ | refine n_blk ?_ | refine .seq ?_ | refine reg ?_ | refine .block ?_ | refine .skip ?_ | refine .ret ?_ | refine cndF rfl ?_ | (refine o_none rfl ?_; (first | refine st_pure (hq) b69 rfl rfl rfl rfl ?_ | refine st_callK [0,1] (hF) b87 rfl rfl rfl rfl rfl (by (repeat' first | exact trivial | refine And.intro ?_ ?_ | rfl); first | done | fail) ?_ | refine st_callG [0,1] 1 (hB) b90 rfl rfl rfl rfl rfl (by (repeat' first | exact trivial | refine And.intro ?_ ?_ | rfl); first | done | fail) rfl ?_)) | fail
  all_goals first
    | (exfalso; omega)
    | skip
  refine f_end (n0 := 4) (t'' := [(6, .ptr 3 0)]) (h'' := [(0, .cells [.lsl 2 4 0 (L.map rowN).length]), (2, .arr 4 (L.map rowN)), (3, ansB A)]) (WkR.of [4, 3] (by (repeat' first | exact trivial | refine And.intro ?_ ?_ | rfl); first | done | fail) (by (repeat' first | exact trivial | refine And.intro ?_ ?_ | rfl); first | done | fail) rfl) rfl rfl ⟨?_, rfl⟩
  rfl
end Go.Proofs.YtohmbpcjapjkbaaGreatDoorFn
namespace Go.Proofs.YtohmbpcjapjkbaaGreatDoorFn
open Go.Proofs.YtohmbpcjapjkbaaGreatDoorAl Go.Proofs.Tryz
attribute [local irreducible] IntKind.wrap CodeOk OpsL OpG ACalls thn inBlk rndR cutR WkR Wk fnR DW ExtOk partsOf
/-! ### the document begins a snapshot, and lists -/
set_option maxHeartbeats 4000000 in
theorem refDo_1 (l : List NV) (c : Int) (o : OV) (hl : l.length ≤ 4000000) (hk : o.kind = 1) (hr : reqOk c o = true) (ho : o.fit) :
    ACalls prog 50 2 [.ptr 0 0, I c, .st (.agg (rowO o))] (catH l) fun r h => r = ansC (begP l c o.name).2 ∧ h = catO (begP l c o.name).1 := by
  have hq := refReq_ok c o ho
  rw [hr] at hq
  obtain ⟨k, nm, p, ks, n⟩ := o
  simp only at hk ⊢
  subst hk
  have h1 := refFind_ok l c nm hl
  have h2 := refMany_ok l c hl
  have hm : (List.map rowN l).length = l.length := List.length_map _
  have hge := find_ge l c nm
  have hml := many_le c l
  have hr4 := refNo_ok 4
  have hr5 := refNo_ok 5
  unfold begP
  generalize findS l c nm = fi at *
  generalize l.countP (isO c true) = D at *
  by_cases hf : 0 ≤ fi
  · rw [if_pos (hge.1 hf)]
    refine ACalls.drop1 (h1 := catO l ++ [(3, ansX 4)]) ⟨rfl, rfl, trivial⟩ ?_
    refine fnC lay_ok func50 rfl rfl rfl rfl rfl ?_
    repeat' first | refine stp lay_ok rfl ?_ | refine fin ?_ | refine n_thn ?_ | refine r_thn ?_ | refine r_blk ?_ | refine .seq ?_ | refine reg ?_ | refine .block ?_ | refine .skip ?_ | refine .ret ?_ | refine cndT rfl ?_ | refine cndF rfl ?_ | refine c_dec rfl (fun hc => ?_) (fun hc => ?_) | (refine o_none rfl ?_; (first | refine st_pure (hq) b69 rfl rfl rfl rfl ?_ | refine st_callK [0,1] (h2) b86 rfl rfl rfl rfl rfl (by (repeat' first | exact trivial | refine And.intro ?_ ?_ | rfl); first | done | fail) ?_ | refine st_callK [0,1] (h1) b87 rfl rfl rfl rfl rfl (by (repeat' first | exact trivial | refine And.intro ?_ ?_ | rfl); first | done | fail) ?_ | refine st_pure (hr4) b85 rfl rfl rfl rfl ?_)) | fail
    all_goals first
      | (exfalso; omega)
      | skip
    refine f_end (n0 := 4) (t'' := [(6, .ptr 3 0)]) (h'' := [(0, .cells [.lsl 2 4 0 (l.map rowN).length]), (2, .arr 4 (l.map rowN)), (3, ansX 4)]) (WkR.of [1, 3] (by (repeat' first | exact trivial | refine And.intro ?_ ?_ | rfl); first | done | fail) (by (repeat' first | exact trivial | refine And.intro ?_ ?_ | rfl); first | done | fail) rfl) rfl rfl ⟨?_, rfl⟩
    rfl
  · have hno : ¬ (l.any (isS c nm)) = true := fun h => hf (hge.2 h)
    rw [if_neg hno]
    by_cases h8 : 8 ≤ many c l
    · rw [if_pos h8]
      refine ACalls.drop1 (h1 := catO l ++ [(3, ansX 5)]) ⟨rfl, rfl, trivial⟩ ?_
      refine fnC lay_ok func50 rfl rfl rfl rfl rfl ?_
      repeat' first | refine stp lay_ok rfl ?_ | refine fin ?_ | refine n_thn ?_ | refine r_thn ?_ | refine r_blk ?_ | refine .seq ?_ | refine reg ?_ | refine .block ?_ | refine .skip ?_ | refine .ret ?_ | refine cndT rfl ?_ | refine cndF rfl ?_ | refine c_dec rfl (fun hc => ?_) (fun hc => ?_) | (refine o_none rfl ?_; (first | refine st_pure (hq) b69 rfl rfl rfl rfl ?_ | refine st_callK [0,1] (h2) b86 rfl rfl rfl rfl rfl (by (repeat' first | exact trivial | refine And.intro ?_ ?_ | rfl); first | done | fail) ?_ | refine st_callK [0,1] (h1) b87 rfl rfl rfl rfl rfl (by (repeat' first | exact trivial | refine And.intro ?_ ?_ | rfl); first | done | fail) ?_ | refine st_pure (hr5) b85 rfl rfl rfl rfl ?_)) | fail
      all_goals first
        | (exfalso; omega)
        | skip
      refine f_end (n0 := 4) (t'' := [(6, .ptr 3 0)]) (h'' := [(0, .cells [.lsl 2 4 0 (l.map rowN).length]), (2, .arr 4 (l.map rowN)), (3, ansX 5)]) (WkR.of [1, 3] (by (repeat' first | exact trivial | refine And.intro ?_ ?_ | rfl); first | done | fail) (by (repeat' first | exact trivial | refine And.intro ?_ ?_ | rfl); first | done | fail) rfl) rfl rfl ⟨?_, rfl⟩
      rfl
    · rw [if_neg h8]
      refine ACalls.drop1 (h1 := catO (l ++ [⟨c, nm, false, []⟩]) ++ [(3, ansX 0)]) ⟨rfl, rfl, trivial⟩ ?_
      have hone : ∀ row ∈ [[SV.int .i64 c, .str nm, .bool false, .nilsl]], ∀ y ∈ row, SV.one y = true := by
        intro row hrow y hy
        simp only [List.mem_singleton] at hrow
        subst hrow
        simp only [List.mem_cons, List.not_mem_nil, or_false] at hy
        rcases hy with rfl | rfl | rfl | rfl <;> rfl
      refine fnC lay_ok func50 rfl rfl rfl rfl rfl ?_
      repeat' first | refine stp lay_ok rfl ?_ | refine fin ?_ | refine n_thn ?_ | refine .seq ?_ | refine reg ?_ | refine .block ?_ | refine .skip ?_ | refine cndT rfl ?_ | refine cndF rfl ?_ | refine c_dec rfl (fun hc => ?_) (fun hc => ?_) | (refine o_none rfl ?_; (first | refine st_pure (hq) b69 rfl rfl rfl rfl ?_ | refine st_callK [0,1] (h2) b86 rfl rfl rfl rfl rfl (by (repeat' first | exact trivial | refine And.intro ?_ ?_ | rfl); first | done | fail) ?_ | refine st_callK [0,1] (h1) b87 rfl rfl rfl rfl rfl (by (repeat' first | exact trivial | refine And.intro ?_ ?_ | rfl); first | done | fail) ?_)) | fail
      all_goals first
        | (exfalso; omega)
        | skip
      refine dreg [(0, [], [41, 42, 43, 44, 45, 46, 47, 48, 49, 50]), (1, [], [40, 45, 46, 47, 48, 49]), (2, [1], [40, 45, 46, 47, 48, 49]), (3, [1, 2], [40, 45, 46, 47, 48, 49]), (4, [1, 2, 3], [40, 45, 46, 47, 48, 49]), (5, [], [40, 41, 42, 43, 44, 46, 47]), (6, [], [40, 41, 42, 43, 44, 45]), (7, [6], [40, 41, 42, 43, 44, 45]), (8, [5, 6, 7], [40, 41, 42, 43, 44]), (9, [5, 6, 7, 8], [40, 41, 42, 43, 44]), (10, [1, 2, 3, 4, 5, 6, 7, 8, 9], [40]), (11, [0, 1, 2, 3, 4, 5, 6, 7, 8, 9, 10], []), (12, [0, 1, 2, 3, 4, 5, 6, 7, 8, 9, 10, 11], []), (13, [0, 1, 2, 3, 4, 5, 6, 7, 8, 9, 10, 11, 12], [])] mixed (by kernel_rfl) ?_
      repeat' first | refine stp lay_ok rfl ?_ | refine fin ?_ | refine n_thn ?_ | refine r_thn ?_ | refine r_blk ?_ | refine .seq ?_ | refine reg ?_ | refine .ret ?_ | refine dws lay_ok rfl rfl rfl rfl rfl rfl rfl ?_ | refine dwu lay_ok rfl rfl rfl rfl rfl rfl rfl rfl rfl ?_ | refine dw_end ?_ | refine dwg rfl rfl rfl rfl rfl (by (first | refine st_append lay_ok rfl rfl rfl rfl rfl rfl rfl rfl (.lsl rfl rfl) (.sl (rows := [[SV.int .i64 c, .str nm, .bool false, .nilsl]])) rfl hone (by simp only [List.length_cons, List.length_nil]; omega) (by simp only [List.length_cons, List.length_nil]; omega) ?_); exact fin rfl) rfl rfl rfl rfl rfl ?_ | fail
      all_goals first
        | (exfalso; omega)
        | skip
      have hlen : (List.map rowN l ++ [[SV.int .i64 c, .str nm, .bool false, .nilsl]]).length = (List.map rowN (l ++ [⟨c, nm, false, []⟩])).length := by simp
      rw [hlen]
      refine f_end (n0 := 4) (t'' := [(6, .ptr 3 0)]) (h'' := [(0, .cells [.lsl 2 4 0 (List.map rowN (l ++ [⟨c, nm, false, []⟩])).length]), (2, .arr 4 (List.map rowN (l ++ [⟨c, nm, false, []⟩]))), (3, ansX 0)]) (Wk.then (Wk.leA (rows' := List.map rowN (l ++ [⟨c, nm, false, []⟩])) 4 rfl hlen.symm (begin_le l c nm) rfl) (WkR.of [4, 3] (by (repeat' first | exact trivial | refine And.intro ?_ ?_ | rfl); first | done | fail) (by (repeat' first | exact trivial | refine And.intro ?_ ?_ | rfl); first | done | fail) rfl)) rfl rfl ⟨?_, rfl⟩
      rfl
theorem lst_take (c : Int) {l : List NV} {k : Nat} (h : k < l.length) : ((l.take (k + 1)).filter (isO c true)).map (·.name) = ((l.take k).filter (isO c true)).map (·.name) ++ if isO c true l[k] = true then [l[k].name] else [] := by
  rw [List.take_succ_eq_append_getElem h, List.filter_append, List.map_append]
  cases hp : isO c true l[k] <;> simp [hp]
set_option maxHeartbeats 8000000 in
theorem refDo_5 (l : List NV) (c : Int) (o : OV) (hl : l.length ≤ 4000000) (hk : o.kind = 5) (hr : reqOk c o = true) (ho : o.fit) :
    ACalls prog 50 2 [.ptr 0 0, I c, .st (.agg (rowO o))] (catH l) fun r h => r = ansN ((l.filter (isO c true)).map (·.name)) ∧ h = catO l := by
  have hq := refReq_ok c o ho
  rw [hr] at hq
  obtain ⟨k, nm, p, ks, n⟩ := o
  simp only at hk ⊢
  subst hk
  have hm : (List.map rowN l).length = l.length := List.length_map _
  generalize hR : (l.filter (isO c true)).map (·.name) = R
  refine ACalls.drop1 (h1 := catO l ++ [(3, .cells [.st (.int .i64 0), .st (.int .i64 0), .st (.sl 1 (R.map rowS)), .st .nilsl, .st .nilsl])]) ⟨rfl, rfl, trivial⟩ ?_
  refine fnC lay_ok func50 rfl rfl rfl rfl rfl ?_
  repeat' first | refine stp lay_ok rfl ?_ | refine fin ?_ | refine n_thn ?_ | refine .seq ?_ | refine reg ?_ | refine .block ?_ | refine .skip ?_ | refine cndT rfl ?_ | refine cndF rfl ?_ | (refine o_none rfl ?_; refine st_pure (hq) b69 rfl rfl rfl rfl ?_) | fail
  refine CodeOk.wk (Wk.nilC 1 4 2 rfl rfl rfl rfl rfl) (Nat.le_succ _) ?_
  refine nrm rfl rfl ?_
  refine lpR (fun (k, out) => k ≤ l.length ∧ out = ((l.take k).filter (isO c true)).map (·.name) ∧ out.length ≤ k) (fun (k, out) => l.length - k) (fun (k, out) => [(11, I k)]) (fun (k, out) => [(4, .cells [.st (.int .i64 0), .st (.int .i64 0), .lsl 6 1 0 (out.map rowS).length, .st .nilsl, .st .nilsl]), (6, .arr 1 (out.map rowS))]) ((0, [])) [0, 1, 6, 10] [4] [5] rfl rfl rfl (.of [5] (by (repeat' first | exact trivial | refine And.intro ?_ ?_ | rfl); first | done | fail) (by (repeat' first | exact trivial | refine And.intro ?_ ?_ | rfl); first | done | fail) rfl) ?_ ?_
  · exact ⟨Nat.zero_le _, rfl, Nat.le_refl _⟩
  rintro ⟨k, out⟩ ⟨g1, g2, g3⟩
  refine nrm rfl rfl ?_
  have hmr : (List.map rowS out).length = out.length := List.length_map _
  by_cases hk : k < l.length
  case neg =>
    have hke : k = l.length := by omega
    subst hke
    rw [List.take_length, hR] at g2
    rw [← g2]
    repeat' first | refine ln ?_ | refine stp lay_ok rfl ?_ | refine fin ?_ | refine n_thn ?_ | refine e_thn ?_ | refine e_hit ?_ | refine r_thn ?_ | refine r_blk ?_ | refine e_rr ?_ | refine .seq ?_ | refine reg ?_ | refine .block ?_ | refine .skip ?_ | refine .ret ?_ | refine .exit ?_ | refine c_dec rfl (fun hc => ?_) (fun hc => ?_) | fail
    all_goals first
      | (exfalso; omega)
      | skip
    refine f_end (n0 := 4) (t'' := [(6, .ptr 3 0)]) (h'' := [(0, .cells [.lsl 2 4 0 (l.map rowN).length]), (2, .arr 4 (l.map rowN)), (3, .cells [.st (.int .i64 0), .st (.int .i64 0), .st (.sl 1 (out.map rowS)), .st .nilsl, .st .nilsl])]) (Wk.then (Wk.frz 6 [6] rfl rfl rfl (by (repeat' first | exact trivial | refine And.intro ?_ ?_ | rfl); first | done | fail) (by (repeat' first | exact trivial | refine And.intro ?_ ?_ | rfl); first | done | fail) rfl rfl) (WkR.of [1, 3] (by (repeat' first | exact trivial | refine And.intro ?_ ?_ | rfl); first | done | fail) (by (repeat' first | exact trivial | refine And.intro ?_ ?_ | rfl); first | done | fail) rfl)) rfl rfl ⟨?_, rfl⟩
    rfl
  have hat : (List.map rowN l)[0 + ((k : Nat) : Int).toNat]? = some (rowN l[k]) := by simp [hk]
  have htk := lst_take c hk
  rw [← g2] at htk
  generalize l[k] = s at *
  obtain ⟨c', n', d', es⟩ := s
  have hr2 : List.map rowS out ++ [[SV.str n']] = List.map rowS (out ++ [n']) := by rw [List.map_append]; rfl
  by_cases hp : isO c true ⟨c', n', d', es⟩ = true
  · rw [if_pos hp] at htk
    unfold isO at hp
    simp only [Bool.not_true, Bool.or_false, Bool.and_eq_true, decide_eq_true_eq] at hp
    obtain ⟨rfl, rfl⟩ := hp
    repeat' first | refine wr (by omega) ?_ | refine ln ?_ | refine stp lay_ok rfl ?_ | refine fin ?_ | refine n_thn ?_ | refine n_blk ?_ | refine e_thn ?_ | refine e_hit ?_ | refine r_thn ?_ | refine r_blk ?_ | refine e_rr ?_ | refine .seq ?_ | refine reg ?_ | refine .block ?_ | refine .skip ?_ | refine .ret ?_ | refine .exit ?_ | refine cndT rfl ?_ | refine cndF rfl ?_ | refine c_dec rfl (fun hc => ?_) (fun hc => ?_) | ((first | refine o_none rfl ?_ | refine o_yes rfl rfl rfl ?_); (first | refine st_indexL lay_ok rfl rfl rfl rfl (by omega) (by omega) ?_ | refine st_loadE [SV.int .i64 c', .str n', .bool true, .sl 3 (es.map rowE)] lay_ok rfl rfl rfl hat rfl rfl rfl ?_)) | refine gd rfl rfl rfl (fun hg => ?_) (fun hg => ?_) | fail
    all_goals first
      | (exfalso; omega)
      | skip
    refine dreg [(0, [], [87, 88, 89, 90, 91, 92, 93, 94, 95]), (1, [0], [87, 88, 89, 90, 91, 92, 93, 94, 95]), (2, [], [85, 86, 91]), (3, [2], [85, 86, 91]), (4, [2, 3], [85, 86, 91]), (5, [2, 3, 4], [85, 86, 91]), (6, [], [85, 86, 87, 88, 89, 90]), (7, [2, 3, 4, 5, 6], [85, 86]), (8, [2, 3, 4, 5, 6, 7], [85, 86]), (9, [2, 3, 4, 5, 6, 7, 8], [85, 86]), (10, [2, 3, 4, 5, 6, 7, 8, 9], [85, 86]), (11, [0, 1, 2, 3, 4, 5, 6, 7, 8, 9, 10], []), (12, [0, 1, 2, 3, 4, 5, 6, 7, 8, 9, 10, 11], []), (13, [0, 1, 2, 3, 4, 5, 6, 7, 8, 9, 10, 11, 12], [])] mixed (by kernel_rfl) ?_
    repeat' first | refine wr (by omega) ?_ | refine stp lay_ok rfl ?_ | refine fin ?_ | refine n_thn ?_ | refine n_blk ?_ | refine reg ?_ | refine dws lay_ok rfl rfl rfl rfl rfl rfl rfl ?_ | refine dwu lay_ok rfl rfl rfl rfl rfl rfl rfl rfl rfl ?_ | refine dw_end ?_ | refine dwb rfl rfl rfl rfl rfl (by (first | refine st_indexL lay_ok rfl rfl rfl rfl (by omega) (by omega) ?_ | refine st_loadE [SV.int .i64 c', .str n', .bool true, .sl 3 (es.map rowE)] lay_ok rfl rfl rfl hat rfl rfl rfl ?_ | refine st_append lay_ok rfl rfl rfl rfl rfl rfl rfl rfl (.lsl rfl rfl) (.sl (rows := [[SV.str n']])) rfl (rowS_one1 n') (by simp only [List.length_cons, List.length_nil]; omega) (by simp only [List.length_cons, List.length_nil]; omega) ?_); exact fin rfl) rfl rfl ?_ | refine dwg rfl rfl rfl rfl rfl (by (first | refine st_indexL lay_ok rfl rfl rfl rfl (by omega) (by omega) ?_ | refine st_loadE [SV.int .i64 c', .str n', .bool true, .sl 3 (es.map rowE)] lay_ok rfl rfl rfl hat rfl rfl rfl ?_ | refine st_append lay_ok rfl rfl rfl rfl rfl rfl rfl rfl (.lsl rfl rfl) (.sl (rows := [[SV.str n']])) rfl (rowS_one1 n') (by simp only [List.length_cons, List.length_nil]; omega) (by simp only [List.length_cons, List.length_nil]; omega) ?_); exact fin rfl) rfl rfl rfl rfl rfl ?_ | fail
    all_goals first
      | (exfalso; omega)
      | skip
    rw [hr2]
    refine n_rr ((k + 1, out ++ [n'])) ?_ (.of [7] (by (repeat' first | exact trivial | refine And.intro ?_ ?_ | rfl | exact congrArg (fun z : Int => some (AV.st (.int .i64 z))) (show (k : Int) + 1 = ((k + 1 : Nat) : Int) by omega)); first | done | fail) (by (repeat' first | exact trivial | refine And.intro ?_ ?_ | rfl | exact congrArg (fun z : Int => some (AV.st (.int .i64 z))) (show (k : Int) + 1 = ((k + 1 : Nat) : Int) by omega)); first | done | fail) rfl) ?_
    · show l.length - (k + 1) < l.length - k; omega
    · exact ⟨hk, htk.symm, by simp; omega⟩
  · rw [if_neg hp, List.append_nil] at htk
    unfold isO at hp
    simp only [Bool.not_true, Bool.or_false, Bool.and_eq_true, decide_eq_true_eq, not_and] at hp
    cases d'
    all_goals
      repeat' first | refine wr (by omega) ?_ | refine ln ?_ | refine stp lay_ok rfl ?_ | refine fin ?_ | refine n_thn ?_ | refine n_blk ?_ | refine e_thn ?_ | refine e_hit ?_ | refine r_thn ?_ | refine r_blk ?_ | refine e_rr ?_ | refine .seq ?_ | refine reg ?_ | refine .block ?_ | refine .skip ?_ | refine .ret ?_ | refine .exit ?_ | refine cndT rfl ?_ | refine cndF rfl ?_ | refine c_dec rfl (fun hc => ?_) (fun hc => ?_) | ((first | refine o_none rfl ?_ | refine o_yes rfl rfl rfl ?_); (first | refine st_indexL lay_ok rfl rfl rfl rfl (by omega) (by omega) ?_ | refine st_loadE [SV.int .i64 c', .str n', .bool _, .sl 3 (es.map rowE)] lay_ok rfl rfl rfl hat rfl rfl rfl ?_)) | refine gd rfl rfl rfl (fun hg => ?_) (fun hg => ?_) | fail
      all_goals first
        | (exfalso; omega)
        | (exfalso; simp_all; done)
        | skip
      all_goals
        refine n_rr ((k + 1, out)) ?_ (.of [6] (by (repeat' first | exact trivial | refine And.intro ?_ ?_ | rfl | exact congrArg (fun z : Int => some (AV.st (.int .i64 z))) (show (k : Int) + 1 = ((k + 1 : Nat) : Int) by omega)); first | done | fail) (by (repeat' first | exact trivial | refine And.intro ?_ ?_ | rfl | exact congrArg (fun z : Int => some (AV.st (.int .i64 z))) (show (k : Int) + 1 = ((k + 1 : Nat) : Int) by omega)); first | done | fail) rfl) ?_
        · show l.length - (k + 1) < l.length - k; omega
        · exact ⟨hk, htk.symm, by omega⟩
end Go.Proofs.YtohmbpcjapjkbaaGreatDoorFn
namespace Go.Proofs.YtohmbpcjapjkbaaGreatDoorFn
open Go.Proofs.YtohmbpcjapjkbaaGreatDoorAl Go.Proofs.Tryz
attribute [local irreducible] IntKind.wrap CodeOk OpsL OpG ACalls thn inBlk rndR cutR WkR Wk fnR DW ExtOk partsOf
/-! ### the document's catalog does as the plain one -/
theorem refOne_ok (l : List NV) (c : Int) (i : Nat) (o : OV) (hi : i < l.length) (hC : CatP l) (hr : reqOk c o = true) (hk : o.kind = 2 ∨ o.kind = 3 ∨ o.kind = 4 ∨ o.kind = 6 ∨ o.kind = 7) (ho : o.fit) :
    ACalls prog 90 2 [.ptr 0 0, I i, .st (.agg (rowO o))] (catH l) fun r h => r = ansS (oneP l i l[i] o).2 ∧ h = catO (oneP l i l[i] o).1 := by
  have hl := catP_len hC
  obtain ⟨ht1, ht2⟩ := reqOk_tot hr
  have hS := hC.one _ (List.getElem_mem hi)
  obtain ⟨_, z2, z3⟩ := hS.small
  have hop : o.path.size ≤ 4000000000 - 1 := ho.2.1
  have hps : ∀ e ∈ l[i].entries, e.path.size ≤ 4000000000 - 1 := fun e he => by have := (z3 e he).1; omega
  have hks : ∀ e ∈ l[i].entries, e.keys.length ≤ 4000000000 := fun e he => by have := (z3 e he).2.1; omega
  rcases hk with h | h | h | h | h
  · have e0 : oneP l i l[i] o = (l.set i (addP l[i] o).1, (addP l[i] o).2) := by unfold oneP; rw [if_pos h]
    rw [e0]
    have hup : l[i].entries.Pairwise fun x y => ltC cmE y x = false := hS.tr.up.imp fun {x y} hxy => by
      rw [ltC_str]
      cases hyx : strLt y.path x.path with
      | false => rfl
      | true => have := strLt_trans hxy hyx; rw [strLt_irrefl] at this; cases this
    have hA : (addP l[i] o).2 = noA (addP l[i] o).2.code := by
      unfold addP
      split
      · rfl
      · split
        · rfl
        · split
          · rfl
          · split <;> rfl
    refine acalls_le (refOne2_ok l _ i o _ hi (by omega) h (refAdd_ok l i o hi (by omega) (by omega) (by omega) (by omega) hps hop hup hS.tr.distinct)) ?_
    have := ansC_le (addP l[i] o).2.code
    rw [← hA] at this
    exact this
  · have e0 : oneP l i l[i] o = if l[i].done = true then (l, noA 6) else (l.set i ⟨l[i].client, l[i].name, true, l[i].entries⟩, noA 0) := by unfold oneP; rw [if_neg (by omega), if_pos h]
    rw [e0]
    by_cases hd : l[i].done = true
    · rw [if_pos hd]
      exact acalls_le (refOne3no_ok l i o hi (by omega) h hd) (ansC_le 6)
    · rw [if_neg hd]
      exact acalls_le (refOne3_ok l i o hi (by omega) h (by simpa using hd)) (ansC_le 0)
  · have e0 : oneP l i l[i] o = if l[i].done = true then (l, noA 6) else (l.eraseIdx i, noA 0) := by unfold oneP; rw [if_neg (by omega), if_neg (by omega), if_pos h]
    rw [e0]
    by_cases hd : l[i].done = true
    · rw [if_pos hd]
      exact acalls_le (refOne4no_ok l i o hi (by omega) h hd) (ansC_le 6)
    · rw [if_neg hd]
      exact acalls_le (refOne4_ok l i o hi (by omega) h (by simpa using hd)) (ansC_le 0)
  · have e0 : oneP l i l[i] o = if l[i].done = false then (l, noA 6) else (l, match l[i].entries.find? fun e => decide (e.path = o.path) with
        | some e => ⟨0, e.size, [], e.keys, []⟩
        | none => noA 3) := by unfold oneP; rw [if_neg (by omega), if_neg (by omega), if_neg (by omega)]; split <;> first | rfl | (rw [if_pos h] <;> rfl)
    rw [e0]
    by_cases hd : l[i].done = false
    · rw [if_pos hd]
      exact acalls_le (refOne6no_ok l i o hi (by omega) h hd) (ansC_le 6)
    · rw [if_neg hd]
      have hlk := refOne6_ok l i o hi (by omega) h (by simpa using hd) (by omega) hks
      unfold lookN at hlk
      cases hfe : l[i].entries.find? fun e => decide (e.path = o.path) with
      | some e =>
        rw [hfe] at hlk
        exact acalls_le hlk (ansK_le _ _)
      | none =>
        rw [hfe] at hlk
        exact acalls_le hlk (ansC_le 3)
  · have e0 : oneP l i l[i] o = if l[i].done = false then (l, noA 6) else (l, ⟨0, 0, [], [], l[i].entries⟩) := by unfold oneP; rw [if_neg (by omega), if_neg (by omega), if_neg (by omega)]; split <;> first | rfl | (rw [if_neg (by omega)] <;> rfl)
    rw [e0]
    by_cases hd : l[i].done = false
    · rw [if_pos hd]
      exact acalls_le (refOne7no_ok l i o hi (by omega) h hd) (ansC_le 6)
    · rw [if_neg hd]
      exact acalls_le (refOne7_ok l i o hi (by omega) h (by simpa using hd) (by omega) hks) (ansP_le _)
theorem refDo_ok (l : List NV) (c : Int) (o : OV) (hC : CatP l) (ho : o.fit) : ACalls prog 50 2 [.ptr 0 0, I c, .st (.agg (rowO o))] (catH l) fun r h => r = ansS (doP l c o).2 ∧ h = catO (doP l c o).1 := by
  have hl := catP_len hC
  cases hr : reqOk c o with
  | false =>
    have e1 : doP l c o = (l, noA 1) := by unfold doP; rw [if_pos hr]
    rw [e1]
    exact acalls_le (refDo_no l c o hr ho) (ansC_le 1)
  | true =>
    obtain ⟨_, hk, _, _, hn, _⟩ := reqOk_parts hr
    have hF0 := refFind_ok l c o.name (by omega)
    have : o.kind = 1 ∨ o.kind = 5 ∨ o.kind = 8 ∨ o.kind = 9 ∨ (o.kind = 2 ∨ o.kind = 3 ∨ o.kind = 4 ∨ o.kind = 6 ∨ o.kind = 7) := by omega
    rcases this with h | h | h | h | h
    · have e1 : doP l c o = ((begP l c o.name).1, noA (begP l c o.name).2) := by
        unfold doP begP
        rw [if_neg (by simp [hr]), if_pos h]
        split
        · rfl
        · split <;> rfl
      rw [e1]
      exact acalls_le (refDo_1 l c o (by omega) h hr ho) (ansC_le _)
    · have e1 : doP l c o = (l, ⟨0, 0, (l.filter (isO c true)).map (·.name), [], []⟩) := by unfold doP; rw [if_neg (by simp [hr]), if_neg (by omega), if_pos h]
      rw [e1]
      exact acalls_le (refDo_5 l c o (by omega) h hr ho) (ansN_le _)
    · have e1 : doP l c o = (remK (isO c true) (goneP l c o.n) l, ⟨0, goneP l c o.n, [], [], []⟩) := by unfold doP; rw [if_neg (by simp [hr]), if_neg (by omega), if_neg (by omega), if_pos h]
      rw [e1]
      exact acalls_le (refDo_8 l _ c o _ h hr ho (refPrune_ok l c o.n hn (by omega))) (ansG_le _)
    · have e1 : doP l c o = (l, ⟨0, 0, [], heldS l, []⟩) := by unfold doP; rw [if_neg (by simp [hr]), if_neg (by omega), if_neg (by omega), if_neg (by omega), if_pos h]
      rw [e1]
      have ha := allS_len hC
      exact acalls_le (refDo_9 l c o _ h hr ho (refHeld_ok l (by omega) (fun s hs => by have := (hC.one s hs).small.2.1; omega) (fun s hs e he => by have := ((hC.one s hs).small.2.2 e he).2.1; omega) (by omega))) (ansH_le _)
    · cases hf : l.findIdx? (isS c o.name) with
      | none =>
        rw [findS_none hf] at hF0
        rw [doP_none hr h hf]
        rcases h with h | h | h | h | h
        · exact acalls_le (refDo_none2 l c o h hr ho hF0) (ansC_le 3)
        · exact acalls_le (refDo_none3 l c o h hr ho hF0) (ansC_le 3)
        · exact acalls_le (refDo_none4 l c o h hr ho hF0) (ansC_le 3)
        · exact acalls_le (refDo_none6 l c o h hr ho hF0) (ansC_le 3)
        · exact acalls_le (refDo_none7 l c o h hr ho hF0) (ansC_le 3)
      | some i =>
        obtain ⟨hi, hfs, _⟩ := findS_some hf
        rw [hfs] at hF0
        rw [doP_some hr h hf hi]
        have hB := refOne_ok l c i o hi hC hr h ho
        rcases h with h | h | h | h | h
        · exact refDo_one2 l _ c o _ i h hr ho hF0 hB
        · exact refDo_one3 l _ c o _ i h hr ho hF0 hB
        · exact refDo_one4 l _ c o _ i h hr ho hF0 hB
        · exact refDo_one6 l _ c o _ i h hr ho hF0 hB
        · exact refDo_one7 l _ c o _ i h hr ho hF0 hB
end Go.Proofs.YtohmbpcjapjkbaaGreatDoorFn
namespace Go.Proofs.YtohmbpcjapjkbaaGreatDoorFn
open Go.Proofs.YtohmbpcjapjkbaaGreatDoorAl Go.Proofs.Tryz
/-! ### what the reference reads -/
theorem refT_le {b : List UInt8} {s : RS} (h : s.at_ ≤ b.length) : (refT b s).2.at_ ≤ b.length ∧ (refT b s).1.size ≤ 4096 := by
  have hn := numM_le (b := b) (s := s) (most := 4096) h
  unfold refT
  simp only
  split
  · exact ⟨hn.1, show mt.size ≤ 4096 by decide⟩
  · rename_i h2
    refine ⟨by show (numM b s 4096).2.at_ + (numM b s 4096).1 ≤ b.length; omega, ?_⟩
    have e2 : (Go.Proofs.YtohmbpcjapjkbaaGreatDoorAl.strOf ((b.drop (numM b s 4096).2.at_).take (numM b s 4096).1)).size = ((b.drop (numM b s 4096).2.at_).take (numM b s 4096).1).length := by simp [Go.Proofs.YtohmbpcjapjkbaaGreatDoorAl.strOf, ByteArray.size]
    rw [e2, List.length_take]; omega
def textsP (b : List UInt8) : Nat → RS → List ByteArray → List ByteArray × RS
  | 0, s, acc => (acc, s)
  | n + 1, s, acc => if s.bad then (acc, s) else textsP b n (refT b s).2 (acc ++ [(refT b s).1])
/-! ### two readers, alike unless something is amiss -/
def Alk {α : Type} (x y : α × RS) : Prop := (x.2.bad = true ∧ y.2.bad = true) ∨ x = y
theorem numM_bad {b : List UInt8} {s : RS} {m : Nat} (h : s.bad = true) : numM b s m = (0, s) := by rw [numM, if_pos h]
theorem numR_bad {b : List UInt8} {s : RS} (h : s.bad = true) : numR b s = (0, s) := by rw [numR, if_pos h]
theorem textR_bad {b : List UInt8} {s : RS} (h : s.bad = true) : textR b s = (mt, s) := by rw [textR, if_pos h]
theorem refT_bad {b : List UInt8} {s : RS} (h : s.bad = true) : (refT b s).2.bad = true := by
  unfold refT
  simp only [numM_bad h, h, true_or, if_true]
theorem textsR_bad' {b : List UInt8} {n : Nat} {s : RS} {acc : List ByteArray} (h : s.bad = true) : textsR b n s acc = (acc, s) := by
  cases n with
  | zero => rfl
  | succ n => rw [textsR, if_pos h]
theorem textsP_bad {b : List UInt8} {n : Nat} {s : RS} {acc : List ByteArray} (h : s.bad = true) : textsP b n s acc = (acc, s) := by
  cases n with
  | zero => rfl
  | succ n => rw [textsP, if_pos h]
theorem txC_eq (b : List UInt8) (s : RS) : Alk (textR b s) (refT b s) := by
  by_cases hs : s.bad = true
  · exact .inl ⟨by rw [textR_bad hs]; exact hs, refT_bad hs⟩
  · have hs' : s.bad = false := by cases h : s.bad <;> simp_all
    unfold textR refT numM
    simp only [hs', Bool.false_eq_true, if_false]
    unfold txC
    cases hg : gnC b s.at_ 4096 with
    | error e => left; simp
    | ok x =>
      obtain ⟨n, q⟩ := x
      simp only [Bool.false_eq_true, false_or]
      by_cases h : b.length < q + n
      · left; simp [h]
      · right; simp [h]
theorem texts_alk (b : List UInt8) : ∀ (n : Nat) (s : RS) (acc : List ByteArray), Alk (textsR b n s acc) (textsP b n s acc)
  | 0, s, acc => .inr rfl
  | n + 1, s, acc => by
    rw [textsR, textsP]
    split
    · exact .inr rfl
    · rcases txC_eq b s with ⟨h1, h2⟩ | h
      · exact .inl ⟨by rw [textsR_bad' h1]; exact h1, by rw [textsP_bad h2]; exact h2⟩
      · rw [h]; exact texts_alk b n _ _
end Go.Proofs.YtohmbpcjapjkbaaGreatDoorFn
namespace Go.Proofs.YtohmbpcjapjkbaaGreatDoorFn
open Go.Proofs.YtohmbpcjapjkbaaGreatDoorAl Go.Proofs.Tryz
attribute [local irreducible] IntKind.wrap CodeOk OpsL OpG ACalls thn inBlk rndR cutR WkR Wk fnR DW ExtOk partsOf
theorem b35 : HasBody prog 35 := ⟨f35, func35, Option.some_ne_none _, by decide⟩
/-! ### a request's bytes, as the document reads them -/
def reqPd (b : List UInt8) : QV × RS :=
  let r1 := numR b ⟨0, false⟩
  let r2 := numR b r1.2
  let r3 := numR b r2.2
  let r4 := numR b r3.2
  let r5 := refT b r4.2
  let r6 := refT b r5.2
  let r7 := numR b r6.2
  let r8 := textsP b r7.1 r7.2 []
  (⟨r1.1, r2.1, ⟨r3.1, r5.1, r6.1, r8.1, r4.1⟩⟩, r8.2)
theorem req_alk (b : List UInt8) : Alk (reqRd b) (reqPd b) := by
  unfold reqRd reqPd
  simp only
  generalize numR b (numR b (numR b (numR b ⟨0, false⟩).2).2).2 = r4
  rcases txC_eq b r4.2 with ⟨h1, h2⟩ | h
  · left
    have h3 := refT_bad (b := b) h2
    simp only [textR_bad h1, numR_bad h1, textsR_bad' h1, numR_bad h3, textsP_bad h3]
    exact ⟨h1, h3⟩
  rw [h]
  rcases txC_eq b (refT b r4.2).2 with ⟨h1, h2⟩ | h
  · left
    simp only [numR_bad h1, textsR_bad' h1, numR_bad h2, textsP_bad h2]
    exact ⟨h1, h2⟩
  rw [h]
  rcases texts_alk b (numR b (refT b (refT b r4.2).2).2).1 (numR b (refT b (refT b r4.2).2).2).2 [] with h1 | h1
  · exact .inl h1
  · right; rw [h1]
theorem getQ_eq (b : List UInt8) : finQ b (reqPd b) = getQ b := by
  unfold getQ
  rcases req_alk b with ⟨h1, h2⟩ | h
  · unfold finQ
    rw [h1, h2]; rfl
  · rw [h]
def getQY : Option QV → AV
  | none => .tuple [.st (.agg zeroQ), B false]
  | some q => .tuple [.st (.agg (rowR q)), B true]
set_option maxHeartbeats 4000000 in
theorem refReqT_ok (q : QV) (ho : q.op.fit) : ACalls prog 69 0 [.st (.agg (rowR q))] [] fun r h => r = B (okQ q) ∧ h = [] := by
  obtain ⟨c, t, o⟩ := q
  have h1 := refOp_ok o ho
  have e : okQ ⟨c, t, o⟩ = (decide (1 ≤ t ∧ t ≤ 1000) && (decide (0 ≤ c ∧ c < 8) && opOk o)) := rfl
  rw [e]
  generalize opOk o = K at *
  obtain ⟨k, nm, p, ks, n⟩ := o
  simp only [rowR, rowQ, rowO] at h1 ⊢
  refine fnC lay_ok func69 rfl rfl rfl rfl rfl ?_
  cases K
  all_goals
    repeat' first | refine stp lay_ok rfl ?_ | refine fin ?_ | refine n_thn ?_ | refine .seq ?_ | refine reg ?_ | refine .ret ?_ | (refine o_none rfl ?_; refine st_pure (h1) b113 rfl rfl rfl rfl ?_) | refine gd rfl rfl rfl (fun hg => ?_) (fun hg => ?_) | fail
    all_goals
      refine f_r [] rfl trivial rfl ⟨?_, rfl⟩
      by_cases g1 : 0 ≤ c ∧ c < 8 <;> by_cases g2 : 1 ≤ t ∧ t ≤ 1000 <;> simp only [decide_eq_true, decide_eq_false, g1, g2, not_false_eq_true, Bool.and_true, Bool.and_false, Bool.true_and, Bool.false_and, and_true, and_false, true_and, false_and, if_true, if_false, and_self, decide_true, decide_false, Bool.false_eq_true]
      all_goals first
        | rfl
        | (exfalso; omega)
        | (simp [retOf, B]; done)
        | (simp [retOf, B]; omega)
        | (simp_all [retOf, B]; done)
set_option maxHeartbeats 4000000 in
theorem refGet8_ok (b : List UInt8) (hb : b.length ≤ 4000000000) : ACalls prog 35 0 [Bs b] [] fun r h => r = getQY (getQ b) ∧ h = [] := by
  have hgp : getQ b = finQ b (reqPd b) := (getQ_eq b).symm
  simp only [reqPd] at hgp
  generalize getQ b = G at *
  have hlb : (List.map rowB b).length = b.length := List.length_map _
  have n1 := refRNum_ok b ⟨0, false⟩ 65536 hb (Nat.zero_le _) (Nat.le_refl _)
  rw [numM_numR] at n1
  have l1 := numR_le (b := b) (s := ⟨0, false⟩) (Nat.zero_le _)
  generalize numR b ⟨0, false⟩ = r1 at *
  obtain ⟨x1, s1⟩ := r1
  simp only at *
  have n2 := refRNum_ok b s1 65536 hb l1.1 (Nat.le_refl _)
  rw [numM_numR] at n2
  have l2 := numR_le (b := b) l1.1
  generalize numR b s1 = r2 at *
  obtain ⟨x2, s2⟩ := r2
  simp only at *
  have n3 := refRNum_ok b s2 65536 hb l2.1 (Nat.le_refl _)
  rw [numM_numR] at n3
  have l3 := numR_le (b := b) l2.1
  generalize numR b s2 = r3 at *
  obtain ⟨x3, s3⟩ := r3
  simp only at *
  have n4 := refRNum_ok b s3 65536 hb l3.1 (Nat.le_refl _)
  rw [numM_numR] at n4
  have l4 := numR_le (b := b) l3.1
  generalize numR b s3 = r4 at *
  obtain ⟨x4, s4⟩ := r4
  simp only at *
  have n5 := refRText_ok b s4 hb l4.1
  have l5 := refT_le (b := b) l4.1
  generalize refT b s4 = r5 at *
  obtain ⟨x5, s5⟩ := r5
  simp only at *
  have n6 := refRText_ok b s5 hb l5.1
  have l6 := refT_le (b := b) l5.1
  generalize refT b s5 = r6 at *
  obtain ⟨x6, s6⟩ := r6
  simp only at *
  have n7 := refRNum_ok b s6 65536 hb l6.1 (Nat.le_refl _)
  rw [numM_numR] at n7
  have l7 := numR_le (b := b) l6.1
  generalize numR b s6 = r7 at *
  obtain ⟨x7, s7⟩ := r7
  simp only at *
  refine ACalls.drop1 (h1 := [(0, getQC G)]) trivial ?_
  refine fnC lay_ok func35 rfl rfl rfl rfl rfl ?_
  repeat' first | refine stp lay_ok rfl ?_ | refine fin ?_ | refine n_thn ?_ | refine .seq ?_ | refine reg ?_ | refine .block ?_ | (refine o_none rfl ?_; (first | refine st_callF 0 (n1) b67 rfl rfl rfl rfl rfl rfl (by (repeat' first | exact trivial | refine And.intro ?_ ?_ | rfl); first | done | fail) rfl ?_ | refine st_callF 0 (n2) b67 rfl rfl rfl rfl rfl rfl (by (repeat' first | exact trivial | refine And.intro ?_ ?_ | rfl); first | done | fail) rfl ?_ | refine st_callF 0 (n3) b67 rfl rfl rfl rfl rfl rfl (by (repeat' first | exact trivial | refine And.intro ?_ ?_ | rfl); first | done | fail) rfl ?_ | refine st_callF 0 (n4) b67 rfl rfl rfl rfl rfl rfl (by (repeat' first | exact trivial | refine And.intro ?_ ?_ | rfl); first | done | fail) rfl ?_ | refine st_callF 0 (n5) b68 rfl rfl rfl rfl rfl rfl (by (repeat' first | exact trivial | refine And.intro ?_ ?_ | rfl); first | done | fail) rfl ?_ | refine st_callF 0 (n6) b68 rfl rfl rfl rfl rfl rfl (by (repeat' first | exact trivial | refine And.intro ?_ ?_ | rfl); first | done | fail) rfl ?_ | refine st_callF 0 (n7) b67 rfl rfl rfl rfl rfl rfl (by (repeat' first | exact trivial | refine And.intro ?_ ?_ | rfl); first | done | fail) rfl ?_)) | fail
  refine CodeOk.wk (Wk.nilC 1 2 5 rfl rfl rfl rfl rfl) (Nat.le_succ _) ?_
  refine nrm rfl rfl ?_
  clear n1 n2 n3 n4 n5 n6 n7
  refine lpR (fun (s, ks, i, f) => s.at_ ≤ b.length ∧ ks.length + f ≤ 65536 ∧ i + f = x7 ∧ textsP b x7 s7 [] = textsP b f s ks) (fun (s, ks, i, f) => f) (fun (s, ks, i, f) => [(7, I i)]) (fun (s, ks, i, f) => [(0, zeroC), (1, rcell b s), (2, .cells [.st (.int .i64 (x1 : Int)), .st (.int .i64 (x2 : Int)), .st (.int .i64 (x3 : Int)), .st (.str x5), .st (.str x6), .lsl 4 1 0 (ks.map rowS).length, .st (.int .i64 (x4 : Int))]), (4, .arr 1 (ks.map rowS))]) ((s7, [], 0, x7)) [0, 2, 4, 5, 6] [0, 1, 2] [3] rfl rfl rfl (.of [3] (by (repeat' first | exact trivial | refine And.intro ?_ ?_ | rfl); first | done | fail) (by (repeat' first | exact trivial | refine And.intro ?_ ?_ | rfl); first | done | fail) rfl) ?_ ?_
  · exact ⟨l7.1, by simp; omega, by omega, rfl⟩
  rintro ⟨⟨q, bad⟩, ks, i, f⟩ ⟨g1, g2, g0, g3⟩
  refine nrm rfl rfl ?_
  rw [g3] at hgp
  have hm : (List.map rowS ks).length = ks.length := List.length_map _
  by_cases hex : f = 0 ∨ bad = true
  · have hsn : textsP b f ⟨q, bad⟩ ks = (ks, ⟨q, bad⟩) := by
      rcases hex with rfl | rfl
      · rfl
      · cases f with
        | zero => rfl
        | succ f => rw [textsP, if_pos rfl]
    rw [hsn] at hgp
    simp only [finQ] at hgp
    cases bad with
    | true =>
      simp only [Bool.true_or, if_true] at hgp
      subst hgp
      repeat' first | refine stp lay_ok rfl ?_ | refine fin ?_ | refine n_thn ?_ | refine e_thn ?_ | refine e_hit ?_ | refine r_thn ?_ | refine e_rr ?_ | refine .seq ?_ | refine reg ?_ | refine .ret ?_ | refine .exit ?_ | refine cndT rfl ?_ | refine cndF rfl ?_ | refine gd rfl rfl rfl (fun hg => ?_) (fun hg => ?_) | fail
      all_goals first
        | (exfalso; omega)
        | (refine f_end (n0 := 1) (t'' := [(2, .ptr 0 0), (3, B false)]) (h'' := [(0, zeroC)]) (WkR.of [0] (by (repeat' first | exact trivial | refine And.intro ?_ ?_ | rfl); first | done | fail) (by (repeat' first | exact trivial | refine And.intro ?_ ?_ | rfl); first | done | fail) rfl) rfl rfl ⟨?_, rfl⟩; rfl)
    | false =>
      have hf0 : f = 0 := by simpa using hex
      subst hf0
      simp only [Bool.false_or, decide_eq_true_eq] at hgp
      by_cases hq : q < b.length
      · rw [if_pos hq] at hgp
        subst hgp
        repeat' first | refine ln ?_ | refine stp lay_ok rfl ?_ | refine fin ?_ | refine n_thn ?_ | refine e_thn ?_ | refine e_hit ?_ | refine r_thn ?_ | refine e_rr ?_ | refine .seq ?_ | refine reg ?_ | refine .block ?_ | refine .skip ?_ | refine .ret ?_ | refine .exit ?_ | refine cndT rfl ?_ | refine cndF rfl ?_ | refine c_dec rfl (fun hc => ?_) (fun hc => ?_) | refine gd rfl rfl rfl (fun hg => ?_) (fun hg => ?_) | fail
        all_goals first
          | (exfalso; omega)
          | (exfalso; simp only at *; omega)
          | (refine f_end (n0 := 1) (t'' := [(2, .ptr 0 0), (3, B false)]) (h'' := [(0, zeroC)]) (WkR.of [0] (by (repeat' first | exact trivial | refine And.intro ?_ ?_ | rfl); first | done | fail) (by (repeat' first | exact trivial | refine And.intro ?_ ?_ | rfl); first | done | fail) rfl) rfl rfl ⟨?_, rfl⟩; rfl)
      · rw [if_neg hq] at hgp
        have hck := refReqT_ok ⟨x1, x2, x3, x5, x6, ks, x4⟩ (okQ_fit _ l5.2 l6.2 (by simp only [Nat.add_zero] at g2; exact g2))
        refine CodeOk.wk (Wk.frz 4 [ 0, 2, 3, 4, 5, 6, 7] rfl rfl rfl (by (repeat' first | exact trivial | refine And.intro ?_ ?_ | rfl); first | done | fail) (by (repeat' first | exact trivial | refine And.intro ?_ ?_ | rfl); first | done | fail) rfl rfl) (Nat.le_refl _) ?_; refine nrm rfl rfl ?_
        cases hok : okQ ⟨x1, x2, x3, x5, x6, ks, x4⟩ <;> rw [hok] at hck hgp
        · simp only [Bool.false_eq_true, if_false] at hgp hck
          subst hgp
          repeat' first | refine ln ?_ | refine stp lay_ok rfl ?_ | refine fin ?_ | refine n_thn ?_ | refine e_thn ?_ | refine e_hit ?_ | refine r_thn ?_ | refine e_rr ?_ | refine .seq ?_ | refine reg ?_ | refine .block ?_ | refine .skip ?_ | refine .ret ?_ | refine .exit ?_ | refine cndT rfl ?_ | refine cndF rfl ?_ | refine c_dec rfl (fun hc => ?_) (fun hc => ?_) | (refine o_none rfl ?_; refine st_pure (hck) b69 rfl rfl rfl rfl ?_) | refine gd rfl rfl rfl (fun hg => ?_) (fun hg => ?_) | fail
          all_goals first
            | (exfalso; omega)
            | (exfalso; simp only at *; omega)
            | (refine f_end (n0 := 1) (t'' := [(2, .ptr 0 0), (3, B false)]) (h'' := [(0, zeroC)]) (WkR.of [0] (by (repeat' first | exact trivial | refine And.intro ?_ ?_ | rfl); first | done | fail) (by (repeat' first | exact trivial | refine And.intro ?_ ?_ | rfl); first | done | fail) rfl) rfl rfl ⟨?_, rfl⟩; rfl)
        · simp only [if_true] at hgp hck
          subst hgp
          repeat' first | refine ln ?_ | refine stp lay_ok rfl ?_ | refine fin ?_ | refine n_thn ?_ | refine e_thn ?_ | refine e_hit ?_ | refine r_thn ?_ | refine e_rr ?_ | refine .seq ?_ | refine reg ?_ | refine .block ?_ | refine .skip ?_ | refine .ret ?_ | refine .exit ?_ | refine cndT rfl ?_ | refine cndF rfl ?_ | refine c_dec rfl (fun hc => ?_) (fun hc => ?_) | (refine o_none rfl ?_; refine st_pure (hck) b69 rfl rfl rfl rfl ?_) | refine gd rfl rfl rfl (fun hg => ?_) (fun hg => ?_) | fail
          all_goals first
            | (exfalso; omega)
            | (exfalso; simp only at *; omega)
            | (refine f_end (n0 := 1) (t'' := [(2, .ptr 0 0), (3, B true)]) (h'' := [(0, getQC (some ⟨x1, x2, x3, x5, x6, ks, x4⟩))]) (WkR.of [0] (by (repeat' first | exact trivial | refine And.intro ?_ ?_ | rfl); first | done | fail) (by (repeat' first | exact trivial | refine And.intro ?_ ?_ | rfl); first | done | fail) rfl) rfl rfl ⟨?_, rfl⟩; rfl)
  · have hbf : bad = false := by cases bad <;> simp_all
    subst hbf
    obtain ⟨f', rfl⟩ : ∃ f', f = f' + 1 := ⟨f - 1, by have : f ≠ 0 := fun h => hex (.inl h); omega⟩
    clear hex
    rw [textsP, if_neg (by simp)] at hgp g3
    have hT := refRText_ok b ⟨q, false⟩ hb g1
    have hle := refT_le (s := ⟨q, false⟩) g1
    generalize refT b ⟨q, false⟩ = r1 at *
    obtain ⟨x, s1⟩ := r1
    simp only at *
    have hr : List.map rowS ks ++ [[SV.str x]] = List.map rowS (ks ++ [x]) := by rw [List.map_append]; rfl
    repeat' first | refine ln ?_ | refine stp lay_ok rfl ?_ | refine fin ?_ | refine n_thn ?_ | refine e_thn ?_ | refine e_hit ?_ | refine r_thn ?_ | refine e_rr ?_ | refine .seq ?_ | refine reg ?_ | refine .block ?_ | refine .skip ?_ | refine .ret ?_ | refine .exit ?_ | refine cndT rfl ?_ | refine cndF rfl ?_ | refine c_dec rfl (fun hc => ?_) (fun hc => ?_) | refine gd rfl rfl rfl (fun hg => ?_) (fun hg => ?_) | fail
    all_goals first
      | (exfalso; omega)
      | skip
    refine dreg [(0, [], [51, 52, 53]), (1, [0], [51, 52, 53]), (2, [0, 1], [51, 52, 53]), (3, [], [48, 49, 50]), (4, [3], [48, 49, 50]), (5, [3, 4], [48, 49, 50]), (6, [0, 1, 2, 3, 4, 5], []), (7, [0, 1, 2, 3, 4, 5, 6], []), (8, [0, 1, 2, 3, 4, 5, 6, 7], []), (9, [0, 1, 2, 3, 4, 5, 6, 7, 8], [])] mixed (by kernel_rfl) ?_
    repeat' first | refine wr (by omega) ?_ | refine stp lay_ok rfl ?_ | refine fin ?_ | refine n_thn ?_ | refine n_blk ?_ | refine reg ?_ | refine dws lay_ok rfl rfl rfl rfl rfl rfl rfl ?_ | refine dwu lay_ok rfl rfl rfl rfl rfl rfl rfl rfl rfl ?_ | refine dw_end ?_ | refine dwg rfl rfl rfl rfl rfl (by (first | refine st_callF 0 (hT) b68 rfl rfl rfl rfl rfl rfl (by (repeat' first | exact trivial | refine And.intro ?_ ?_ | rfl); first | done | fail) rfl ?_ | refine st_append lay_ok rfl rfl rfl rfl rfl rfl rfl rfl (.lsl rfl rfl) .sl rfl (rowS_one (b := [x])) (by simp only [List.length_cons, List.length_nil]; omega) (by simp only [List.length_cons, List.length_nil]; omega) ?_); exact fin rfl) rfl rfl rfl rfl rfl ?_ | fail
    rw [hr]
    refine n_rr ((s1, ks ++ [x], i + 1, f')) ?_ (.of [5] (by (repeat' first | exact trivial | refine And.intro ?_ ?_ | rfl | exact congrArg (fun z : Int => some (AV.st (.int .i64 z))) (show (i : Int) + 1 = ((i + 1 : Nat) : Int) by omega)); first | done | fail) (by (repeat' first | exact trivial | refine And.intro ?_ ?_ | rfl | exact congrArg (fun z : Int => some (AV.st (.int .i64 z))) (show (i : Int) + 1 = ((i + 1 : Nat) : Int) by omega)); first | done | fail) rfl) ?_
    · exact Nat.lt_succ_self _
    · exact ⟨hle.1, by show (ks ++ [x]).length + f' ≤ 65536; rw [List.length_append, List.length_singleton]; omega, by show i + 1 + f' = x7; omega, g3⟩
end Go.Proofs.YtohmbpcjapjkbaaGreatDoorFn
namespace Go.Proofs.YtohmbpcjapjkbaaGreatDoorFn
open Go.Proofs.YtohmbpcjapjkbaaGreatDoorAl Go.Proofs.Tryz
attribute [local irreducible] IntKind.wrap CodeOk OpsL OpG ACalls thn inBlk rndR cutR WkR Wk fnR DW ExtOk partsOf
theorem b20 : HasBody prog 20 := ⟨f20, func20, Option.some_ne_none _, by decide⟩
theorem b21 : HasBody prog 21 := ⟨f21, func21, Option.some_ne_none _, by decide⟩
/-! ### the document's executor -/
def rowA (a : NS) : List SV := [.int .i64 a.code, .int .i64 a.n, .sl 1 (a.names.map rowS), .sl 1 (a.keys.map rowS), .sl 3 (a.entries.map rowE)]
def timesR (z : Nat → LA) : List (List SV) := (List.range 8).map fun i => [SV.int .i64 (z i).time]
def toldR (z : Nat → LA) : List (List SV) := (List.range 8).map fun i => rowA (z i).ans
theorem upd_map {α : Type} (f : LA → α) (z : Nat → LA) (c : Nat) (v : LA) : ((List.range 8).map fun i => f (z i)).set c (f v) = (List.range 8).map fun i => f (upd z c v i) := by
  apply List.ext_getElem?
  intro i
  rw [List.getElem?_set, List.getElem?_map]
  by_cases h : c = i
  · subst h
    by_cases h8 : c < 8
    · simp [h8, upd]
    · simp [h8]
  · rw [if_neg h, List.getElem?_map]
    by_cases h8 : i < 8
    · simp [h8, upd, Ne.symm h]
    · simp [h8]
theorem times_at (z : Nat → LA) {c : Nat} (h : c < 8) : (timesR z)[c]? = some [SV.int .i64 (z c).time] := by simp [timesR, h]
theorem told_at (z : Nat → LA) {c : Nat} (h : c < 8) : (toldR z)[c]? = some (rowA (z c).ans) := by simp [toldR, h]
/-- The document's executor: its catalog (array i), times, answers, bodies (array j). -/
abbrev exM (i j : Nat) (l : List NV) (z : Nat → LA) (bs : List ByteArray) : Heap :=
  [(0, .cells [.ptr 1 0, .lsl 2 1 0 8, .lsl 3 5 0 8, .lsl j 1 0 (bs.map rowS).length]), (1, .cells [.lsl i 4 0 (l.map rowN).length]), (2, .arr 1 (timesR z)), (3, .arr 5 (toldR z)), (i, .arr 4 (l.map rowN)), (j, .arr 1 (bs.map rowS))]
theorem rle_rep {x y : List SV} (h1 : x.length = y.length) (h2 : SLeL x y) : ∀ n, RLe (List.replicate n x) (List.replicate n y)
  | 0 => RLe.nil'
  | n + 1 => RLe.cons' h1 h2 (rle_rep h1 h2 n)
theorem refNew15_ok : ACalls prog 20 0 [] [] fun r h => r = .ptr 0 0 ∧ h = exM 4 5 [] (fun _ => la0) [] := by
  refine fnC lay_ok func20 rfl rfl rfl rfl rfl ?_
  repeat' first | refine stp lay_ok rfl ?_ | refine fin ?_ | refine n_thn ?_ | refine .seq ?_ | refine reg ?_ | fail
  refine dreg [(0, [], [3, 4]), (1, [0], [3, 4]), (2, [], [1, 2, 4]), (3, [], [1, 2, 3]), (4, [0, 1, 2, 3], []), (5, [0, 1, 2, 3, 4], []), (6, [0, 1, 2, 3, 4, 5], [])] mixed (by kernel_rfl) ?_
  repeat' first | refine n_thn ?_ | refine .ret ?_ | refine dws lay_ok rfl rfl rfl rfl rfl rfl rfl ?_ | refine dw_end ?_ | refine dwn lay_ok rfl rfl rfl rfl rfl ?_ | refine dwg rfl rfl rfl rfl rfl (by (first | refine st_makeSlice (m := 8) lay_ok rfl rfl rfl rfl rfl rfl (by omega) (by omega) ?_); exact fin rfl) rfl rfl rfl rfl rfl ?_ | fail
  have hle : RLe (List.replicate 8 [SV.int .i64 0, SV.int .i64 0, SV.nilsl, SV.nilsl, SV.nilsl]) (toldR (fun _ => la0)) :=
    rle_rep (x := [SV.int .i64 0, SV.int .i64 0, SV.nilsl, SV.nilsl, SV.nilsl]) (y := rowA la0.ans) rfl (by repeat' first | exact SLeL.nil | refine SLeL.cons ?_ ?_ | exact SLe.refl _ | exact SLe.nil _) 8
  refine f_end (n0 := 6) (t'' := [(0, .ptr 0 0)]) (h'' := exM 4 5 [] (fun _ => la0) []) (Wk.then (Wk.nilC 4 0 0 rfl rfl rfl rfl rfl) (Wk.then (Wk.nilC 1 3 3 rfl rfl rfl rfl rfl) (Wk.then (Wk.arrLe (rows' := toldR (fun _ => la0)) 2 rfl hle rfl) (WkR.of [3, 0, 1, 2, 4, 5] (by (repeat' first | exact trivial | refine And.intro ?_ ?_ | rfl); first | done | fail) (by (repeat' first | exact trivial | refine And.intro ?_ ?_ | rfl); first | done | fail) rfl)))) rfl rfl ⟨?_, rfl⟩
  rfl
theorem mExNone_ok (l : List NV) (z : Nat → LA) (bs : List ByteArray) (body : ByteArray) (hz : body.size ≤ 4000000000) (hn : bs.length ≤ 4000000000) (hq : getQ (bd body) = none) :
    ACalls prog 21 6 [.ptr 0 0, Sx body] (exM 4 5 l z bs) fun r h => r = .tuple [.st zeroA, B false] ∧ h = exM 7 6 l z (bs ++ [body]) := by
  have hm : (List.map rowS bs).length = bs.length := List.length_map _
  have hg := refGet8_ok (bd body) (by rw [Array.length_toList]; exact hz)
  rw [hq] at hg
  simp only [getQY] at hg
  have hr : List.map rowS bs ++ [[SV.str body]] = List.map rowS (bs ++ [body]) := by rw [List.map_append]; rfl
  refine ACalls.drop1 (h1 := exM 7 6 l z (bs ++ [body]) ++ [(8, zeroB)]) ⟨rfl, rfl, rfl, rfl, rfl, rfl, trivial⟩ ?_
  refine fnC lay_ok func21 rfl rfl rfl rfl rfl ?_
  repeat' first | refine stp lay_ok rfl ?_ | refine fin ?_ | refine n_thn ?_ | refine .seq ?_ | refine reg ?_ | (refine o_none rfl ?_; refine st_append lay_ok rfl rfl rfl rfl rfl rfl rfl rfl (.lsl rfl rfl) .sl rfl (rowS_one (b := [body])) (by simp only [List.length_cons, List.length_nil]; omega) (by simp only [List.length_cons, List.length_nil]; omega) ?_) | fail
  rw [hr]
  repeat' first | refine stp lay_ok rfl ?_ | refine fin ?_ | refine n_thn ?_ | refine .seq ?_ | (refine o_none rfl ?_; (first | refine st_bytesOf lay_ok rfl rfl rfl rfl rfl rfl rfl ?_ | refine st_pure (hg) b35 rfl rfl rfl rfl ?_)) | fail
  refine dreg [(0, [], []), (1, [0], []), (2, [0, 1], []), (3, [0, 1, 2], [30, 31, 32, 33, 34, 35, 36, 37]), (4, [0, 1, 2, 3], [30, 31, 32, 33, 34, 35, 36, 37]), (5, [0, 1, 2], [28, 29, 34, 35]), (6, [0, 1, 2, 5], [28, 29, 34, 35]), (7, [0, 1, 2, 5, 6], [28, 29, 34, 35]), (8, [0, 1, 2, 5, 6, 7], [28, 29, 34, 35]), (9, [0, 1, 2], [28, 29, 30, 31, 32, 33]), (10, [0, 1, 2, 9], [28, 29, 30, 31, 32, 33]), (11, [0, 1, 2, 5, 6, 7, 8, 9, 10], [28, 29]), (12, [0, 1, 2, 5, 6, 7, 8, 9, 10, 11], [28, 29]), (13, [0, 1, 2, 3, 4, 5, 6, 7, 8, 9, 10, 11, 12], []), (14, [0, 1, 2, 3, 4, 5, 6, 7, 8, 9, 10, 11, 12, 13], [])] mixed (by kernel_rfl) ?_
  repeat' first | refine stp lay_ok rfl ?_ | refine fin ?_ | refine n_thn ?_ | refine r_thn ?_ | refine .seq ?_ | refine reg ?_ | refine .ret ?_ | refine cndT rfl ?_ | refine dws lay_ok rfl rfl rfl rfl rfl rfl rfl ?_ | refine dw_end ?_ | refine dw_skip rfl rfl rfl ?_ | fail
  refine f_end (n0 := 9) (t'' := [(4, .ptr 8 0), (5, B false)]) (h'' := [(0, .cells [.ptr 1 0, .lsl 2 1 0 8, .lsl 3 5 0 8, .lsl 6 1 0 ((bs ++ [body]).map rowS).length]), (1, .cells [.lsl 7 4 0 (l.map rowN).length]), (2, .arr 1 (timesR z)), (3, .arr 5 (toldR z)), (7, .arr 4 (l.map rowN)), (6, .arr 1 ((bs ++ [body]).map rowS)), (8, zeroB)]) (WkR.of [7, 4, 6] (by (repeat' first | exact trivial | refine And.intro ?_ ?_ | rfl); first | done | fail) (by (repeat' first | exact trivial | refine And.intro ?_ ?_ | rfl); first | done | fail) rfl) rfl rfl ⟨?_, rfl⟩
  rfl
theorem mExOld_ok (l : List NV) (z : Nat → LA) (bs : List ByteArray) (body : ByteArray) (c : Nat) (t : Int) (o : OV) (hc : c < 8) (hz : body.size ≤ 4000000000) (hn : bs.length ≤ 4000000000) (hq : getQ (bd body) = some ⟨c, t, o⟩) (ht : t ≤ (z c).time) :
    ACalls prog 21 6 [.ptr 0 0, Sx body] (exM 4 5 l z bs) fun r h => r = .tuple [.st zeroA, B false] ∧ h = exM 7 6 l z (bs ++ [body]) := by
  have hm : (List.map rowS bs).length = bs.length := List.length_map _
  have hg := refGet8_ok (bd body) (by rw [Array.length_toList]; exact hz)
  rw [hq] at hg
  obtain ⟨kd, nm, p, oks, n⟩ := o
  simp only [getQY, rowR, rowQ, rowO] at hg
  have hat : (timesR z)[0 + ((c : Nat) : Int).toNat]? = some [SV.int .i64 (z c).time] := by rw [Nat.zero_add, Int.toNat_natCast]; exact times_at z hc
  have hr : List.map rowS bs ++ [[SV.str body]] = List.map rowS (bs ++ [body]) := by rw [List.map_append]; rfl
  refine ACalls.drop1 (h1 := exM 7 6 l z (bs ++ [body]) ++ [(8, zeroB)]) ⟨rfl, rfl, rfl, rfl, rfl, rfl, trivial⟩ ?_
  refine fnC lay_ok func21 rfl rfl rfl rfl rfl ?_
  repeat' first | refine stp lay_ok rfl ?_ | refine fin ?_ | refine n_thn ?_ | refine .seq ?_ | refine reg ?_ | (refine o_none rfl ?_; refine st_append lay_ok rfl rfl rfl rfl rfl rfl rfl rfl (.lsl rfl rfl) .sl rfl (rowS_one (b := [body])) (by simp only [List.length_cons, List.length_nil]; omega) (by simp only [List.length_cons, List.length_nil]; omega) ?_) | fail
  rw [hr]
  repeat' first | refine stp lay_ok rfl ?_ | refine fin ?_ | refine n_thn ?_ | refine .seq ?_ | (refine o_none rfl ?_; (first | refine st_bytesOf lay_ok rfl rfl rfl rfl rfl rfl rfl ?_ | refine st_pure (hg) b35 rfl rfl rfl rfl ?_)) | fail
  refine dreg [(0, [], []), (1, [0], []), (2, [0, 1], []), (3, [0, 1, 2], [30, 31, 32, 33, 34, 35, 36, 37]), (4, [0, 1, 2, 3], [30, 31, 32, 33, 34, 35, 36, 37]), (5, [0, 1, 2], [28, 29, 34, 35]), (6, [0, 1, 2, 5], [28, 29, 34, 35]), (7, [0, 1, 2, 5, 6], [28, 29, 34, 35]), (8, [0, 1, 2, 5, 6, 7], [28, 29, 34, 35]), (9, [0, 1, 2], [28, 29, 30, 31, 32, 33]), (10, [0, 1, 2, 9], [28, 29, 30, 31, 32, 33]), (11, [0, 1, 2, 5, 6, 7, 8, 9, 10], [28, 29]), (12, [0, 1, 2, 5, 6, 7, 8, 9, 10, 11], [28, 29]), (13, [0, 1, 2, 3, 4, 5, 6, 7, 8, 9, 10, 11, 12], []), (14, [0, 1, 2, 3, 4, 5, 6, 7, 8, 9, 10, 11, 12, 13], [])] mixed (by kernel_rfl) ?_
  repeat' first | refine stp lay_ok rfl ?_ | refine fin ?_ | refine n_thn ?_ | refine r_thn ?_ | refine .seq ?_ | refine reg ?_ | refine .skip ?_ | refine .ret ?_ | refine c_dec rfl (fun hc => ?_) (fun hc => ?_) | refine dws lay_ok rfl rfl rfl rfl rfl rfl rfl ?_ | refine dw_end ?_ | refine dwb rfl rfl rfl rfl rfl (by (first | refine st_indexL lay_ok rfl rfl rfl rfl (by omega) (by omega) ?_ | refine st_loadE [SV.int .i64 (z c).time] lay_ok rfl rfl rfl hat rfl rfl rfl ?_); exact fin rfl) rfl rfl ?_ | fail
  all_goals first
    | (exfalso; omega)
    | skip
  refine f_end (n0 := 9) (t'' := [(4, .ptr 8 0), (5, B false)]) (h'' := [(0, .cells [.ptr 1 0, .lsl 2 1 0 8, .lsl 3 5 0 8, .lsl 6 1 0 ((bs ++ [body]).map rowS).length]), (1, .cells [.lsl 7 4 0 (l.map rowN).length]), (2, .arr 1 (timesR z)), (3, .arr 5 (toldR z)), (7, .arr 4 (l.map rowN)), (6, .arr 1 ((bs ++ [body]).map rowS)), (8, zeroB)]) (WkR.of [7, 4, 6] (by (repeat' first | exact trivial | refine And.intro ?_ ?_ | rfl); first | done | fail) (by (repeat' first | exact trivial | refine And.intro ?_ ?_ | rfl); first | done | fail) rfl) rfl rfl ⟨?_, rfl⟩
  rfl
set_option maxHeartbeats 4000000 in
theorem mExNew_ok (l : List NV) (z : Nat → LA) (bs : List ByteArray) (body : ByteArray) (c : Nat) (t : Int) (o : OV) (hC : CatP l) (ho : o.fit) (hc : c < 8) (hz : body.size ≤ 4000000000) (hn : bs.length ≤ 4000000000) (hq : getQ (bd body) = some ⟨c, t, o⟩) (ht : ¬ t ≤ (z c).time) :
    ACalls prog 21 6 [.ptr 0 0, Sx body] (exM 4 5 l z bs) fun r h => r = .tuple [ansS (doP l c o).2, B true] ∧ h = exM 7 6 (doP l c o).1 (upd z c ⟨t, (doP l c o).2⟩) (bs ++ [body]) := by
  have hm : (List.map rowS bs).length = bs.length := List.length_map _
  have hg := refGet8_ok (bd body) (by rw [Array.length_toList]; exact hz)
  rw [hq] at hg
  have hdo := refDo_ok l c o hC ho
  generalize doP l c o = R at *
  obtain ⟨l2, a⟩ := R
  simp only at hdo
  obtain ⟨kd, nm, p, oks, n⟩ := o
  simp only [getQY, rowR, rowQ, rowO] at hg hdo
  have hat : (timesR z)[0 + ((c : Nat) : Int).toNat]? = some [SV.int .i64 (z c).time] := by rw [Nat.zero_add, Int.toNat_natCast]; exact times_at z hc
  have hat2 : (toldR z)[0 + ((c : Nat) : Int).toNat]? = some (rowA (z c).ans) := by rw [Nat.zero_add, Int.toNat_natCast]; exact told_at z hc
  have hs1 : (timesR z).set (0 + ((c : Nat) : Int).toNat) (putAt [SV.int .i64 (z c).time] 0 (svCells (SV.int .i64 t))) = timesR (upd z c ⟨t, a⟩) := by
    rw [Nat.zero_add, Int.toNat_natCast]; exact upd_map (fun x => [SV.int .i64 x.time]) z c ⟨t, a⟩
  have hs2 : (toldR z).set (0 + ((c : Nat) : Int).toNat) (putAt (rowA (z c).ans) 0 (svCells (SV.agg [SV.int .i64 a.code, SV.int .i64 a.n, SV.sl 1 (a.names.map rowS), SV.sl 1 (a.keys.map rowS), SV.sl 3 (a.entries.map rowE)]))) = toldR (upd z c ⟨t, a⟩) := by
    rw [Nat.zero_add, Int.toNat_natCast]; exact upd_map (fun x => rowA x.ans) z c ⟨t, a⟩
  have hr : List.map rowS bs ++ [[SV.str body]] = List.map rowS (bs ++ [body]) := by rw [List.map_append]; rfl
  refine ACalls.drop1 (h1 := exM 7 6 l2 (upd z c ⟨t, a⟩) (bs ++ [body]) ++ [(8, ansB a)]) ⟨rfl, rfl, rfl, rfl, rfl, rfl, trivial⟩ ?_
  refine fnC lay_ok func21 rfl rfl rfl rfl rfl ?_
  repeat' first | refine stp lay_ok rfl ?_ | refine fin ?_ | refine n_thn ?_ | refine .seq ?_ | refine reg ?_ | (refine o_none rfl ?_; refine st_append lay_ok rfl rfl rfl rfl rfl rfl rfl rfl (.lsl rfl rfl) .sl rfl (rowS_one (b := [body])) (by simp only [List.length_cons, List.length_nil]; omega) (by simp only [List.length_cons, List.length_nil]; omega) ?_) | fail
  rw [hr]
  repeat' first | refine stp lay_ok rfl ?_ | refine fin ?_ | refine n_thn ?_ | refine .seq ?_ | (refine o_none rfl ?_; (first | refine st_bytesOf lay_ok rfl rfl rfl rfl rfl rfl rfl ?_ | refine st_pure (hg) b35 rfl rfl rfl rfl ?_)) | fail
  refine dreg [(0, [], []), (1, [0], []), (2, [0, 1], []), (3, [0, 1, 2], [30, 31, 32, 33, 34, 35, 36, 37]), (4, [0, 1, 2, 3], [30, 31, 32, 33, 34, 35, 36, 37]), (5, [0, 1, 2], [28, 29, 34, 35]), (6, [0, 1, 2, 5], [28, 29, 34, 35]), (7, [0, 1, 2, 5, 6], [28, 29, 34, 35]), (8, [0, 1, 2, 5, 6, 7], [28, 29, 34, 35]), (9, [0, 1, 2], [28, 29, 30, 31, 32, 33]), (10, [0, 1, 2, 9], [28, 29, 30, 31, 32, 33]), (11, [0, 1, 2, 5, 6, 7, 8, 9, 10], [28, 29]), (12, [0, 1, 2, 5, 6, 7, 8, 9, 10, 11], [28, 29]), (13, [0, 1, 2, 3, 4, 5, 6, 7, 8, 9, 10, 11, 12], []), (14, [0, 1, 2, 3, 4, 5, 6, 7, 8, 9, 10, 11, 12, 13], [])] mixed (by kernel_rfl) ?_
  repeat' first | refine stp lay_ok rfl ?_ | refine fin ?_ | refine n_thn ?_ | refine r_thn ?_ | refine .seq ?_ | refine reg ?_ | refine .skip ?_ | refine .ret ?_ | refine c_dec rfl (fun hc => ?_) (fun hc => ?_) | refine dws lay_ok rfl rfl rfl rfl rfl rfl rfl ?_ | refine dw_end ?_ | refine dwb rfl rfl rfl rfl rfl (by (first | refine st_indexL lay_ok rfl rfl rfl rfl (by omega) (by omega) ?_ | refine st_loadE [SV.int .i64 (z c).time] lay_ok rfl rfl rfl hat rfl rfl rfl ?_); exact fin rfl) rfl rfl ?_ | fail
  all_goals first
    | (exfalso; omega)
    | skip
  refine dreg [(0, [], [45, 46, 47, 48, 8]), (1, [0], [45, 46, 47, 48, 8]), (2, [0, 1], [45, 46, 47, 48, 8]), (3, [0, 1, 2], [45, 46, 47, 48, 8]), (4, [], [41, 42, 43, 44, 47, 48, 8]), (5, [4], [41, 42, 43, 44, 47, 48, 8]), (6, [], [41, 42, 43, 44, 45, 46, 8]), (7, [6], [41, 42, 43, 44, 45, 46, 8]), (8, [0, 1, 2, 3, 4, 5, 6, 7], [8]), (9, [], [41, 42, 43, 44, 45, 46, 47, 48, 49]), (10, [0, 1, 2, 3, 4, 5, 6, 7, 8, 9], [])] mixed (by kernel_rfl) ?_
  repeat' first | refine n_thn ?_ | refine .seq ?_ | refine dws lay_ok rfl rfl rfl rfl rfl rfl rfl ?_ | refine dwu lay_ok rfl rfl rfl rfl rfl rfl rfl rfl rfl ?_ | refine dw_end ?_ | refine dwn lay_ok rfl rfl rfl rfl rfl ?_ | refine dwG [1,4] rfl rfl rfl rfl (by refine st_callG [1,4] 1 (hdo) b50 rfl rfl rfl rfl rfl (by (repeat' first | exact trivial | refine And.intro ?_ ?_ | rfl); first | done | fail) rfl ?_; exact fin rfl) rfl rfl rfl rfl rfl ?_ | fail
  refine dreg [(0, [], [54, 55, 56, 57]), (1, [0], [54, 55, 56, 57]), (2, [0, 1], [54, 55, 56, 57]), (3, [0, 1, 2], [54, 55, 56, 57]), (4, [], [50, 51, 52, 53, 56, 57]), (5, [4], [50, 51, 52, 53, 56, 57]), (6, [], [50, 51, 52, 53, 54, 55]), (7, [6], [50, 51, 52, 53, 54, 55]), (8, [0, 1, 2, 3, 4, 5, 6, 7], []), (9, [0, 1, 2, 3, 4, 5, 6, 7, 8], [])] mixed (by kernel_rfl) ?_
  repeat' first | refine n_thn ?_ | refine .seq ?_ | refine dws lay_ok rfl rfl rfl rfl rfl rfl rfl ?_ | refine dw_end ?_ | refine dwb rfl rfl rfl rfl rfl (by (first | refine st_indexL lay_ok rfl rfl rfl rfl (by omega) (by omega) ?_); exact fin rfl) rfl rfl ?_ | refine dwv rfl rfl rfl rfl (by refine st_storeE lay_ok rfl rfl rfl hat rfl rfl rfl rfl ?_; exact fin rfl) rfl rfl rfl rfl ?_ | fail
  rw [hs1]
  refine dreg [(0, [], [63, 64, 65]), (1, [0], [63, 64, 65]), (2, [0, 1], [63, 64, 65]), (3, [0, 1, 2], [63, 64, 65]), (4, [], [59, 60, 61, 62, 65]), (5, [4], [59, 60, 61, 62, 65]), (6, [], [59, 60, 61, 62, 63, 64]), (7, [0, 1, 2, 3, 4, 5, 6], []), (8, [0, 1, 2, 3, 4, 5, 6, 7], [])] mixed (by kernel_rfl) ?_
  repeat' first | refine stp lay_ok rfl ?_ | refine fin ?_ | refine n_thn ?_ | refine .seq ?_ | refine reg ?_ | refine .ret ?_ | refine dws lay_ok rfl rfl rfl rfl rfl rfl rfl ?_ | refine dw_end ?_ | refine dwb rfl rfl rfl rfl rfl (by (first | refine st_indexL lay_ok rfl rfl rfl rfl (by omega) (by omega) ?_); exact fin rfl) rfl rfl ?_ | refine dwv rfl rfl rfl rfl (by refine st_storeE lay_ok rfl rfl rfl hat2 rfl rfl rfl rfl ?_; exact fin rfl) rfl rfl rfl rfl ?_ | fail
  rw [hs2]
  skip
  refine f_end (n0 := 9) (t'' := [(4, .ptr 8 0), (5, B true)]) (h'' := [(0, .cells [.ptr 1 0, .lsl 2 1 0 8, .lsl 3 5 0 8, .lsl 6 1 0 ((bs ++ [body]).map rowS).length]), (1, .cells [.lsl 7 4 0 (l2.map rowN).length]), (2, .arr 1 (timesR (upd z c ⟨t, a⟩))), (3, .arr 5 (toldR (upd z c ⟨t, a⟩))), (7, .arr 4 (l2.map rowN)), (6, .arr 1 ((bs ++ [body]).map rowS)), (8, ansB a)]) (WkR.of [7, 9, 6] (by (repeat' first | exact trivial | refine And.intro ?_ ?_ | rfl); first | done | fail) (by (repeat' first | exact trivial | refine And.intro ?_ ?_ | rfl); first | done | fail) rfl) rfl rfl ⟨?_, rfl⟩
  rfl
end Go.Proofs.YtohmbpcjapjkbaaGreatDoorFn
namespace Go.Proofs.YtohmbpcjapjkbaaGreatDoorFn
open Go.Proofs.YtohmbpcjapjkbaaGreatDoorAl Go.Proofs.Tryz
attribute [local irreducible] IntKind.wrap CodeOk OpsL OpG ACalls thn inBlk rndR cutR WkR Wk fnR DW ExtOk partsOf
/-! ### what a body brings about -/
/-- An executor, but for its bodies. -/
structure XS where
  l : List NV
  b : Bool
  z : Nat → LA
def exD (s : XS) (body : ByteArray) : XS × Option NS := match getQ (bd body) with
  | none => (s, none)
  | some q => if q.time ≤ (s.z q.client.toNat).time then (s, none)
    else (⟨(doP s.l q.client q.op).1, doB s.l s.b q.client q.op, upd s.z q.client.toNat ⟨q.time, (doP s.l q.client q.op).2⟩⟩, some (doP s.l q.client q.op).2)
def exA : Option NS → AV
  | none => .tuple [.st zeroA, B false]
  | some a => .tuple [ansS a, B true]
/-- What always holds. -/
structure XP (s : XS) : Prop where
  cat : CatP s.l
  bnil : s.b = true → s.l = []
  fit : ∀ c, (s.z c).ans.fit
theorem textsR_len (b : List UInt8) : ∀ (n : Nat) (s : RS) (acc : List ByteArray), (textsR b n s acc).1.length ≤ acc.length + n
  | 0, s, acc => by rw [textsR]; exact Nat.le_add_right _ _
  | n + 1, s, acc => by
    rw [textsR]
    split
    · exact Nat.le_add_right _ _
    · have := textsR_len b n (textR b s).2 (acc ++ [(textR b s).1])
      rw [List.length_append, List.length_singleton] at this; omega
theorem getQ_fit {b : List UInt8} {q : QV} (h : getQ b = some q) : q.op.fit := by
  unfold getQ finQ at h
  split at h
  · cases h
  split at h
  case isFalse => cases h
  cases h
  have l1 := numR_le (b := b) (s := ⟨0, false⟩) (Nat.zero_le _)
  have l2 := numR_le (b := b) l1.1
  have l3 := numR_le (b := b) l2.1
  have l4 := numR_le (b := b) l3.1
  have l5 := textR_le (b := b) l4.1
  have l6 := textR_le (b := b) l5.1
  have l7 := numR_le (b := b) l6.1
  have l8 := textsR_len b (numR b (textR b (textR b (numR b (numR b (numR b (numR b ⟨0, false⟩).2).2).2).2).2).2).1 (numR b (textR b (textR b (numR b (numR b (numR b (numR b ⟨0, false⟩).2).2).2).2).2).2).2 []
  simp only [List.length_nil, Nat.zero_add] at l8
  exact ⟨Nat.le_trans l5.2 (by decide), Nat.le_trans l6.2 (by decide), Nat.le_trans l8 (Nat.le_trans l7.2 (by decide))⟩
theorem okQ_client {q : QV} (h : okQ q = true) : (0 ≤ q.client ∧ q.client < 8) ∧ 1 ≤ q.time := by
  unfold okQ at h
  rw [Bool.and_eq_true, decide_eq_true_eq] at h
  have h2 := h.2
  unfold reqOk at h2
  rw [Bool.and_eq_true, decide_eq_true_eq] at h2
  exact ⟨h2.1, h.1.1⟩
theorem exD_inv {s : XS} (body : ByteArray) (h : XP s) : XP (exD s body).1 := by
  unfold exD
  split
  · exact h
  split
  · exact h
  · refine ⟨doP_cat _ _ h.cat, fun e => doB_nil h.bnil e, fun c => ?_⟩
    show (upd s.z _ _ c).ans.fit
    unfold upd
    split
    · exact doP_fit _ _ h.cat
    · exact h.fit c
theorem la0_fit : la0.ans.fit := ⟨by simp [la0, noA], by simp [la0, noA], by simp [la0, noA], by simp [la0, noA]⟩
def xs0 : XS := ⟨[], false, fun _ => la0⟩
theorem xp0 : XP xs0 := ⟨catP_nil, by simp [xs0], fun _ => la0_fit⟩
theorem execDo_ok (s : XS) (bs : List ByteArray) (body : ByteArray) (hs : XP s) (hz : body.size ≤ 4000000000) (hn : bs.length ≤ 4000000000) :
    ACalls prog 16 4 [.ptr 0 0, Sx body] (exX 2 3 s.l s.b s.z bs) fun r h => r = exA (exD s body).2 ∧ h = exX 5 4 (exD s body).1.l (exD s body).1.b (exD s body).1.z (bs ++ [body]) := by
  obtain ⟨l, b, z⟩ := s
  obtain ⟨h1, h2, h3⟩ := hs
  simp only at h1 h2 h3
  unfold exD
  cases hq : getQ (bd body) with
  | none => exact exNone_ok l b z bs body hz hn hq
  | some q =>
    have hc := (okQ_client (getQ_ok hq)).1
    have ho := getQ_fit hq
    obtain ⟨c, t, o⟩ := q
    simp only at hc ho ⊢
    obtain ⟨c, rfl⟩ : ∃ c' : Nat, c = c' := ⟨c.toNat, by omega⟩
    rw [Int.toNat_natCast]
    by_cases ht : t ≤ (z c).time
    · rw [if_pos ht]
      exact exOld_ok c (by omega) l b z bs body t o hz hn hq ht
    · rw [if_neg ht]
      exact exNew_ok c (by omega) l b z bs body t o h2 h1 ho hz hn hq ht
theorem mExDo_ok (s : XS) (bs : List ByteArray) (body : ByteArray) (hs : XP s) (hz : body.size ≤ 4000000000) (hn : bs.length ≤ 4000000000) :
    ACalls prog 21 6 [.ptr 0 0, Sx body] (exM 4 5 s.l s.z bs) fun r h => r = exA (exD s body).2 ∧ h = exM 7 6 (exD s body).1.l (exD s body).1.z (bs ++ [body]) := by
  obtain ⟨l, b, z⟩ := s
  obtain ⟨h1, h2, h3⟩ := hs
  simp only at h1 h2 h3
  unfold exD
  cases hq : getQ (bd body) with
  | none => exact mExNone_ok l z bs body hz hn hq
  | some q =>
    have hc := (okQ_client (getQ_ok hq)).1
    have ho := getQ_fit hq
    obtain ⟨c, t, o⟩ := q
    simp only at hc ho ⊢
    obtain ⟨c, rfl⟩ : ∃ c' : Nat, c = c' := ⟨c.toNat, by omega⟩
    rw [Int.toNat_natCast]
    by_cases ht : t ≤ (z c).time
    · rw [if_pos ht]
      exact mExOld_ok l z bs body c t o (by omega) hz hn hq ht
    · rw [if_neg ht]
      exact mExNew_ok l z bs body c t o h1 ho (by omega) hz hn hq ht
end Go.Proofs.YtohmbpcjapjkbaaGreatDoorFn
namespace Go.Proofs.YtohmbpcjapjkbaaGreatDoorFn
open Go.Proofs.YtohmbpcjapjkbaaGreatDoorAl Go.Proofs.Tryz
attribute [local irreducible] IntKind.wrap CodeOk OpsL OpG ACalls thn inBlk rndR cutR WkR Wk fnR DW ExtOk partsOf
end Go.Proofs.YtohmbpcjapjkbaaGreatDoorFn
namespace Go.Proofs.YtohmbpcjapjkbaaGreatDoorFn
open Go.Proofs.YtohmbpcjapjkbaaGreatDoorAl Go.Proofs.Tryz
attribute [local irreducible] IntKind.wrap CodeOk OpsL OpG ACalls thn inBlk rndR cutR WkR Wk fnR DW ExtOk partsOf
end Go.Proofs.YtohmbpcjapjkbaaGreatDoorFn
namespace Go.Proofs.YtohmbpcjapjkbaaGreatDoorFn
open Go.Proofs.YtohmbpcjapjkbaaGreatDoorAl Go.Proofs.Tryz Go.ChangeAt Go.RowKit
/-! ### what arguments of the laws' types read as -/
abbrev ΦI (xs : List SV) : Prop := ∃ n, xs = [.int .i64 n] ∧ (Lit.int .i64 n).wf = true
theorem rdI : Rd prog 3 ΦI := rd_int underlying3
abbrev ΦS (xs : List SV) : Prop := ∃ s : ByteArray, xs = [.str s] ∧ s.size ≤ reachBytes
theorem rdS : Rd prog 9 ΦS := rd_str underlying9
abbrev ΦL (sz bytes : Nat) (Φ : List SV → Prop) (xs : List SV) : Prop := ∃ rows, xs = [.sl sz rows] ∧ (∀ row ∈ rows, Φ row) ∧ rows.length * bytes ≤ reachBytes
theorem rdLS : Rd prog 22 (ΦL 1 16 ΦS) := rd_slice underlying22 (by kernel_rfl) (by kernel_rfl) rfl rdS
theorem ofSs {rows : List (List SV)} (h : ∀ row ∈ rows, ΦS row) : ∃ l : List ByteArray, rows = l.map rowS ∧ ∀ s ∈ l, s.size ≤ reachBytes :=
  rows_map (f := rowS) (Ok := fun s => s.size ≤ reachBytes) h
/-! ### files and cuts -/
end Go.Proofs.YtohmbpcjapjkbaaGreatDoorFn
namespace Go.Proofs.YtohmbpcjapjkbaaGreatDoorFn
open Go.Proofs.YtohmbpcjapjkbaaGreatDoorAl Go.Proofs.Tryz
attribute [local irreducible] IntKind.wrap CodeOk OpsL OpG ACalls thn inBlk rndR cutR WkR Wk fnR DW ExtOk partsOf
end Go.Proofs.YtohmbpcjapjkbaaGreatDoorFn
namespace Go.Proofs.YtohmbpcjapjkbaaGreatDoorFn
open Go.Proofs.YtohmbpcjapjkbaaGreatDoorAl Go.Proofs.Tryz
attribute [local irreducible] IntKind.wrap CodeOk OpsL OpG ACalls thn inBlk rndR cutR WkR Wk fnR DW ExtOk partsOf
end Go.Proofs.YtohmbpcjapjkbaaGreatDoorFn
namespace Go.Proofs.YtohmbpcjapjkbaaGreatDoorFn
open Go.Proofs.YtohmbpcjapjkbaaGreatDoorAl Go.Proofs.Tryz
attribute [local irreducible] IntKind.wrap CodeOk OpsL OpG ACalls thn inBlk rndR cutR WkR Wk fnR DW ExtOk partsOf
theorem b73 : HasBody prog 73 := ⟨f73, func73, Option.some_ne_none _, by decide⟩
end Go.Proofs.YtohmbpcjapjkbaaGreatDoorFn
namespace Go.Proofs.YtohmbpcjapjkbaaGreatDoorFn
open Go.Proofs.YtohmbpcjapjkbaaGreatDoorAl Go.Proofs.Tryz
attribute [local irreducible] IntKind.wrap CodeOk OpsL OpG ACalls thn inBlk rndR cutR WkR Wk fnR DW ExtOk partsOf
theorem refNumO_ok (n0 : Nat) (hn : n0 < 2 ^ 64) : ACalls prog 78 0 [.st (.int .u64 (IntKind.u64.wrap (n0 : Int)))] [] fun r h => r = .lsl 0 1 0 ((numL n0).map rowB).length ∧ h = [(0, .arr 1 ((numL n0).map rowB))] := by
  rw [u64wrap n0 hn]
  refine fnC lay_ok func78 rfl rfl rfl rfl rfl ?_
  repeat' first | refine stp lay_ok rfl ?_ | refine fin ?_ | refine n_thn ?_ | refine .seq ?_ | refine reg ?_ | refine .block ?_ | fail
  refine CodeOk.wk (Wk.nilT 1 3 rfl rfl) (Nat.le_succ _) ?_
  refine nrm rfl rfl ?_
  refine lpR (fun (out, n, f) => numL n0 = out ++ numF (f + 1) n ∧ n < 128 ^ (f + 1) ∧ f ≤ 9 ∧ n < 2 ^ 64 ∧ out.length + f = 9) (fun (out, n, f) => f) (fun (out, n, f) => [(0, U n), (3, .lsl 1 1 0 (out.map rowB).length)]) (fun (out, n, f) => [(1, .arr 1 (out.map rowB))]) (([], n0, 9)) [] [] [0] rfl rfl rfl (.of [0] (by (repeat' first | exact trivial | refine And.intro ?_ ?_ | rfl); first | done | fail) (by (repeat' first | exact trivial | refine And.intro ?_ ?_ | rfl); first | done | fail) rfl) ?_ ?_
  · refine ⟨rfl, ?_, Nat.le_refl _, hn, rfl⟩
    omega
  rintro ⟨out, n, f⟩ ⟨h1, h2, h3, h4, h5⟩
  refine nrm rfl rfl ?_
  have hm : (List.map rowB out).length = out.length := List.length_map _
  by_cases hge : 128 ≤ n
  · have hf : f ≠ 0 := by rintro rfl; omega
    obtain ⟨f', rfl⟩ : ∃ f', f = f' + 1 := ⟨f - 1, by omega⟩
    have hrem := rem128 n
    have hquo := quo128 n h4
    have hr : ∀ x : UInt8, List.map rowB out ++ [[SV.int .u8 (x.toNat : Int)]] = List.map rowB (out ++ [x]) := fun x => by rw [List.map_append]; rfl
    repeat' first | refine stp lay_ok rfl ?_ | refine fin ?_ | refine n_thn ?_ | refine e_thn ?_ | refine e_hit ?_ | refine e_rr ?_ | refine .seq ?_ | refine reg ?_ | refine .block ?_ | refine .skip ?_ | refine .exit ?_ | refine c_dec rfl (fun hc => ?_) (fun hc => ?_) | (refine o_none rfl ?_; refine st_div rfl rfl hrem (by decide) ?_) | fail
    · rw [val128]
      repeat' first | refine stp lay_ok rfl ?_ | refine fin ?_ | refine n_thn ?_ | refine n_blk ?_ | refine reg ?_ | (refine o_none rfl ?_; (first | refine st_div rfl rfl hquo (by decide) ?_ | refine st_append lay_ok rfl rfl rfl rfl rfl rfl rfl rfl (.lsl rfl rfl) .sl rfl (rowB_one (b := [UInt8.ofNat (n % 128 + 128)])) (by simp only [List.length_cons, List.length_nil]; omega) (by simp only [List.length_cons, List.length_nil]; omega) ?_)) | fail
      rw [hr]
      refine n_rr ((out ++ [UInt8.ofNat (n % 128 + 128)], n / 128, f')) ?_ (.of [2] (by (repeat' first | exact trivial | refine And.intro ?_ ?_ | rfl); first | done | fail) (by (repeat' first | exact trivial | refine And.intro ?_ ?_ | rfl); first | done | fail) rfl) ?_
      · exact Nat.lt_succ_self _
      · refine ⟨?_, ?_, by omega, by omega, ?_⟩
        · rw [h1, numF, if_pos hge, List.append_assoc]; rfl
        · rw [Nat.pow_succ] at h2; omega
        · simp; omega
    · exfalso; omega
  · have hend : numL n0 = out ++ [UInt8.ofNat n] := by rw [h1, numF, if_neg hge]
    have hr : List.map rowB out ++ [[SV.int .u8 (IntKind.u8.wrap (n : Int))]] = List.map rowB (numL n0) := by rw [hend, List.map_append, u8wrap]; rfl
    repeat' first | refine stp lay_ok rfl ?_ | refine fin ?_ | refine n_thn ?_ | refine e_thn ?_ | refine e_hit ?_ | refine e_rr ?_ | refine .seq ?_ | refine reg ?_ | refine .block ?_ | refine .skip ?_ | refine .ret ?_ | refine .exit ?_ | refine c_dec rfl (fun hc => ?_) (fun hc => ?_) | (refine o_none rfl ?_; refine st_append lay_ok rfl rfl rfl rfl rfl rfl rfl rfl (.lsl rfl rfl) .sl rfl (rowW_one n) (by simp only [List.length_cons, List.length_nil]; omega) (by simp only [List.length_cons, List.length_nil]; omega) ?_) | fail
    · exfalso; omega
    · rw [hr]
      refine f_end (n0 := 1) (t'' := [(2, .lsl 0 1 0 ((numL n0).map rowB).length)]) (h'' := [(0, .arr 1 ((numL n0).map rowB))]) (WkR.of [2] (by (repeat' first | exact trivial | refine And.intro ?_ ?_ | rfl); first | done | fail) (by (repeat' first | exact trivial | refine And.intro ?_ ?_ | rfl); first | done | fail) rfl) rfl rfl ⟨?_, rfl⟩
      rfl
theorem refNumW_ok (n : Nat) (h : n < 2 ^ 64) : ACalls prog 78 0 [.st (.int .u64 (IntKind.u64.wrap (n : Int)))] [] fun r h => r = Bs (numL n) ∧ h = [] := by
  rw [u64wrap n h]; exact refNum_ok n h
theorem refText_ok (s : ByteArray) (hs : s.size ≤ 3000000000) : ACalls prog 73 0 [Sx s] [] fun r h => r = Bs (textL s) ∧ h = [] := by
  have hn := refNumO_ok s.size (by omega)
  have hl := numF_len 10 s.size
  have hm : ((numL s.size).map rowB).length ≤ 10 := by rw [List.length_map]; exact hl
  have hr : (numL s.size).map rowB ++ s.data.toList.map rowB = (textL s).map rowB := by rw [← List.map_append, textL]
  refine fnC lay_ok func73 rfl rfl rfl rfl rfl ?_
  repeat' first | refine stp lay_ok rfl ?_ | refine fin ?_ | refine n_thn ?_ | refine .seq ?_ | refine reg ?_ | refine .ret ?_ | (refine o_none rfl ?_; (first | refine st_callF 1 (hn) b78 rfl rfl rfl rfl rfl rfl (by (repeat' first | exact trivial | refine And.intro ?_ ?_ | rfl); first | done | fail) rfl ?_ | refine st_appendS lay_ok rfl rfl rfl rfl rfl rfl rfl rfl (.lsl rfl rfl) rfl (by omega) (by omega) ?_)) | fail
  rw [hr]
  refine f_end (n0 := 0) (t'' := [(2, Bs (textL s))]) (h'' := []) (Wk.then (Wk.frz 1 [2] rfl rfl rfl (by (repeat' first | exact trivial | refine And.intro ?_ ?_ | rfl); first | done | fail) (by (repeat' first | exact trivial | refine And.intro ?_ ?_ | rfl); first | done | fail) rfl rfl) (WkR.of [] (by (repeat' first | exact trivial | refine And.intro ?_ ?_ | rfl); first | done | fail) (by (repeat' first | exact trivial | refine And.intro ?_ ?_ | rfl); first | done | fail) rfl)) rfl rfl ⟨?_, rfl⟩
  rfl
end Go.Proofs.YtohmbpcjapjkbaaGreatDoorFn
namespace Go.Proofs.YtohmbpcjapjkbaaGreatDoorFn
open Go.Proofs.YtohmbpcjapjkbaaGreatDoorAl Go.Proofs.Tryz
attribute [local irreducible] IntKind.wrap CodeOk OpsL OpG ACalls thn inBlk rndR cutR WkR Wk fnR DW ExtOk partsOf
/-! ### what an executor tells -/
abbrev catI (i j : Nat) (l : List NV) (b : Bool) : Heap := [(i, .cells [.lsl j 4 (gN b) (l.map rowN).length]), (j, .arr 4 (l.map rowN ++ gR b))]
def lastV (z : Nat → LA) (c : Int) : AV := if 0 ≤ c ∧ c < 8 then .tuple [I (z c.toNat).time, ansS (z c.toNat).ans] else .tuple [I 0, .st zeroA]
theorem exLastNo_ok (l : List NV) (b : Bool) (z : Nat → LA) (bs : List ByteArray) (c : Int) (hc : ¬ (0 ≤ c ∧ c < 8)) :
    ACalls prog 24 4 [.ptr 0 0, I c] (exX 2 3 l b z bs) fun r h => r = .tuple [I 0, .st zeroA] ∧ h = exX 2 3 l b z bs := by
  refine ACalls.drop1 (h1 := exX 2 3 l b z bs ++ [(4, zeroB)]) ⟨rfl, rfl, rfl, rfl, trivial⟩ ?_
  refine fnC lay_ok func24 rfl rfl rfl rfl rfl ?_
  repeat' first | refine stp lay_ok rfl ?_ | refine fin ?_ | refine n_thn ?_ | refine r_thn ?_ | refine .seq ?_ | refine reg ?_ | refine .skip ?_ | refine .ret ?_ | refine cndT rfl ?_ | refine c_dec rfl (fun hc => ?_) (fun hc => ?_) | refine gd rfl rfl rfl (fun hg => ?_) (fun hg => ?_) | fail
  all_goals first
    | (exfalso; omega)
    | skip
  all_goals
    refine f_end (n0 := 5) (t'' := [(4, I 0), (5, .ptr 4 0)]) (h'' := [(0, exC z (.lsl 3 1 0 (bs.map rowS).length)), (1, .cells [.lsl 2 4 (gN b) (l.map rowN).length]), (2, .arr 4 (l.map rowN ++ gR b)), (3, .arr 1 (bs.map rowS)), (4, zeroB)]) (WkR.of [4] (by (repeat' first | exact trivial | refine And.intro ?_ ?_ | rfl); first | done | fail) (by (repeat' first | exact trivial | refine And.intro ?_ ?_ | rfl); first | done | fail) rfl) rfl rfl ⟨?_, rfl⟩
    rfl
set_option maxHeartbeats 16000000 in
theorem exLastC_ok (c : Nat) (hc8 : c < 8) (l : List NV) (b : Bool) (z : Nat → LA) (bs : List ByteArray) (hf : (z c).ans.fit) :
    ACalls prog 24 4 [.ptr 0 0, I c] (exX 2 3 l b z bs) fun r h => r = .tuple [I (z c).time, ansS (z c).ans] ∧ h = exX 2 3 l b z bs := by
  have hcp := copied_ok (z c).ans hf
  refine ACalls.drop1 (h1 := exX 2 3 l b z bs ++ [(4, ansB (z c).ans)]) ⟨rfl, rfl, rfl, rfl, trivial⟩ ?_
  refine fnC lay_ok func24 rfl rfl rfl rfl rfl ?_
  rcases (show c = 0 ∨ c = 1 ∨ c = 2 ∨ c = 3 ∨ c = 4 ∨ c = 5 ∨ c = 6 ∨ c = 7 by omega) with rfl | rfl | rfl | rfl | rfl | rfl | rfl | rfl
  all_goals
    repeat' first | refine stp lay_ok rfl ?_ | refine fin ?_ | refine n_thn ?_ | refine .seq ?_ | refine reg ?_ | refine .skip ?_ | refine cndF rfl ?_ | (refine o_none rfl ?_; refine st_indexP lay_ok arr8 rfl rfl rfl (by omega) (by omega) ?_) | fail
    all_goals first
      | (exfalso; omega)
      | skip
    refine dreg [(0, [], [22, 23, 24]), (1, [0], [22, 23, 24]), (2, [], [20, 21]), (3, [2], [20, 21]), (4, [2, 3], [20, 21]), (5, [0, 1, 2, 3, 4], []), (6, [0, 1, 2, 3, 4, 5], [])] mixed (by kernel_rfl) ?_
    repeat' first | refine n_thn ?_ | refine .ret ?_ | refine dws lay_ok rfl rfl rfl rfl rfl rfl rfl ?_ | refine dwu lay_ok rfl rfl rfl rfl rfl rfl rfl rfl rfl ?_ | refine dw_end ?_ | refine dwb rfl rfl rfl rfl rfl (by (first | refine st_pure (hcp) b46 rfl rfl rfl rfl ?_); exact fin rfl) rfl rfl ?_ | fail
    refine f_end (n0 := 5) (t'' := [(4, I (z _).time), (5, .ptr 4 0)]) (h'' := [(0, exC z (.lsl 3 1 0 (bs.map rowS).length)), (1, .cells [.lsl 2 4 (gN b) (l.map rowN).length]), (2, .arr 4 (l.map rowN ++ gR b)), (3, .arr 1 (bs.map rowS)), (4, ansB (z _).ans)]) (WkR.of [4] (by (repeat' first | exact trivial | refine And.intro ?_ ?_ | rfl); first | done | fail) (by (repeat' first | exact trivial | refine And.intro ?_ ?_ | rfl); first | done | fail) rfl) rfl rfl ⟨?_, rfl⟩
    rfl
theorem execLast_ok (s : XS) (bs : List ByteArray) (c : Int) (hs : XP s) :
    ACalls prog 24 4 [.ptr 0 0, I c] (exX 2 3 s.l s.b s.z bs) fun r h => r = lastV s.z c ∧ h = exX 2 3 s.l s.b s.z bs := by
  unfold lastV
  by_cases hc : 0 ≤ c ∧ c < 8
  · rw [if_pos hc]
    obtain ⟨c, rfl⟩ : ∃ c' : Nat, c = c' := ⟨c.toNat, by omega⟩
    rw [Int.toNat_natCast]
    exact exLastC_ok c (by omega) _ _ _ _ (hs.fit _)
  · rw [if_neg hc]
    exact exLastNo_ok _ _ _ _ c hc
theorem cloneSL_ok (b : List ByteArray) (hb : b.length ≤ 4000000000) : ACalls prog 51 1 [.lsl 0 1 0 (b.map rowS).length] [(0, .arr 1 (b.map rowS))] fun r h => r = .lsl 1 1 0 (b.map rowS).length ∧ h = [(0, .arr 1 (b.map rowS)), (1, .arr 1 (b.map rowS))] := by
  refine fnC lay_ok func51 rfl rfl rfl rfl rfl ?_
  have hm : (List.map rowS b).length = b.length := List.length_map _
  repeat' first | refine stp lay_ok rfl ?_ | refine fin ?_ | refine n_thn ?_ | refine r_thn ?_ | refine .seq ?_ | refine reg ?_ | refine .skip ?_ | refine .ret ?_ | refine cnd rfl (fun hc => ?_) (fun hc => ?_) | (refine o_none rfl ?_; (first | refine st_nilLs lay_ok rfl rfl rfl rfl (fun z hz => ?_) | refine st_append lay_ok rfl rfl rfl rfl rfl rfl rfl rfl .sl0 (.lsl rfl rfl) rfl rowS_one (by simp only [List.length_nil]; omega) (by simp only [List.length_nil]; omega) ?_)) | fail
  · cases z with
    | false => cases hc
    | true =>
      have h0 := hz rfl
      have hb0 : b = [] := List.length_eq_zero_iff.1 (by omega)
      subst hb0
      refine f_end (n0 := 2) (t'' := [(2, .lsl 1 1 0 0)]) (h'' := [(0, .arr 1 []), (1, .arr 1 [])]) (Wk.then (Wk.nilT 1 2 rfl rfl) (WkR.of [1] (by (repeat' first | exact trivial | refine And.intro ?_ ?_ | rfl); first | done | fail) (by (repeat' first | exact trivial | refine And.intro ?_ ?_ | rfl); first | done | fail) rfl)) rfl rfl ⟨?_, rfl⟩
      rfl
  · refine f_end (n0 := 2) (t'' := [(2, .lsl 1 1 0 (b.map rowS).length)]) (h'' := [(0, .arr 1 (b.map rowS)), (1, .arr 1 (b.map rowS))]) (WkR.of [1] (by (repeat' first | exact trivial | refine And.intro ?_ ?_ | rfl); first | done | fail) (by (repeat' first | exact trivial | refine And.intro ?_ ?_ | rfl); first | done | fail) rfl) rfl rfl ⟨?_, rfl⟩
    rfl
theorem execBodies_ok (l : List NV) (b : Bool) (z : Nat → LA) (bs : List ByteArray) (hn : bs.length ≤ 4000000000) :
    ACalls prog 26 4 [.ptr 0 0] (exX 2 3 l b z bs) fun r h => r = .lsl 4 1 0 (bs.map rowS).length ∧ h = exX 2 3 l b z bs ++ [(4, .arr 1 (bs.map rowS))] := by
  have h1 := cloneSL_ok bs hn
  refine fnC lay_ok func26 rfl rfl rfl rfl rfl ?_
  repeat' first | refine stp lay_ok rfl ?_ | refine fin ?_ | refine n_thn ?_ | refine .seq ?_ | refine reg ?_ | refine .ret ?_ | (refine o_none rfl ?_; refine st_callF 1 (h1) b51 rfl rfl rfl rfl rfl rfl (by (repeat' first | exact trivial | refine And.intro ?_ ?_ | rfl); first | done | fail) rfl ?_) | fail
  refine f_end (n0 := 5) (t'' := [(2, .lsl 4 1 0 (bs.map rowS).length)]) (h'' := [(0, exC z (.lsl 3 1 0 (bs.map rowS).length)), (1, .cells [.lsl 2 4 (gN b) (l.map rowN).length]), (2, .arr 4 (l.map rowN ++ gR b)), (3, .arr 1 (bs.map rowS)), (4, .arr 1 (bs.map rowS))]) (WkR.of [4] (by (repeat' first | exact trivial | refine And.intro ?_ ?_ | rfl); first | done | fail) (by (repeat' first | exact trivial | refine And.intro ?_ ?_ | rfl); first | done | fail) rfl) rfl rfl ⟨?_, rfl⟩
  rfl
theorem execCat_ok (s : XS) (bs : List ByteArray) (hs : XP s) :
    ACalls prog 17 4 [.ptr 0 0] (exX 2 3 s.l s.b s.z bs) fun r h => r = .ptr 4 0 ∧ h = exX 2 3 s.l s.b s.z bs ++ catI 4 5 s.l false := by
  obtain ⟨l, b, z⟩ := s
  obtain ⟨h1, h2, h3⟩ := hs
  simp only at h1 h2 h3 ⊢
  obtain ⟨c1, c2⟩ := catP_fits h1
  have hsn := snapsX_ok l b h2 c1 c2
  have hfr := fromC_ok l c1 c2 ((fromB_iff l).2 h1)
  refine fnC lay_ok func17 rfl rfl rfl rfl rfl ?_
  repeat' first | refine stp lay_ok rfl ?_ | refine fin ?_ | refine n_thn ?_ | refine .seq ?_ | refine reg ?_ | refine .skip ?_ | refine .ret ?_ | refine cndF rfl ?_ | (refine o_none rfl ?_; (first | refine st_callK [1,2] (hsn) b19 rfl rfl rfl rfl rfl (by (repeat' first | exact trivial | refine And.intro ?_ ?_ | rfl); first | done | fail) ?_ | refine st_callF 2 (hfr) b47 rfl rfl rfl rfl rfl rfl (by (repeat' first | exact trivial | refine And.intro ?_ ?_ | rfl); first | done | fail) rfl ?_)) | fail
  refine f_end (n0 := 6) (t'' := [(2, .ptr 4 0)]) (h'' := [(0, exC z (.lsl 3 1 0 (bs.map rowS).length)), (1, .cells [.lsl 2 4 (gN b) (l.map rowN).length]), (2, .arr 4 (l.map rowN ++ gR b)), (3, .arr 1 (bs.map rowS)), (4, .cells [.lsl 5 4 (gN false) (l.map rowN).length]), (5, .arr 4 (l.map rowN ++ gR false))]) (WkR.of [4, 5] (by (repeat' first | exact trivial | refine And.intro ?_ ?_ | rfl); first | done | fail) (by (repeat' first | exact trivial | refine And.intro ?_ ?_ | rfl); first | done | fail) rfl) rfl rfl ⟨?_, rfl⟩
  rfl
end Go.Proofs.YtohmbpcjapjkbaaGreatDoorFn
