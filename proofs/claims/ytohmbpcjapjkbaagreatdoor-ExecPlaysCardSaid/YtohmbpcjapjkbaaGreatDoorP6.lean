/- The law ExecPlays: for every input it says true: what any bodies come to, one behind the other, and all that stands then. No condition. -/
import Derived.Test.YtohmbpcjapjkbaaGreatDoorP5
import Derived.Test.YtohmbpcjapjkbaaGreatDoorAlYZ
import Derived.Test.YtohmbpcjapjkbaaGreatDoorRows
import Derived.Test.YtohmbpcjapjkbaaGreatDoorTie
import Derived.Test.YtohmbpcjapjkbaaGreatDoorCards
set_option linter.all false
namespace Go.Proofs.YtohmbpcjapjkbaaGreatDoorFn
open Go.Proofs.YtohmbpcjapjkbaaGreatDoorAl Go.Proofs.Tryz
attribute [local irreducible] IntKind.wrap CodeOk OpsL OpG ACalls thn inBlk rndR cutR WkR Wk fnR DW ExtOk partsOf
set_option maxHeartbeats 2000000 in
theorem same9O_ok (a b : List NV) (ha : a.length ≤ 4000000000) (hb : b.length ≤ 4000000000) (ga : ∀ s ∈ a, s.fit) (gb : ∀ s ∈ b, s.fit) :
    ACalls prog 18 1 [.st (.sl 4 (a.map rowN)), .lsl 0 4 0 (b.map rowN).length] [(0, .arr 4 (b.map rowN))] fun r h => r = B (decide (a = b)) ∧ h = [(0, .arr 4 (b.map rowN))] := by
  have hma : (List.map rowN a).length = a.length := List.length_map _
  have hmb : (List.map rowN b).length = b.length := List.length_map _
  refine fnC lay_ok func18 rfl rfl rfl rfl rfl ?_
  repeat' first | refine ln ?_ | refine stp lay_ok rfl ?_ | refine fin ?_ | refine n_thn ?_ | refine r_thn ?_ | refine .seq ?_ | refine reg ?_ | refine .block ?_ | refine .skip ?_ | refine .ret ?_ | refine c_dec rfl (fun hc => ?_) (fun hc => ?_) | fail
  · refine f_r [(0, .arr 4 (b.map rowN))] rfl (by (repeat' first | exact trivial | refine And.intro ?_ ?_ | rfl); first | done | fail) rfl ⟨?_, rfl⟩
    rw [decide_eq_false (by rintro rfl; omega)]; rfl
  · have hl : a.length = b.length := by omega
    refine lpR (fun k => k ≤ a.length ∧ ∀ j (h1 : j < a.length) (h2 : j < b.length), j < k → a[j] = b[j]) (fun k => a.length - k) (fun k => [(5, I k)]) (fun k => []) (0) [0, 1] [] [] rfl rfl rfl (.of [] (by (repeat' first | exact trivial | refine And.intro ?_ ?_ | rfl); first | done | fail) (by (repeat' first | exact trivial | refine And.intro ?_ ?_ | rfl); first | done | fail) rfl) ?_ ?_
    · exact ⟨Nat.zero_le _, fun j h1 h2 h3 => by omega⟩
    rintro k ⟨hk, hall⟩
    refine nrm rfl rfl ?_
    repeat' first | refine ln ?_ | refine stp lay_ok rfl ?_ | refine fin ?_ | refine n_thn ?_ | refine e_thn ?_ | refine e_hit ?_ | refine e_rr ?_ | refine .seq ?_ | refine reg ?_ | refine .block ?_ | refine .skip ?_ | refine .ret ?_ | refine .exit ?_ | refine c_dec rfl (fun hc => ?_) (fun hc => ?_) | fail
    · have hka : k < a.length := by omega
      have hkb : k < b.length := by omega
      have hat : (a.map rowN)[((k : Nat) : Int).toNat]? = some (rowN a[k]) := by simp [hka]
      have hbt : (b.map rowN)[0 + ((k : Nat) : Int).toNat]? = some (rowN b[k]) := by simp [hkb]
      have f1 := ga _ (List.getElem_mem hka)
      have f2 := gb _ (List.getElem_mem hkb)
      have hs := sameAll_ok a[k].entries b[k].entries f1.2.1 f2.2.1 (fun e he => (f1.2.2 e he).2) (fun e he => (f2.2.2 e he).2)
      have hne : a[k] ≠ b[k] → a ≠ b := fun h e => h (by subst e; rfl)
      have hnx : a[k] = b[k] → ∀ j (h1 : j < a.length) (h2 : j < b.length), j < k + 1 → a[j] = b[j] := fun h j h1 h2 h3 => by
        by_cases hj : j = k
        · subst hj; exact h
        · exact hall j h1 h2 (by omega)
      generalize a[k] = x at *
      generalize b[k] = y at *
      obtain ⟨c, n, d, es⟩ := x
      obtain ⟨c', n', d', es'⟩ := y
      simp only at hs
      refine dreg [(0, [], [18, 22, 23, 24, 25, 26]), (1, [], [17, 22, 23, 24, 25, 26]), (2, [0, 1], [22, 23, 24, 25, 26]), (3, [0, 1, 2], [22, 23, 24, 25, 26]), (4, [0, 1, 2, 3], [22, 23, 24, 25, 26]), (5, [], [17, 18, 19, 20, 21, 23]), (6, [], [17, 18, 19, 20, 21, 22]), (7, [5, 6], [17, 18, 19, 20, 21]), (8, [5, 6, 7], [17, 18, 19, 20, 21]), (9, [5, 6, 7, 8], [17, 18, 19, 20, 21]), (10, [0, 1, 2, 3, 4, 5, 6, 7, 8, 9], []), (11, [0, 1, 2, 3, 4, 5, 6, 7, 8, 9, 10], []), (12, [0, 1, 2, 3, 4, 5, 6, 7, 8, 9, 10, 11], [30, 34, 35, 36, 37, 38]), (13, [0, 1, 2, 3, 4, 5, 6, 7, 8, 9, 10, 11], [29, 34, 35, 36, 37, 38]), (14, [0, 1, 2, 3, 4, 5, 6, 7, 8, 9, 10, 11, 12, 13], [34, 35, 36, 37, 38]), (15, [0, 1, 2, 3, 4, 5, 6, 7, 8, 9, 10, 11, 12, 13, 14], [34, 35, 36, 37, 38]), (16, [0, 1, 2, 3, 4, 5, 6, 7, 8, 9, 10, 11, 12, 13, 14, 15], [34, 35, 36, 37, 38]), (17, [0, 1, 2, 3, 4, 5, 6, 7, 8, 9, 10, 11], [29, 30, 31, 32, 33, 35]), (18, [0, 1, 2, 3, 4, 5, 6, 7, 8, 9, 10, 11], [29, 30, 31, 32, 33, 34]), (19, [0, 1, 2, 3, 4, 5, 6, 7, 8, 9, 10, 11, 17, 18], [29, 30, 31, 32, 33]), (20, [0, 1, 2, 3, 4, 5, 6, 7, 8, 9, 10, 11, 17, 18, 19], [29, 30, 31, 32, 33]), (21, [0, 1, 2, 3, 4, 5, 6, 7, 8, 9, 10, 11, 17, 18, 19, 20], [29, 30, 31, 32, 33]), (22, [0, 1, 2, 3, 4, 5, 6, 7, 8, 9, 10, 11, 12, 13, 14, 15, 16, 17, 18, 19, 20, 21], []), (23, [0, 1, 2, 3, 4, 5, 6, 7, 8, 9, 10, 11, 12, 13, 14, 15, 16, 17, 18, 19, 20, 21, 22], []), (24, [0, 1, 2, 3, 4, 5, 6, 7, 8, 9, 10, 11, 12, 13, 14, 15, 16, 17, 18, 19, 20, 21, 22, 23], []), (25, [0, 1, 2, 3, 4, 5, 6, 7, 8, 9, 10, 11, 12, 13, 14, 15, 16, 17, 18, 19, 20, 21, 22, 23, 24], [43, 47, 48, 49, 50, 51]), (26, [0, 1, 2, 3, 4, 5, 6, 7, 8, 9, 10, 11, 12, 13, 14, 15, 16, 17, 18, 19, 20, 21, 22, 23, 24], [42, 47, 48, 49, 50, 51]), (27, [0, 1, 2, 3, 4, 5, 6, 7, 8, 9, 10, 11, 12, 13, 14, 15, 16, 17, 18, 19, 20, 21, 22, 23, 24, 25, 26], [47, 48, 49, 50, 51]), (28, [0, 1, 2, 3, 4, 5, 6, 7, 8, 9, 10, 11, 12, 13, 14, 15, 16, 17, 18, 19, 20, 21, 22, 23, 24, 25, 26, 27], [47, 48, 49, 50, 51]), (29, [0, 1, 2, 3, 4, 5, 6, 7, 8, 9, 10, 11, 12, 13, 14, 15, 16, 17, 18, 19, 20, 21, 22, 23, 24, 25, 26, 27, 28], [47, 48, 49, 50, 51]), (30, [0, 1, 2, 3, 4, 5, 6, 7, 8, 9, 10, 11, 12, 13, 14, 15, 16, 17, 18, 19, 20, 21, 22, 23, 24], [42, 43, 44, 45, 46, 48]), (31, [0, 1, 2, 3, 4, 5, 6, 7, 8, 9, 10, 11, 12, 13, 14, 15, 16, 17, 18, 19, 20, 21, 22, 23, 24], [42, 43, 44, 45, 46, 47]), (32, [0, 1, 2, 3, 4, 5, 6, 7, 8, 9, 10, 11, 12, 13, 14, 15, 16, 17, 18, 19, 20, 21, 22, 23, 24, 30, 31], [42, 43, 44, 45, 46]), (33, [0, 1, 2, 3, 4, 5, 6, 7, 8, 9, 10, 11, 12, 13, 14, 15, 16, 17, 18, 19, 20, 21, 22, 23, 24, 30, 31, 32], [42, 43, 44, 45, 46]), (34, [0, 1, 2, 3, 4, 5, 6, 7, 8, 9, 10, 11, 12, 13, 14, 15, 16, 17, 18, 19, 20, 21, 22, 23, 24, 30, 31, 32, 33], [42, 43, 44, 45, 46]), (35, [0, 1, 2, 3, 4, 5, 6, 7, 8, 9, 10, 11, 12, 13, 14, 15, 16, 17, 18, 19, 20, 21, 22, 23, 24, 25, 26, 27, 28, 29, 30, 31, 32, 33, 34], []), (36, [0, 1, 2, 3, 4, 5, 6, 7, 8, 9, 10, 11, 12, 13, 14, 15, 16, 17, 18, 19, 20, 21, 22, 23, 24, 25, 26, 27, 28, 29, 30, 31, 32, 33, 34, 35], []), (37, [0, 1, 2, 3, 4, 5, 6, 7, 8, 9, 10, 11, 12, 13, 14, 15, 16, 17, 18, 19, 20, 21, 22, 23, 24, 25, 26, 27, 28, 29, 30, 31, 32, 33, 34, 35, 36], []), (38, [0, 1, 2, 3, 4, 5, 6, 7, 8, 9, 10, 11, 12, 13, 14, 15, 16, 17, 18, 19, 20, 21, 22, 23, 24, 25, 26, 27, 28, 29, 30, 31, 32, 33, 34, 35, 36, 37], [56, 60, 61, 62, 63, 64]), (39, [0, 1, 2, 3, 4, 5, 6, 7, 8, 9, 10, 11, 12, 13, 14, 15, 16, 17, 18, 19, 20, 21, 22, 23, 24, 25, 26, 27, 28, 29, 30, 31, 32, 33, 34, 35, 36, 37], [55, 60, 61, 62, 63, 64]), (40, [0, 1, 2, 3, 4, 5, 6, 7, 8, 9, 10, 11, 12, 13, 14, 15, 16, 17, 18, 19, 20, 21, 22, 23, 24, 25, 26, 27, 28, 29, 30, 31, 32, 33, 34, 35, 36, 37, 38, 39], [60, 61, 62, 63, 64]), (41, [0, 1, 2, 3, 4, 5, 6, 7, 8, 9, 10, 11, 12, 13, 14, 15, 16, 17, 18, 19, 20, 21, 22, 23, 24, 25, 26, 27, 28, 29, 30, 31, 32, 33, 34, 35, 36, 37, 38, 39, 40], [60, 61, 62, 63, 64]), (42, [0, 1, 2, 3, 4, 5, 6, 7, 8, 9, 10, 11, 12, 13, 14, 15, 16, 17, 18, 19, 20, 21, 22, 23, 24, 25, 26, 27, 28, 29, 30, 31, 32, 33, 34, 35, 36, 37, 38, 39, 40, 41], [60, 61, 62, 63, 64]), (43, [0, 1, 2, 3, 4, 5, 6, 7, 8, 9, 10, 11, 12, 13, 14, 15, 16, 17, 18, 19, 20, 21, 22, 23, 24, 25, 26, 27, 28, 29, 30, 31, 32, 33, 34, 35, 36, 37], [55, 56, 57, 58, 59, 61]), (44, [0, 1, 2, 3, 4, 5, 6, 7, 8, 9, 10, 11, 12, 13, 14, 15, 16, 17, 18, 19, 20, 21, 22, 23, 24, 25, 26, 27, 28, 29, 30, 31, 32, 33, 34, 35, 36, 37], [55, 56, 57, 58, 59, 60]), (45, [0, 1, 2, 3, 4, 5, 6, 7, 8, 9, 10, 11, 12, 13, 14, 15, 16, 17, 18, 19, 20, 21, 22, 23, 24, 25, 26, 27, 28, 29, 30, 31, 32, 33, 34, 35, 36, 37, 43, 44], [55, 56, 57, 58, 59]), (46, [0, 1, 2, 3, 4, 5, 6, 7, 8, 9, 10, 11, 12, 13, 14, 15, 16, 17, 18, 19, 20, 21, 22, 23, 24, 25, 26, 27, 28, 29, 30, 31, 32, 33, 34, 35, 36, 37, 43, 44, 45], [55, 56, 57, 58, 59]), (47, [0, 1, 2, 3, 4, 5, 6, 7, 8, 9, 10, 11, 12, 13, 14, 15, 16, 17, 18, 19, 20, 21, 22, 23, 24, 25, 26, 27, 28, 29, 30, 31, 32, 33, 34, 35, 36, 37, 43, 44, 45, 46], [55, 56, 57, 58, 59]), (48, [0, 1, 2, 3, 4, 5, 6, 7, 8, 9, 10, 11, 12, 13, 14, 15, 16, 17, 18, 19, 20, 21, 22, 23, 24, 25, 26, 27, 28, 29, 30, 31, 32, 33, 34, 35, 36, 37, 38, 39, 40, 41, 42, 43, 44, 45, 46, 47], []), (49, [0, 1, 2, 3, 4, 5, 6, 7, 8, 9, 10, 11, 12, 13, 14, 15, 16, 17, 18, 19, 20, 21, 22, 23, 24, 25, 26, 27, 28, 29, 30, 31, 32, 33, 34, 35, 36, 37, 38, 39, 40, 41, 42, 43, 44, 45, 46, 47, 48], []), (50, [0, 1, 2, 3, 4, 5, 6, 7, 8, 9, 10, 11, 12, 13, 14, 15, 16, 17, 18, 19, 20, 21, 22, 23, 24, 25, 26, 27, 28, 29, 30, 31, 32, 33, 34, 35, 36, 37, 38, 39, 40, 41, 42, 43, 44, 45, 46, 47, 48, 49], [])] mixed (by kernel_rfl) ?_
      repeat' first | refine wr (by omega) ?_ | refine stp lay_ok rfl ?_ | refine fin ?_ | refine n_thn ?_ | refine n_blk ?_ | refine r_thn ?_ | refine r_blk ?_ | refine r_rr ?_ | refine .seq ?_ | refine reg ?_ | refine .skip ?_ | refine .ret ?_ | refine cndT rfl ?_ | refine c_ndec rfl (fun hc => ?_) (fun hc => ?_) | refine dws lay_ok rfl rfl rfl rfl rfl rfl rfl ?_ | refine dw_end ?_ | refine dw_skip rfl rfl rfl ?_ | refine dwb rfl rfl rfl rfl rfl (by (first | refine st_index (rowN ⟨c, n, d, es⟩) lay_ok rfl rfl rfl rfl (by omega) hat ?_ | refine st_indexL lay_ok rfl rfl rfl rfl (by omega) (by omega) ?_ | refine st_loadE [SV.int .i64 c', .str n', .bool d', .sl 3 (es'.map rowE)] lay_ok rfl rfl rfl hbt rfl rfl rfl ?_ | refine st_pure (hs) b48 rfl rfl rfl rfl ?_); exact fin rfl) rfl rfl ?_ | refine dw_dec rfl rfl rfl (fun hg => ?_) (fun hg => ?_) | fail
      all_goals first
        | (refine f_r [(0, .arr 4 (b.map rowN))] rfl (by (repeat' first | exact trivial | refine And.intro ?_ ?_ | rfl); first | done | fail) rfl ⟨?_, rfl⟩; rw [decide_eq_false (hne (by simp_all))]; rfl)
        | (refine n_rr (k + 1) ?_ (.of [] (by (repeat' first | exact trivial | refine And.intro ?_ ?_ | rfl); first | done | fail) (by (repeat' first | exact trivial | refine And.intro ?_ ?_ | rfl); first | done | fail) rfl) ?_
           · show a.length - (k + 1) < a.length - k; omega
           · exact ⟨by omega, hnx (by simp_all)⟩)
        | skip
    · refine f_r [(0, .arr 4 (b.map rowN))] rfl (by (repeat' first | exact trivial | refine And.intro ?_ ?_ | rfl); first | done | fail) rfl ⟨?_, rfl⟩
      rw [decide_eq_true (list_ext hl fun j h1 h2 => hall j h1 h2 (by omega))]; rfl
end Go.Proofs.YtohmbpcjapjkbaaGreatDoorFn
namespace Go.Proofs.YtohmbpcjapjkbaaGreatDoorFn
open Go.Proofs.YtohmbpcjapjkbaaGreatDoorAl Go.Proofs.Tryz
attribute [local irreducible] IntKind.wrap CodeOk OpsL OpG ACalls thn inBlk rndR cutR WkR Wk fnR DW ExtOk partsOf
theorem b4 : HasBody prog 4 := ⟨f4, func4, Option.some_ne_none _, by decide⟩
/-! ### what any bodies come to -/
set_option maxHeartbeats 16000000 in
set_option maxRecDepth 4000 in
theorem lawExPlays_ok (l : List ByteArray) (client : Int) : ACalls prog 4 0 [.st (.sl 1 (l.map rowS)), I client] [] fun r h => r = B true ∧ h = [] := by
  have hup := up15_ok
  have hsh := short15_ok l
  have hN := execNew_ok
  have hM := refNew15_ok
  have hm : (List.map rowS l).length = l.length := List.length_map _
  cases hS : short15 l <;> rw [hS] at hsh
  · refine fnC lay_ok func4 rfl rfl rfl rfl rfl ?_
    repeat' first | refine stp lay_ok rfl ?_ | refine fin ?_ | refine n_thn ?_ | refine r_thn ?_ | refine .seq ?_ | refine reg ?_ | refine .ret ?_ | refine cndT rfl ?_ | (refine o_none rfl ?_; (first | refine st_pure (hup) b13 rfl rfl rfl rfl ?_ | refine st_pure (hsh) b14 rfl rfl rfl rfl ?_ | refine st_callF 4 (hN) b15 rfl rfl rfl rfl rfl rfl (by (repeat' first | exact trivial | refine And.intro ?_ ?_ | rfl); first | done | fail) rfl ?_)) | fail
    refine f_r [] rfl trivial rfl ⟨?_, rfl⟩; rfl
  obtain ⟨hl, hz⟩ := short15_fit hS
  refine fnC lay_ok func4 rfl rfl rfl rfl rfl ?_
  repeat' first | refine stp lay_ok rfl ?_ | refine fin ?_ | refine n_thn ?_ | refine .seq ?_ | refine reg ?_ | refine .block ?_ | refine .skip ?_ | refine cndF rfl ?_ | (refine o_none rfl ?_; (first | refine st_pure (hup) b13 rfl rfl rfl rfl ?_ | refine st_pure (hsh) b14 rfl rfl rfl rfl ?_ | refine st_callF 4 (hN) b15 rfl rfl rfl rfl rfl rfl (by (repeat' first | exact trivial | refine And.intro ?_ ?_ | rfl); first | done | fail) rfl ?_ | refine st_callF 6 (hM) b20 rfl rfl rfl rfl rfl rfl (by (repeat' first | exact trivial | refine And.intro ?_ ?_ | rfl); first | done | fail) rfl ?_)) | fail
  refine lpR (fun (k, s) => k ≤ l.length ∧ XP s) (fun (k, s) => l.length - k) (fun (k, s) => [(9, I k)]) (fun (k, s) => [(0, exC s.z (.lsl 11 1 0 ((l.take k).map rowS).length)), (1, .cells [.lsl 10 4 (gN s.b) (s.l.map rowN).length]), (10, .arr 4 (s.l.map rowN ++ gR s.b)), (11, .arr 1 ((l.take k).map rowS)), (4, .cells [.ptr 5 0, .lsl 6 1 0 8, .lsl 7 5 0 8, .lsl 13 1 0 ((l.take k).map rowS).length]), (5, .cells [.lsl 12 4 0 (s.l.map rowN).length]), (6, .arr 1 (timesR s.z)), (7, .arr 5 (toldR s.z)), (12, .arr 4 (s.l.map rowN)), (13, .arr 1 ((l.take k).map rowS))]) ((0, xs0)) [0, 1, 5, 7, 8] [0, 1, 4, 5, 6, 7] [2, 3, 8, 9] rfl rfl rfl (.of [2, 3, 8, 9] (by (repeat' first | exact trivial | refine And.intro ?_ ?_ | rfl); first | done | fail) (by (repeat' first | exact trivial | refine And.intro ?_ ?_ | rfl); first | done | fail) rfl) ?_ ?_
  · exact ⟨Nat.zero_le _, xp0⟩
  rintro ⟨k, s⟩ ⟨g1, g2⟩
  refine nrm rfl rfl ?_
  have hlk : (l.take k).length ≤ 4000000000 := by rw [List.length_take]; omega
  by_cases hk : k < l.length
  · have hat := at_rowS hk
    have hzk := hz _ (List.getElem_mem hk)
    have hdo := execDo_ok s (l.take k) l[k] g2 (by omega) hlk
    have hmo := mExDo_ok s (l.take k) l[k] g2 (by omega) hlk
    have hX := exD_inv l[k] g2
    have hfa : ∀ a, (exD s l[k]).2 = some a → a.fit := fun a ha => by
      unfold exD at ha
      split at ha
      · cases ha
      split at ha
      · cases ha
      · cases ha; exact doP_fit _ _ g2.cat
    have htk : l.take k ++ [l[k]] = l.take (k + 1) := (List.take_succ_eq_append_getElem hk).symm
    rw [htk] at hdo hmo
    clear htk hlk
    generalize exD s l[k] = X at *
    obtain ⟨s2, oa⟩ := X
    simp only at hdo hmo hX hfa
    have hlen := execLen_ok s2.l s2.b s2.z (l.take (k + 1))
    rw [List.length_take, Nat.min_eq_left (by omega)] at hlen
    generalize l[k] = body at *
    obtain ⟨sl, sb, sz⟩ := s
    obtain ⟨tl, tb, tz⟩ := s2
    simp only at hdo hmo hlen
    cases oa with
    | none =>
      simp only [exA] at hdo hmo
      have hal := alike_ok (noA 0) (noA 0) la0_fit la0_fit
      rw [alike_same] at hal
      repeat' first | refine wr (by omega) ?_ | refine ln ?_ | refine stp lay_ok rfl ?_ | refine fin ?_ | refine n_thn ?_ | refine n_blk ?_ | refine e_thn ?_ | refine e_hit ?_ | refine r_thn ?_ | refine r_blk ?_ | refine e_rr ?_ | refine r_rr ?_ | refine .seq ?_ | refine reg ?_ | refine .block ?_ | refine .skip ?_ | refine .ret ?_ | refine .exit ?_ | refine c_dec rfl (fun hc => ?_) (fun hc => ?_) | ((first | refine o_none rfl ?_ | refine o_yes rfl rfl rfl ?_); (first | refine st_index (rowS body) lay_ok rfl rfl rfl rfl (by omega) hat ?_ | refine st_callG [0,1,10,11] 2 (hdo) b16 rfl rfl rfl rfl rfl (by (repeat' first | exact trivial | refine And.intro ?_ ?_ | rfl); first | done | fail) rfl ?_ | refine st_callG [4,5,6,7,12,13] 2 (hmo) b21 rfl rfl rfl rfl rfl (by (repeat' first | exact trivial | refine And.intro ?_ ?_ | rfl); first | done | fail) rfl ?_ | refine st_pureL (hal) b22 rfl (by (repeat' first | exact AVLeL.nil | refine AVLeL.cons ?_ ?_ | exact AVLe.refl _ | refine AVLe.st ?_ | exact SLe.refl _ | exact SLe.nil _ | exact SLe.sl0 _ | refine SLe.agg ?_ | refine SLe.sl ?_ | refine SLe.iface ?_ | exact SLeL.nil | refine SLeL.cons ?_ ?_ | exact RLe.nil' | refine RLe.cons' rfl ?_ ?_); first | done | fail) rfl rfl rfl ?_ | refine st_callK [0,1,15,14] (hlen) b23 rfl rfl rfl rfl rfl (by (repeat' first | exact trivial | refine And.intro ?_ ?_ | rfl); first | done | fail) ?_)) | fail
      all_goals first
        | (exfalso; omega)
        | skip
      refine n_rr ((k + 1, ⟨tl, tb, tz⟩)) ?_ (.of [15, 14, 18, 17] (by (repeat' first | exact trivial | refine And.intro ?_ ?_ | rfl | exact congrArg (fun z : Int => some (AV.st (.int .i64 z))) (show (k : Int) + 1 = ((k + 1 : Nat) : Int) by omega)); first | done | fail) (by (repeat' first | exact trivial | refine And.intro ?_ ?_ | rfl | exact congrArg (fun z : Int => some (AV.st (.int .i64 z))) (show (k : Int) + 1 = ((k + 1 : Nat) : Int) by omega)); first | done | fail) rfl) ?_
      · show l.length - (k + 1) < l.length - k; omega
      · exact ⟨hk, hX⟩
    | some a =>
      have hfa := hfa a rfl
      simp only [exA] at hdo hmo
      have hal := alike_ok a a hfa hfa
      rw [alike_same] at hal
      obtain ⟨xc, xn, xs, xk, xe⟩ := a
      repeat' first | refine wr (by omega) ?_ | refine ln ?_ | refine stp lay_ok rfl ?_ | refine fin ?_ | refine n_thn ?_ | refine n_blk ?_ | refine e_thn ?_ | refine e_hit ?_ | refine r_thn ?_ | refine r_blk ?_ | refine e_rr ?_ | refine r_rr ?_ | refine .seq ?_ | refine reg ?_ | refine .block ?_ | refine .skip ?_ | refine .ret ?_ | refine .exit ?_ | refine c_dec rfl (fun hc => ?_) (fun hc => ?_) | ((first | refine o_none rfl ?_ | refine o_yes rfl rfl rfl ?_); (first | refine st_index (rowS body) lay_ok rfl rfl rfl rfl (by omega) hat ?_ | refine st_callG [0,1,10,11] 2 (hdo) b16 rfl rfl rfl rfl rfl (by (repeat' first | exact trivial | refine And.intro ?_ ?_ | rfl); first | done | fail) rfl ?_ | refine st_callG [4,5,6,7,12,13] 2 (hmo) b21 rfl rfl rfl rfl rfl (by (repeat' first | exact trivial | refine And.intro ?_ ?_ | rfl); first | done | fail) rfl ?_ | refine st_pure (hal) b22 rfl rfl rfl rfl ?_ | refine st_callK [0,1,15,14] (hlen) b23 rfl rfl rfl rfl rfl (by (repeat' first | exact trivial | refine And.intro ?_ ?_ | rfl); first | done | fail) ?_)) | fail
      all_goals first
        | (exfalso; omega)
        | skip
      refine n_rr ((k + 1, ⟨tl, tb, tz⟩)) ?_ (.of [15, 14, 18, 17] (by (repeat' first | exact trivial | refine And.intro ?_ ?_ | rfl | exact congrArg (fun z : Int => some (AV.st (.int .i64 z))) (show (k : Int) + 1 = ((k + 1 : Nat) : Int) by omega)); first | done | fail) (by (repeat' first | exact trivial | refine And.intro ?_ ?_ | rfl | exact congrArg (fun z : Int => some (AV.st (.int .i64 z))) (show (k : Int) + 1 = ((k + 1 : Nat) : Int) by omega)); first | done | fail) rfl) ?_
      · show l.length - (k + 1) < l.length - k; omega
      · exact ⟨hk, hX⟩
  have hke : k = l.length := by omega
  subst hke
  rw [List.take_length] at *
  have hcat := execCat_ok s l g2
  have hlast := execLast_ok s l client g2
  obtain ⟨c1, c2⟩ := catP_fits g2.cat
  have hsn := snapsX_ok s.l false (by simp) c1 c2
  have hs9 := same9O_ok s.l s.l c1 c1 c2 c2
  rw [decide_eq_true rfl] at hs9
  have hbod := execBodies_ok s.l s.b s.z l (by omega)
  have hs3 := same3_ok l l (by omega) (by omega)
  rw [decide_eq_true rfl] at hs3
  have hfit := g2.fit client.toNat
  obtain ⟨sl, sb, sz⟩ := s
  simp only at *
  unfold lastV at hlast
  by_cases hcl : 0 ≤ client ∧ client < 8
  · rw [if_pos hcl] at hlast
    obtain ⟨c, rfl⟩ : ∃ c : Nat, client = c := ⟨client.toNat, by omega⟩
    have hc8 : c < 8 := by omega
    rw [Int.toNat_natCast] at hlast hfit
    have ht1 : (timesR sz)[0 + ((c : Nat) : Int).toNat]? = some [SV.int .i64 (sz c).time] := by rw [Nat.zero_add, Int.toNat_natCast]; exact times_at sz hc8
    have ht2 : (toldR sz)[0 + ((c : Nat) : Int).toNat]? = some [SV.int .i64 (sz c).ans.code, SV.int .i64 (sz c).ans.n, SV.sl 1 ((sz c).ans.names.map rowS), SV.sl 1 ((sz c).ans.keys.map rowS), SV.sl 3 ((sz c).ans.entries.map rowE)] := by rw [Nat.zero_add, Int.toNat_natCast]; exact told_at sz hc8
    have hal := alike_ok (sz c).ans (sz c).ans hfit hfit
    rw [alike_same] at hal
    generalize hq : sz c = q at *
    obtain ⟨qt, qc, qn, qs, qk, qe⟩ := q
    simp only at hlast ht1 ht2 hal
    repeat' first | refine ln ?_ | refine stp lay_ok rfl ?_ | refine fin ?_ | refine n_thn ?_ | refine e_thn ?_ | refine e_hit ?_ | refine e_rr ?_ | refine .seq ?_ | refine reg ?_ | refine .block ?_ | refine .skip ?_ | refine .exit ?_ | refine cndF rfl ?_ | refine c_dec rfl (fun hc => ?_) (fun hc => ?_) | (refine o_none rfl ?_; (first | refine st_callG [0,1,10,11] 2 (hcat) b17 rfl rfl rfl rfl rfl (by (repeat' first | exact trivial | refine And.intro ?_ ?_ | rfl); first | done | fail) rfl ?_ | refine st_callK [0,1,10,11] (hlast) b24 rfl rfl rfl rfl rfl (by (repeat' first | exact trivial | refine And.intro ?_ ?_ | rfl); first | done | fail) ?_ | refine st_indexL lay_ok rfl rfl rfl rfl (by omega) (by omega) ?_ | refine st_loadE [SV.int .i64 qt] lay_ok rfl rfl rfl ht1 rfl rfl rfl ?_ | refine st_loadE [SV.int .i64 qc, SV.int .i64 qn, SV.sl 1 (qs.map rowS), SV.sl 1 (qk.map rowS), SV.sl 3 (qe.map rowE)] lay_ok rfl rfl rfl ht2 rfl rfl rfl ?_)) | fail
    all_goals first
      | (exfalso; omega)
      | skip
    refine dreg [(0, [], []), (1, [0], []), (2, [0, 1], [110]), (3, [0, 1, 2], [110]), (4, [0, 1], [108, 109]), (5, [0, 1, 2, 3, 4], []), (6, [0, 1, 2, 3, 4, 5], []), (7, [0, 1, 2, 3, 4, 5, 6], []), (8, [0, 1, 2, 3, 4, 5, 6, 7], [116, 117, 118, 119, 120, 121, 122]), (9, [0, 1, 2, 3, 4, 5, 6, 7, 8], [116, 117, 118, 119, 120, 121, 122]), (10, [0, 1, 2, 3, 4, 5, 6, 7], [114, 115]), (11, [0, 1, 2, 3, 4, 5, 6, 7, 10], [114, 115]), (12, [0, 1, 2, 3, 4, 5, 6, 7, 10, 11], [114, 115]), (13, [0, 1, 2, 3, 4, 5, 6, 7, 10, 11, 12], [114, 115]), (14, [0, 1, 2, 3, 4, 5, 6, 7, 10, 11, 12, 13], [114, 115]), (15, [0, 1, 2, 3, 4, 5, 6, 7, 10, 11, 12, 13, 14], [114, 115]), (16, [0, 1, 2, 3, 4, 5, 6, 7, 10, 11, 12, 13, 14, 15], [114, 115]), (17, [0, 1, 2, 3, 4, 5, 6, 7, 8, 9, 10, 11, 12, 13, 14, 15, 16], []), (18, [0, 1, 2, 3, 4, 5, 6, 7, 8, 9, 10, 11, 12, 13, 14, 15, 16, 17], []), (19, [0, 1, 2, 3, 4, 5, 6, 7, 8, 9, 10, 11, 12, 13, 14, 15, 16, 17, 18], []), (20, [0, 1, 2, 3, 4, 5, 6, 7, 8, 9, 10, 11, 12, 13, 14, 15, 16, 17, 18, 19], [127]), (21, [0, 1, 2, 3, 4, 5, 6, 7, 8, 9, 10, 11, 12, 13, 14, 15, 16, 17, 18, 19], [126]), (22, [0, 1, 2, 3, 4, 5, 6, 7, 8, 9, 10, 11, 12, 13, 14, 15, 16, 17, 18, 19, 20, 21], []), (23, [0, 1, 2, 3, 4, 5, 6, 7, 8, 9, 10, 11, 12, 13, 14, 15, 16, 17, 18, 19, 20, 21, 22], []), (24, [0, 1, 2, 3, 4, 5, 6, 7, 8, 9, 10, 11, 12, 13, 14, 15, 16, 17, 18, 19, 20, 21, 22, 23], []), (25, [0, 1, 2, 3, 4, 5, 6, 7, 8, 9, 10, 11, 12, 13, 14, 15, 16, 17, 18, 19, 20, 21, 22, 23, 24], [132]), (26, [0, 1, 2, 3, 4, 5, 6, 7, 8, 9, 10, 11, 12, 13, 14, 15, 16, 17, 18, 19, 20, 21, 22, 23, 24], [131]), (27, [0, 1, 2, 3, 4, 5, 6, 7, 8, 9, 10, 11, 12, 13, 14, 15, 16, 17, 18, 19, 20, 21, 22, 23, 24, 25, 26], []), (28, [0, 1, 2, 3, 4, 5, 6, 7, 8, 9, 10, 11, 12, 13, 14, 15, 16, 17, 18, 19, 20, 21, 22, 23, 24, 25, 26, 27], []), (29, [0, 1, 2, 3, 4, 5, 6, 7, 8, 9, 10, 11, 12, 13, 14, 15, 16, 17, 18, 19, 20, 21, 22, 23, 24, 25, 26, 27, 28], [])] mixed (by kernel_rfl) ?_
    repeat' first | refine n_thn ?_ | refine .ret ?_ | refine dws lay_ok rfl rfl rfl rfl rfl rfl rfl ?_ | refine dw_end ?_ | refine dw_skip rfl rfl rfl ?_ | refine dwA (f := 25) rfl rfl rfl rfl rfl rfl rfl rfl rfl (by (repeat' first | exact trivial | refine And.intro ?_ ?_ | rfl); first | done | fail) (by (repeat' first | exact trivial | refine And.intro ?_ ?_ | rfl); first | done | fail) rfl rfl rfl (by refine st_pure (hs3) b25 rfl rfl rfl rfl ?_; exact fin rfl) rfl rfl rfl rfl rfl ?_ | refine dwG [0,1,10,11] rfl rfl rfl rfl (by refine st_callG [0,1,10,11] 1 (hbod) b26 rfl rfl rfl rfl rfl (by (repeat' first | exact trivial | refine And.intro ?_ ?_ | rfl); first | done | fail) rfl ?_; exact fin rfl) rfl rfl rfl rfl rfl ?_ | refine dwG [14,15] rfl rfl rfl rfl (by refine st_callK [14,15] (hsn) b19 rfl rfl rfl rfl rfl (by (repeat' first | exact trivial | refine And.intro ?_ ?_ | rfl); first | done | fail) ?_; exact fin rfl) rfl rfl rfl rfl rfl ?_ | refine dwG [12] rfl rfl rfl rfl (by refine st_callK [12] (hs9) b18 rfl rfl rfl rfl rfl (by (repeat' first | exact trivial | refine And.intro ?_ ?_ | rfl); first | done | fail) ?_; exact fin rfl) rfl rfl rfl rfl rfl ?_ | refine dwb rfl rfl rfl rfl rfl (by (first | refine st_callG [0,1,10,11] 1 (hbod) b26 rfl rfl rfl rfl rfl (by (repeat' first | exact trivial | refine And.intro ?_ ?_ | rfl); first | done | fail) rfl ?_ | refine st_pure (hs3) b25 rfl rfl rfl rfl ?_ | refine st_callK [14,15] (hsn) b19 rfl rfl rfl rfl rfl (by (repeat' first | exact trivial | refine And.intro ?_ ?_ | rfl); first | done | fail) ?_ | refine st_callK [12] (hs9) b18 rfl rfl rfl rfl rfl (by (repeat' first | exact trivial | refine And.intro ?_ ?_ | rfl); first | done | fail) ?_ | refine st_pure (hal) b22 rfl rfl rfl rfl ?_); exact fin rfl) rfl rfl ?_ | refine dw_dec rfl rfl rfl (fun hg => ?_) (fun hg => ?_) | fail
    all_goals first
      | (exfalso; omega)
      | skip
    refine f_r [] rfl trivial rfl ⟨?_, rfl⟩
    first
      | rfl
      | (simp [retOf, B]; done)
  · rw [if_neg hcl] at hlast
    have hal := alike_ok (noA 0) (noA 0) la0_fit la0_fit
    rw [alike_same] at hal
    repeat' first | refine ln ?_ | refine stp lay_ok rfl ?_ | refine fin ?_ | refine n_thn ?_ | refine e_thn ?_ | refine e_hit ?_ | refine e_rr ?_ | refine .seq ?_ | refine reg ?_ | refine .block ?_ | refine .skip ?_ | refine .exit ?_ | refine cndF rfl ?_ | refine c_dec rfl (fun hc => ?_) (fun hc => ?_) | (refine o_none rfl ?_; (first | refine st_callG [0,1,10,11] 2 (hcat) b17 rfl rfl rfl rfl rfl (by (repeat' first | exact trivial | refine And.intro ?_ ?_ | rfl); first | done | fail) rfl ?_ | refine st_callK [0,1,10,11] (hlast) b24 rfl rfl rfl rfl rfl (by (repeat' first | exact trivial | refine And.intro ?_ ?_ | rfl); first | done | fail) ?_)) | refine gd rfl rfl rfl (fun hg => ?_) (fun hg => ?_) | fail
    all_goals first
      | (exfalso; omega)
      | skip
    all_goals
      refine dreg [(0, [], []), (1, [0], []), (2, [0, 1], [110]), (3, [0, 1, 2], [110]), (4, [0, 1], [108, 109]), (5, [0, 1, 2, 3, 4], []), (6, [0, 1, 2, 3, 4, 5], []), (7, [0, 1, 2, 3, 4, 5, 6], []), (8, [0, 1, 2, 3, 4, 5, 6, 7], [116, 117, 118, 119, 120, 121, 122]), (9, [0, 1, 2, 3, 4, 5, 6, 7, 8], [116, 117, 118, 119, 120, 121, 122]), (10, [0, 1, 2, 3, 4, 5, 6, 7], [114, 115]), (11, [0, 1, 2, 3, 4, 5, 6, 7, 10], [114, 115]), (12, [0, 1, 2, 3, 4, 5, 6, 7, 10, 11], [114, 115]), (13, [0, 1, 2, 3, 4, 5, 6, 7, 10, 11, 12], [114, 115]), (14, [0, 1, 2, 3, 4, 5, 6, 7, 10, 11, 12, 13], [114, 115]), (15, [0, 1, 2, 3, 4, 5, 6, 7, 10, 11, 12, 13, 14], [114, 115]), (16, [0, 1, 2, 3, 4, 5, 6, 7, 10, 11, 12, 13, 14, 15], [114, 115]), (17, [0, 1, 2, 3, 4, 5, 6, 7, 8, 9, 10, 11, 12, 13, 14, 15, 16], []), (18, [0, 1, 2, 3, 4, 5, 6, 7, 8, 9, 10, 11, 12, 13, 14, 15, 16, 17], []), (19, [0, 1, 2, 3, 4, 5, 6, 7, 8, 9, 10, 11, 12, 13, 14, 15, 16, 17, 18], []), (20, [0, 1, 2, 3, 4, 5, 6, 7, 8, 9, 10, 11, 12, 13, 14, 15, 16, 17, 18, 19], [127]), (21, [0, 1, 2, 3, 4, 5, 6, 7, 8, 9, 10, 11, 12, 13, 14, 15, 16, 17, 18, 19], [126]), (22, [0, 1, 2, 3, 4, 5, 6, 7, 8, 9, 10, 11, 12, 13, 14, 15, 16, 17, 18, 19, 20, 21], []), (23, [0, 1, 2, 3, 4, 5, 6, 7, 8, 9, 10, 11, 12, 13, 14, 15, 16, 17, 18, 19, 20, 21, 22], []), (24, [0, 1, 2, 3, 4, 5, 6, 7, 8, 9, 10, 11, 12, 13, 14, 15, 16, 17, 18, 19, 20, 21, 22, 23], []), (25, [0, 1, 2, 3, 4, 5, 6, 7, 8, 9, 10, 11, 12, 13, 14, 15, 16, 17, 18, 19, 20, 21, 22, 23, 24], [132]), (26, [0, 1, 2, 3, 4, 5, 6, 7, 8, 9, 10, 11, 12, 13, 14, 15, 16, 17, 18, 19, 20, 21, 22, 23, 24], [131]), (27, [0, 1, 2, 3, 4, 5, 6, 7, 8, 9, 10, 11, 12, 13, 14, 15, 16, 17, 18, 19, 20, 21, 22, 23, 24, 25, 26], []), (28, [0, 1, 2, 3, 4, 5, 6, 7, 8, 9, 10, 11, 12, 13, 14, 15, 16, 17, 18, 19, 20, 21, 22, 23, 24, 25, 26, 27], []), (29, [0, 1, 2, 3, 4, 5, 6, 7, 8, 9, 10, 11, 12, 13, 14, 15, 16, 17, 18, 19, 20, 21, 22, 23, 24, 25, 26, 27, 28], [])] mixed (by kernel_rfl) ?_
      repeat' first | refine n_thn ?_ | refine .ret ?_ | refine dws lay_ok rfl rfl rfl rfl rfl rfl rfl ?_ | refine dw_end ?_ | refine dwA (f := 25) rfl rfl rfl rfl rfl rfl rfl rfl rfl (by (repeat' first | exact trivial | refine And.intro ?_ ?_ | rfl); first | done | fail) (by (repeat' first | exact trivial | refine And.intro ?_ ?_ | rfl); first | done | fail) rfl rfl rfl (by refine st_pure (hs3) b25 rfl rfl rfl rfl ?_; exact fin rfl) rfl rfl rfl rfl rfl ?_ | refine dwG [0,1,10,11] rfl rfl rfl rfl (by refine st_callG [0,1,10,11] 1 (hbod) b26 rfl rfl rfl rfl rfl (by (repeat' first | exact trivial | refine And.intro ?_ ?_ | rfl); first | done | fail) rfl ?_; exact fin rfl) rfl rfl rfl rfl rfl ?_ | refine dwG [14,15] rfl rfl rfl rfl (by refine st_callK [14,15] (hsn) b19 rfl rfl rfl rfl rfl (by (repeat' first | exact trivial | refine And.intro ?_ ?_ | rfl); first | done | fail) ?_; exact fin rfl) rfl rfl rfl rfl rfl ?_ | refine dwG [12] rfl rfl rfl rfl (by refine st_callK [12] (hs9) b18 rfl rfl rfl rfl rfl (by (repeat' first | exact trivial | refine And.intro ?_ ?_ | rfl); first | done | fail) ?_; exact fin rfl) rfl rfl rfl rfl rfl ?_ | refine dwb rfl rfl rfl rfl rfl (by (first | refine st_callG [0,1,10,11] 1 (hbod) b26 rfl rfl rfl rfl rfl (by (repeat' first | exact trivial | refine And.intro ?_ ?_ | rfl); first | done | fail) rfl ?_ | refine st_pure (hs3) b25 rfl rfl rfl rfl ?_ | refine st_callK [14,15] (hsn) b19 rfl rfl rfl rfl rfl (by (repeat' first | exact trivial | refine And.intro ?_ ?_ | rfl); first | done | fail) ?_ | refine st_callK [12] (hs9) b18 rfl rfl rfl rfl rfl (by (repeat' first | exact trivial | refine And.intro ?_ ?_ | rfl); first | done | fail) ?_ | refine st_pureL (hal) b22 rfl (by (repeat' first | exact AVLeL.nil | refine AVLeL.cons ?_ ?_ | exact AVLe.refl _ | refine AVLe.st ?_ | exact SLe.refl _ | exact SLe.nil _ | exact SLe.sl0 _ | refine SLe.agg ?_ | refine SLe.sl ?_ | refine SLe.iface ?_ | exact SLeL.nil | refine SLeL.cons ?_ ?_ | exact RLe.nil' | refine RLe.cons' rfl ?_ ?_); first | done | fail) rfl rfl rfl ?_); exact fin rfl) rfl rfl ?_ | fail
      all_goals first
        | (exfalso; omega)
        | skip
      refine f_r [] rfl trivial rfl ⟨?_, rfl⟩
      first
        | rfl
        | (simp [retOf, B]; done)
end Go.Proofs.YtohmbpcjapjkbaaGreatDoorFn
namespace Go.Proofs.YtohmbpcjapjkbaaGreatDoor
open Go.Proofs.YtohmbpcjapjkbaaGreatDoorAl Go.ChangeAt Go.RowKit
open Go.Proofs.YtohmbpcjapjkbaaGreatDoorFn
theorem own : ownKnob Tryz.prog.godebug = none := by kernel_rfl
theorem laidOut : laidOutB Tryz.prog = true := by kernel_rfl
def pars : List Par := [⟨22, false, ΦL 1 16 ΦS⟩, ⟨3, false, ΦI⟩]
theorem pars_ok : ParsOk Tryz.prog pars :=
  ⟨rdLS, ⟨_, Tryz.underlying22, rfl⟩, by kernel_rfl, of_decide_eq_true (by kernel_rfl),
   rdI, ⟨_, Tryz.underlying3, rfl⟩, by kernel_rfl, of_decide_eq_true (by kernel_rfl), trivial⟩
theorem law_ok : LawOk Tryz.prog 4 pars := by
  rintro svs ⟨_, _, rfl, ⟨r0, h0, hr0, hl0⟩, _, _, rfl, ⟨x1, h1, hm1⟩, rfl⟩
  cases h0
  obtain ⟨x0, rfl, hm0⟩ := ofSs hr0
  simp only [List.length_map] at hl0
  cases h1
  have hreach : reachBytes ≤ 140737488351232 := by decide
  exact lawExPlays_ok x0 x1
set_option maxRecDepth 100000 in
theorem law_lift (os : Os) (started : os.Started) (H : Type) (enc : TypeId × Value → H) :
    ReturnsInHanded {} Tryz.checked os 4 .any (fun w args => (Rows.execPlaysSpec.pre enc Tryz.prog Tryz.f4 [] false w args ∧ laidMetH Tryz.prog Rows.execPlaysRow.laid w) ∧ sizedMet enc Tryz.prog Tryz.f4 (OpenSpec.ofChange Rows.execPlaysSpec) false w args) (Rows.execPlaysSpec.post enc Tryz.prog Tryz.f4 false true false false) :=
  law_liftedL (C := Tryz.checked) (ps := pars) own started (by kernel_rfl) Tryz.func4
    (ChangeSpec.witness_shaped (enc := enc) (C := Tryz.checked) (os := os) (X := fun w _ => laidMetH Tryz.prog Rows.execPlaysRow.laid w) false (World.laidAll Tryz.prog os Rows.execPlaysRow.laid) #[.slice none 0 0, .int .i64 0] 8 (World.laidAll_os _ _ _)
      (World.shaped_of_ZipB (by kernel_rfl) (by kernel_rfl)) (by kernel_rfl) (by kernel_rfl) (by kernel_rfl)
      (by rw [MakeChecks.laidMetH_plain _ _ _ (by kernel_rfl)]; exact laidMet_laidAll _ (by kernel_rfl) (by kernel_rfl)))
    laidOut rfl rfl Tryz.underlying4 rfl
    (fun ds hds => by
      match ds, hds with
      | [_, _], _ => rfl) pars_ok law_ok
theorem law_over : Rows.execPlaysRow.holds Tryz.pinned (OpenSpec.ofChange Rows.execPlaysSpec) :=
  OpenClaim.holds_of_wide 4 Tryz.f4 rfl rfl rfl rfl rfl rfl rfl ⟨rfl, rfl, rfl, rfl, rfl⟩ rfl rfl rfl rfl rfl (by kernel_rfl) Tryz.func4 (by kernel_rfl)
    (of_decide_eq_true (by kernel_rfl)) (by unfold Func.isWrapper; first | (rw [if_pos (by decide +kernel)]; kernel_rfl) | (rw [if_neg (by decide +kernel)]; exact ⟨rfl, rfl⟩))
    (fun os started H enc _ => law_lift os started H enc)
theorem ExecPlays_holds : Rows.ExecPlaysCardSaid :=
  Claim7.holds_tied_plain_at .later [] [.data, .pinned] true Rows.execPlaysCard.stood.harness Rows.execPlaysCard.stood.looks law_over (fun _ h => by cases h) (by kernel_rfl) (fun _ h => by cases h) execPlays_row_tie rfl ⟨rfl, rfl⟩ (by kernel_rfl) rfl
    (fun f fn hf hfn => by
      obtain rfl : f = 4 := Option.some.inj ((show Tryz.prog.funcNamed "becket/becketlaw15.ExecPlays" = some 4 by kernel_rfl).symm.trans hf) |>.symm
      obtain rfl : fn = Tryz.f4 := (Option.some.inj (Tryz.func4.symm.trans hfn)).symm
      exact ⟨by kernel_rfl, fun j t ht => by
        have hm : t ∈ ([22, 3] : List Nat) := by
          have e := Array.mem_of_getElem? ht
          rw [Tryz.params4] at e
          simpa using e
        have hall : (([22, 3] : List Nat).all fun u => !Tryz.prog.wantsStandIn u) = true := by kernel_rfl
        exact (show Tryz.prog.wantsStandIn t = false by simpa using List.all_eq_true.1 hall t hm)⟩)
    (by kernel_rfl)
#print axioms ExecPlays_holds
end Go.Proofs.YtohmbpcjapjkbaaGreatDoor
