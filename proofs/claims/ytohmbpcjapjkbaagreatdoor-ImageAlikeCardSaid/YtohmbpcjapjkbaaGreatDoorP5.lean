/- The law ImageAlike: for every input it says true: two catalogs that have done the same have the same bytes, and differ in nothing; bytes that are handed in may be changed. No condition. -/
import Derived.Test.YtohmbpcjapjkbaaGreatDoorP4
import Derived.Test.YtohmbpcjapjkbaaGreatDoorAlYZ
import Derived.Test.YtohmbpcjapjkbaaGreatDoorRows
import Derived.Test.YtohmbpcjapjkbaaGreatDoorTie
import Derived.Test.YtohmbpcjapjkbaaGreatDoorCards
set_option linter.all false
namespace Go.Proofs.YtohmbpcjapjkbaaGreatDoorFn
open Go.Proofs.YtohmbpcjapjkbaaGreatDoorAl Go.Proofs.Tryz
attribute [local irreducible] IntKind.wrap CodeOk OpsL OpG ACalls thn inBlk rndR cutR WkR Wk fnR DW ExtOk partsOf
/-! ### bytes of ours, read -/
abbrev rcellO (i : Nat) (b : List UInt8) (s : RS) : AO := .cells [.lsl i 1 0 (b.map rowB).length, I s.at_, B s.bad]
theorem rnumO_ok (b : List UInt8) (s : RS) (hb : b.length ≤ 4000000000) (hp : s.at_ ≤ b.length) :
    ACalls prog 65 2 [.ptr 0 0] [(0, rcellO 1 b s), (1, .arr 1 (b.map rowB))] fun r h => r = I (numR b s).1 ∧ h = [(0, rcellO 1 b (numR b s).2), (1, .arr 1 (b.map rowB))] := by
  obtain ⟨p, bad⟩ := s
  have hg := getN_ok b p 65536 hb hp (by decide)
  refine fnC lay_ok func65 rfl rfl rfl rfl rfl ?_
  cases bad with
  | true =>
    repeat' first | refine stp lay_ok rfl ?_ | refine fin ?_ | refine n_thn ?_ | refine r_thn ?_ | refine .seq ?_ | refine reg ?_ | refine .ret ?_ | refine cndT rfl ?_ | fail
    refine f_r [(0, rcellO 1 b ⟨p, true⟩), (1, .arr 1 (b.map rowB))] rfl (by (repeat' first | exact trivial | refine And.intro ?_ ?_ | rfl); first | done | fail) rfl ⟨?_, rfl⟩
    rfl
  | false =>
    cases hc : gnC b p 65536 with
    | error e =>
      have hn : numR b ⟨p, false⟩ = (0, ⟨p, true⟩) := by simp [numR, hc]
      rw [hc] at hg; simp only [gnX] at hg
      rw [hn]
      repeat' first | refine stp lay_ok rfl ?_ | refine fin ?_ | refine n_thn ?_ | refine .seq ?_ | refine reg ?_ | refine .skip ?_ | refine cndF rfl ?_ | fail
      refine dreg [(0, [], [15, 16, 17, 18]), (1, [0], [15, 16, 17, 18]), (2, [0, 1], [15, 16, 17, 18]), (3, [0, 1, 2], [15, 16, 17, 18]), (4, [], [11, 12, 13, 14]), (5, [4], [11, 12, 13, 14]), (6, [4, 5], [11, 12, 13, 14]), (7, [4, 5, 6], [11, 12, 13, 14]), (8, [0, 1, 2, 3, 4, 5, 6, 7], []), (9, [0, 1, 2, 3, 4, 5, 6, 7, 8], []), (10, [0, 1, 2, 3, 4, 5, 6, 7, 8, 9], [21, 22]), (11, [0, 1, 2, 3, 4, 5, 6, 7, 8, 9], [20, 22, 3]), (12, [0, 1, 2, 3, 4, 5, 6, 7, 8, 9], [20, 21, 3, 4]), (13, [0, 1, 2, 3, 4, 5, 6, 7, 8, 9, 10], [21, 22]), (14, [0, 1, 2, 3, 4, 5, 6, 7, 8, 9, 10, 11, 13], [22]), (15, [0, 1, 2, 3, 4, 5, 6, 7, 8, 9, 10, 11, 12, 13, 14], [])] mixed (by kernel_rfl) ?_
      repeat' first | refine stp lay_ok rfl ?_ | refine fin ?_ | refine n_thn ?_ | refine r_thn ?_ | refine .seq ?_ | refine reg ?_ | refine .ret ?_ | refine cndT rfl ?_ | refine dws lay_ok rfl rfl rfl rfl rfl rfl rfl ?_ | refine dw_end ?_ | refine dwb rfl rfl rfl rfl rfl (by (first | refine st_borrow (hg) b109 rfl rfl (by (repeat' first | refine Borrow.cons' rfl ?_ ?_ | exact Borrow.nil' rfl | exact trivial | exact rfl | refine And.intro ?_ ?_); first | done | fail) rfl ?_); exact fin rfl) rfl rfl ?_ | fail
      refine f_r [(0, rcellO 1 b ⟨p, true⟩), (1, .arr 1 (b.map rowB))] rfl (by (repeat' first | exact trivial | refine And.intro ?_ ?_ | rfl); first | done | fail) rfl ⟨?_, rfl⟩
      rfl
    | ok x =>
      obtain ⟨n, q⟩ := x
      have hle := gnC_le hp hc
      have hn : numR b ⟨p, false⟩ = (n, ⟨q, false⟩) := by simp [numR, hc]
      rw [hc] at hg; simp only [gnX] at hg
      rw [hn]
      repeat' first | refine stp lay_ok rfl ?_ | refine fin ?_ | refine n_thn ?_ | refine .seq ?_ | refine reg ?_ | refine .skip ?_ | refine cndF rfl ?_ | fail
      refine dreg [(0, [], [15, 16, 17, 18]), (1, [0], [15, 16, 17, 18]), (2, [0, 1], [15, 16, 17, 18]), (3, [0, 1, 2], [15, 16, 17, 18]), (4, [], [11, 12, 13, 14]), (5, [4], [11, 12, 13, 14]), (6, [4, 5], [11, 12, 13, 14]), (7, [4, 5, 6], [11, 12, 13, 14]), (8, [0, 1, 2, 3, 4, 5, 6, 7], []), (9, [0, 1, 2, 3, 4, 5, 6, 7, 8], []), (10, [0, 1, 2, 3, 4, 5, 6, 7, 8, 9], [21, 22]), (11, [0, 1, 2, 3, 4, 5, 6, 7, 8, 9], [20, 22, 3]), (12, [0, 1, 2, 3, 4, 5, 6, 7, 8, 9], [20, 21, 3, 4]), (13, [0, 1, 2, 3, 4, 5, 6, 7, 8, 9, 10], [21, 22]), (14, [0, 1, 2, 3, 4, 5, 6, 7, 8, 9, 10, 11, 13], [22]), (15, [0, 1, 2, 3, 4, 5, 6, 7, 8, 9, 10, 11, 12, 13, 14], [])] mixed (by kernel_rfl) ?_
      repeat' first | refine wr (by omega) ?_ | refine stp lay_ok rfl ?_ | refine fin ?_ | refine n_thn ?_ | refine .seq ?_ | refine reg ?_ | refine .skip ?_ | refine .ret ?_ | refine cndF rfl ?_ | refine dws lay_ok rfl rfl rfl rfl rfl rfl rfl ?_ | refine dw_end ?_ | refine dwb rfl rfl rfl rfl rfl (by (first | refine st_borrow (hg) b109 rfl rfl (by (repeat' first | refine Borrow.cons' rfl ?_ ?_ | exact Borrow.nil' rfl | exact trivial | exact rfl | refine And.intro ?_ ?_); first | done | fail) rfl ?_); exact fin rfl) rfl rfl ?_ | fail
      refine f_r [(0, rcellO 1 b ⟨q, false⟩), (1, .arr 1 (b.map rowB))] rfl (by (repeat' first | exact trivial | refine And.intro ?_ ?_ | rfl); first | done | fail) rfl ⟨?_, rfl⟩
      rfl
theorem rtextO_ok (b : List UInt8) (s : RS) (hb : b.length ≤ 4000000000) (hp : s.at_ ≤ b.length) :
    ACalls prog 110 2 [.ptr 0 0] [(0, rcellO 1 b s), (1, .arr 1 (b.map rowB))] fun r h => r = Sx (textR b s).1 ∧ h = [(0, rcellO 1 b (textR b s).2), (1, .arr 1 (b.map rowB))] := by
  obtain ⟨p, bad⟩ := s
  have hg := getT_ok b p hb hp
  refine fnC lay_ok func110 rfl rfl rfl rfl rfl ?_
  cases bad with
  | true =>
    repeat' first | refine stp lay_ok rfl ?_ | refine fin ?_ | refine n_thn ?_ | refine r_thn ?_ | refine .seq ?_ | refine reg ?_ | refine .ret ?_ | refine cndT rfl ?_ | fail
    refine f_r [(0, rcellO 1 b ⟨p, true⟩), (1, .arr 1 (b.map rowB))] rfl (by (repeat' first | exact trivial | refine And.intro ?_ ?_ | rfl); first | done | fail) rfl ⟨?_, rfl⟩
    rfl
  | false =>
    cases hc : txC b p with
    | error e =>
      have hn : textR b ⟨p, false⟩ = (mt, ⟨p, true⟩) := by simp [textR, hc]
      rw [hc] at hg; simp only [txX] at hg
      rw [hn]
      repeat' first | refine stp lay_ok rfl ?_ | refine fin ?_ | refine n_thn ?_ | refine .seq ?_ | refine reg ?_ | refine .skip ?_ | refine cndF rfl ?_ | fail
      refine dreg [(0, [], [15, 16, 17, 18]), (1, [0], [15, 16, 17, 18]), (2, [0, 1], [15, 16, 17, 18]), (3, [0, 1, 2], [15, 16, 17, 18]), (4, [], [11, 12, 13, 14]), (5, [4], [11, 12, 13, 14]), (6, [4, 5], [11, 12, 13, 14]), (7, [4, 5, 6], [11, 12, 13, 14]), (8, [0, 1, 2, 3, 4, 5, 6, 7], []), (9, [0, 1, 2, 3, 4, 5, 6, 7, 8], []), (10, [0, 1, 2, 3, 4, 5, 6, 7, 8, 9], [21, 22]), (11, [0, 1, 2, 3, 4, 5, 6, 7, 8, 9], [20, 22, 3]), (12, [0, 1, 2, 3, 4, 5, 6, 7, 8, 9], [20, 21, 3, 4]), (13, [0, 1, 2, 3, 4, 5, 6, 7, 8, 9, 10], [21, 22]), (14, [0, 1, 2, 3, 4, 5, 6, 7, 8, 9, 10, 11, 13], [22]), (15, [0, 1, 2, 3, 4, 5, 6, 7, 8, 9, 10, 11, 12, 13, 14], [])] mixed (by kernel_rfl) ?_
      repeat' first | refine stp lay_ok rfl ?_ | refine fin ?_ | refine n_thn ?_ | refine r_thn ?_ | refine .seq ?_ | refine reg ?_ | refine .ret ?_ | refine cndT rfl ?_ | refine dws lay_ok rfl rfl rfl rfl rfl rfl rfl ?_ | refine dw_end ?_ | refine dwb rfl rfl rfl rfl rfl (by (first | refine st_borrow (hg) b118 rfl rfl (by (repeat' first | refine Borrow.cons' rfl ?_ ?_ | exact Borrow.nil' rfl | exact trivial | exact rfl | refine And.intro ?_ ?_); first | done | fail) rfl ?_); exact fin rfl) rfl rfl ?_ | fail
      refine f_r [(0, rcellO 1 b ⟨p, true⟩), (1, .arr 1 (b.map rowB))] rfl (by (repeat' first | exact trivial | refine And.intro ?_ ?_ | rfl); first | done | fail) rfl ⟨?_, rfl⟩
      rfl
    | ok x =>
      obtain ⟨n, q⟩ := x
      have hle := txC_le hp hc
      have hn : textR b ⟨p, false⟩ = (n, ⟨q, false⟩) := by simp [textR, hc]
      rw [hc] at hg; simp only [txX] at hg
      rw [hn]
      repeat' first | refine stp lay_ok rfl ?_ | refine fin ?_ | refine n_thn ?_ | refine .seq ?_ | refine reg ?_ | refine .skip ?_ | refine cndF rfl ?_ | fail
      refine dreg [(0, [], [15, 16, 17, 18]), (1, [0], [15, 16, 17, 18]), (2, [0, 1], [15, 16, 17, 18]), (3, [0, 1, 2], [15, 16, 17, 18]), (4, [], [11, 12, 13, 14]), (5, [4], [11, 12, 13, 14]), (6, [4, 5], [11, 12, 13, 14]), (7, [4, 5, 6], [11, 12, 13, 14]), (8, [0, 1, 2, 3, 4, 5, 6, 7], []), (9, [0, 1, 2, 3, 4, 5, 6, 7, 8], []), (10, [0, 1, 2, 3, 4, 5, 6, 7, 8, 9], [21, 22]), (11, [0, 1, 2, 3, 4, 5, 6, 7, 8, 9], [20, 22, 3]), (12, [0, 1, 2, 3, 4, 5, 6, 7, 8, 9], [20, 21, 3, 4]), (13, [0, 1, 2, 3, 4, 5, 6, 7, 8, 9, 10], [21, 22]), (14, [0, 1, 2, 3, 4, 5, 6, 7, 8, 9, 10, 11, 13], [22]), (15, [0, 1, 2, 3, 4, 5, 6, 7, 8, 9, 10, 11, 12, 13, 14], [])] mixed (by kernel_rfl) ?_
      repeat' first | refine stp lay_ok rfl ?_ | refine fin ?_ | refine n_thn ?_ | refine .seq ?_ | refine reg ?_ | refine .skip ?_ | refine .ret ?_ | refine cndF rfl ?_ | refine dws lay_ok rfl rfl rfl rfl rfl rfl rfl ?_ | refine dw_end ?_ | refine dwb rfl rfl rfl rfl rfl (by (first | refine st_borrow (hg) b118 rfl rfl (by (repeat' first | refine Borrow.cons' rfl ?_ ?_ | exact Borrow.nil' rfl | exact trivial | exact rfl | refine And.intro ?_ ?_); first | done | fail) rfl ?_); exact fin rfl) rfl rfl ?_ | fail
      refine f_r [(0, rcellO 1 b ⟨q, false⟩), (1, .arr 1 (b.map rowB))] rfl (by (repeat' first | exact trivial | refine And.intro ?_ ?_ | rfl); first | done | fail) rfl ⟨?_, rfl⟩
      rfl
theorem rentryO_ok (b : List UInt8) (s : RS) (hb : b.length ≤ 4000000000) (hp : s.at_ ≤ b.length) :
    ACalls prog 111 2 [.ptr 0 0] [(0, rcellO 1 b s), (1, .arr 1 (b.map rowB))] fun r h => r = .st (.agg (rowE (entryR b s).1)) ∧ h = [(0, rcellO 1 b (entryR b s).2), (1, .arr 1 (b.map rowB))] := by
  have hT := rtextO_ok b s hb hp
  have hle := textR_le hp
  simp only [entryR]
  generalize textR b s = r1 at *
  obtain ⟨p, s1⟩ := r1
  simp only at *
  have hN := rnumO_ok b s1 hb hle.1
  have hle1 := numR_le hle.1
  generalize numR b s1 = r2 at *
  obtain ⟨z, s2⟩ := r2
  simp only at *
  have hN2 := rnumO_ok b s2 hb hle1.1
  have hle2 := numR_le hle1.1
  generalize numR b s2 = r3 at *
  obtain ⟨n, s3⟩ := r3
  simp only at *
  refine ACalls.drop1 (h1 := [(0, rcellO 1 b (textsR b n s3 []).2), (1, .arr 1 (b.map rowB)), (2, .cells [.st (.str p), .st (.int .i64 (z : Int)), .st (.sl 1 ((textsR b n s3 []).1.map rowS))])]) ⟨rfl, rfl, trivial⟩ ?_
  refine fnC lay_ok func111 rfl rfl rfl rfl rfl ?_
  repeat' first | refine stp lay_ok rfl ?_ | refine fin ?_ | refine n_thn ?_ | refine .seq ?_ | refine reg ?_ | refine .block ?_ | (refine o_none rfl ?_; (first | refine st_callG [0,1] 0 (hT) b110 rfl rfl rfl rfl rfl (by (repeat' first | exact trivial | refine And.intro ?_ ?_ | rfl); first | done | fail) rfl ?_ | refine st_callG [0,1] 0 (hN) b65 rfl rfl rfl rfl rfl (by (repeat' first | exact trivial | refine And.intro ?_ ?_ | rfl); first | done | fail) rfl ?_ | refine st_callG [0,1] 0 (hN2) b65 rfl rfl rfl rfl rfl (by (repeat' first | exact trivial | refine And.intro ?_ ?_ | rfl); first | done | fail) rfl ?_)) | fail
  refine CodeOk.wk (Wk.nilC 1 3 2 rfl rfl rfl rfl rfl) (Nat.le_succ _) ?_
  refine nrm rfl rfl ?_
  refine lpR (fun (s, ks, f) => s.at_ ≤ b.length ∧ ks.length + f ≤ 65536 ∧ textsR b n s3 [] = textsR b f s ks) (fun (s, ks, f) => f) (fun (s, ks, f) => [(4, I f)]) (fun (s, ks, f) => [(0, rcellO 1 b s), (3, .cells [.st (.str p), .st (.int .i64 (z : Int)), .lsl 5 1 0 (ks.map rowS).length]), (5, .arr 1 (ks.map rowS))]) ((s3, [], n)) [0, 2, 3] [0, 3] [4] rfl rfl rfl (.of [4] (by (repeat' first | exact trivial | refine And.intro ?_ ?_ | rfl); first | done | fail) (by (repeat' first | exact trivial | refine And.intro ?_ ?_ | rfl); first | done | fail) rfl) ?_ ?_
  · exact ⟨hle2.1, by simp; omega, rfl⟩
  rintro ⟨⟨q, bad⟩, ks, f⟩ ⟨g1, g2, g3⟩
  refine nrm rfl rfl ?_
  rw [g3]
  clear g3
  cases f with
  | zero =>
    rw [textsR]
    repeat' first | refine stp lay_ok rfl ?_ | refine fin ?_ | refine n_thn ?_ | refine e_thn ?_ | refine e_hit ?_ | refine e_rr ?_ | refine .seq ?_ | refine reg ?_ | refine .ret ?_ | refine .exit ?_ | refine cndF rfl ?_ | fail
    refine f_end (n0 := 3) (t'' := [(2, .ptr 2 0)]) (h'' := [(0, rcellO 1 b ⟨q, bad⟩), (1, .arr 1 (b.map rowB)), (2, .cells [.st (.str p), .st (.int .i64 (z : Int)), .st (.sl 1 (ks.map rowS))])]) (Wk.then (Wk.frz 5 [2] rfl rfl rfl (by (repeat' first | exact trivial | refine And.intro ?_ ?_ | rfl); first | done | fail) (by (repeat' first | exact trivial | refine And.intro ?_ ?_ | rfl); first | done | fail) rfl rfl) (WkR.of [2] (by (repeat' first | exact trivial | refine And.intro ?_ ?_ | rfl); first | done | fail) (by (repeat' first | exact trivial | refine And.intro ?_ ?_ | rfl); first | done | fail) rfl)) rfl rfl ⟨?_, rfl⟩
    rfl
  | succ f =>
    cases bad with
    | true =>
      rw [textsR, if_pos rfl]
      repeat' first | refine stp lay_ok rfl ?_ | refine fin ?_ | refine n_thn ?_ | refine e_thn ?_ | refine e_hit ?_ | refine e_rr ?_ | refine .seq ?_ | refine reg ?_ | refine .ret ?_ | refine .exit ?_ | refine cndF rfl ?_ | refine gd rfl rfl rfl (fun hg => ?_) (fun hg => ?_) | fail
      · refine f_end (n0 := 3) (t'' := [(2, .ptr 2 0)]) (h'' := [(0, rcellO 1 b ⟨q, true⟩), (1, .arr 1 (b.map rowB)), (2, .cells [.st (.str p), .st (.int .i64 (z : Int)), .st (.sl 1 (ks.map rowS))])]) (Wk.then (Wk.frz 5 [2] rfl rfl rfl (by (repeat' first | exact trivial | refine And.intro ?_ ?_ | rfl); first | done | fail) (by (repeat' first | exact trivial | refine And.intro ?_ ?_ | rfl); first | done | fail) rfl rfl) (WkR.of [2] (by (repeat' first | exact trivial | refine And.intro ?_ ?_ | rfl); first | done | fail) (by (repeat' first | exact trivial | refine And.intro ?_ ?_ | rfl); first | done | fail) rfl)) rfl rfl ⟨?_, rfl⟩
        rfl
      · exfalso; omega
    | false =>
      rw [textsR, if_neg (by simp)]
      have hT := rtextO_ok b ⟨q, false⟩ hb g1
      have hle := textR_le (s := ⟨q, false⟩) g1
      generalize textR b ⟨q, false⟩ = r1 at *
      obtain ⟨x, s1⟩ := r1
      simp only at *
      have hm : (List.map rowS ks).length = ks.length := List.length_map _
      have hr : List.map rowS ks ++ [[SV.str x]] = List.map rowS (ks ++ [x]) := by rw [List.map_append]; rfl
      repeat' first | refine stp lay_ok rfl ?_ | refine fin ?_ | refine n_thn ?_ | refine e_thn ?_ | refine e_hit ?_ | refine e_rr ?_ | refine .seq ?_ | refine reg ?_ | refine .block ?_ | refine .skip ?_ | refine .ret ?_ | refine .exit ?_ | refine cndT rfl ?_ | refine cndF rfl ?_ | refine gd rfl rfl rfl (fun hg => ?_) (fun hg => ?_) | fail
      · refine dreg [(0, [], [25, 26, 27]), (1, [0], [25, 26, 27]), (2, [], [23, 24]), (3, [2], [23, 24]), (4, [2, 3], [23, 24]), (5, [0, 1, 2, 3, 4], []), (6, [0, 1, 2, 3, 4, 5], []), (7, [0, 1, 2, 3, 4, 5, 6], [])] mixed (by kernel_rfl) ?_
        repeat' first | refine wr (by omega) ?_ | refine stp lay_ok rfl ?_ | refine fin ?_ | refine n_thn ?_ | refine n_blk ?_ | refine reg ?_ | refine dws lay_ok rfl rfl rfl rfl rfl rfl rfl ?_ | refine dwu lay_ok rfl rfl rfl rfl rfl rfl rfl rfl rfl ?_ | refine dw_end ?_ | refine dwG [0,1] rfl rfl rfl rfl (by refine st_callG [0,1] 0 (hT) b110 rfl rfl rfl rfl rfl (by (repeat' first | exact trivial | refine And.intro ?_ ?_ | rfl); first | done | fail) rfl ?_; exact fin rfl) rfl rfl rfl rfl rfl ?_ | refine dwg rfl rfl rfl rfl rfl (by (first | refine st_callG [0,1] 0 (hT) b110 rfl rfl rfl rfl rfl (by (repeat' first | exact trivial | refine And.intro ?_ ?_ | rfl); first | done | fail) rfl ?_ | refine st_append lay_ok rfl rfl rfl rfl rfl rfl rfl rfl (.lsl rfl rfl) .sl rfl (rowS_one (b := [x])) (by simp only [List.length_cons, List.length_nil]; omega) (by simp only [List.length_cons, List.length_nil]; omega) ?_); exact fin rfl) rfl rfl rfl rfl rfl ?_ | fail
        rw [hr]
        refine n_rr ((s1, ks ++ [x], f)) ?_ (.of [6] (by (repeat' first | exact trivial | refine And.intro ?_ ?_ | rfl | exact congrArg (fun z : Int => some (AV.st (.int .i64 z))) (show ((f + 1 : Nat) : Int) - 1 = (f : Int) by omega)); first | done | fail) (by (repeat' first | exact trivial | refine And.intro ?_ ?_ | rfl | exact congrArg (fun z : Int => some (AV.st (.int .i64 z))) (show ((f + 1 : Nat) : Int) - 1 = (f : Int) by omega)); first | done | fail) rfl) ?_
        · exact Nat.lt_succ_self _
        · exact ⟨hle.1, by show (ks ++ [x]).length + f ≤ 65536; rw [List.length_append, List.length_singleton]; omega, rfl⟩
      · exfalso; omega
theorem rsnapO_ok (b : List UInt8) (s : RS) (hb : b.length ≤ 4000000000) (hp : s.at_ ≤ b.length) :
    ACalls prog 66 2 [.ptr 0 0] [(0, rcellO 1 b s), (1, .arr 1 (b.map rowB))] fun r h => r = .st (.agg (rowN (snapR b s).1)) ∧ h = [(0, rcellO 1 b (snapR b s).2), (1, .arr 1 (b.map rowB))] := by
  have hN1 := rnumO_ok b s hb hp
  have hle1 := numR_le hp
  simp only [snapR]
  generalize numR b s = r1 at *
  obtain ⟨c, s1⟩ := r1
  simp only at *
  have hT := rtextO_ok b s1 hb hle1.1
  have hle2 := textR_le hle1.1
  generalize textR b s1 = r2 at *
  obtain ⟨p, s2⟩ := r2
  simp only at *
  have hN2 := rnumO_ok b s2 hb hle2.1
  have hle3 := numR_le hle2.1
  generalize numR b s2 = r3 at *
  obtain ⟨d, ⟨q3, bad3⟩⟩ := r3
  simp only at *
  have hN3 := rnumO_ok b ⟨q3, bad3 || decide ((d : Int) > 1)⟩ hb hle3.1
  have hle4 := numR_le (b := b) (s := ⟨q3, bad3 || decide ((d : Int) > 1)⟩) hle3.1
  generalize numR b ⟨q3, bad3 || decide ((d : Int) > 1)⟩ = r4 at *
  obtain ⟨n, s4⟩ := r4
  simp only at *
  generalize hz : decide ((d : Int) = 1) = z
  refine ACalls.drop1 (h1 := [(0, rcellO 1 b (entsR b n s4 []).2), (1, .arr 1 (b.map rowB)), (2, .cells [.st (.int .i64 (c : Int)), .st (.str p), .st (.bool z), .st (.sl 3 ((entsR b n s4 []).1.map rowE))])]) ⟨rfl, rfl, trivial⟩ ?_
  refine fnC lay_ok func66 rfl rfl rfl rfl rfl ?_
  cases bad3
  all_goals
    repeat' first | refine stp lay_ok rfl ?_ | refine fin ?_ | refine n_thn ?_ | refine .seq ?_ | refine reg ?_ | refine .block ?_ | (refine o_none rfl ?_; (first | refine st_callG [0,1] 0 (hN1) b65 rfl rfl rfl rfl rfl (by (repeat' first | exact trivial | refine And.intro ?_ ?_ | rfl); first | done | fail) rfl ?_ | refine st_callG [0,1] 0 (hT) b110 rfl rfl rfl rfl rfl (by (repeat' first | exact trivial | refine And.intro ?_ ?_ | rfl); first | done | fail) rfl ?_ | refine st_callG [0,1] 0 (hN2) b65 rfl rfl rfl rfl rfl (by (repeat' first | exact trivial | refine And.intro ?_ ?_ | rfl); first | done | fail) rfl ?_ | refine st_callG [0,1] 0 (hN3) b65 rfl rfl rfl rfl rfl (by (repeat' first | exact trivial | refine And.intro ?_ ?_ | rfl); first | done | fail) rfl ?_)) | fail
  all_goals
    rw [hz]
    clear hN1 hN2 hN3 hT
    refine CodeOk.wk (Wk.nilC 3 3 3 rfl rfl rfl rfl rfl) (Nat.le_succ _) ?_
    refine nrm rfl rfl ?_
    refine lpR (fun (s, es, f) => s.at_ ≤ b.length ∧ es.length + f ≤ 65536 ∧ entsR b n s4 [] = entsR b f s es) (fun (s, es, f) => f) (fun (s, es, f) => [(5, I f)]) (fun (s, es, f) => [(0, rcellO 1 b s), (3, .cells [.st (.int .i64 (c : Int)), .st (.str p), .st (.bool z), .lsl 5 3 0 (es.map rowE).length]), (5, .arr 3 (es.map rowE))]) ((s4, [], n)) [0, 2, 3] [0, 3] [4] rfl rfl rfl (.of [4] (by (repeat' first | exact trivial | refine And.intro ?_ ?_ | rfl); first | done | fail) (by (repeat' first | exact trivial | refine And.intro ?_ ?_ | rfl); first | done | fail) rfl) ?_ ?_
    · exact ⟨hle4.1, by simp; omega, rfl⟩
    rintro ⟨⟨q, bad⟩, es, f⟩ ⟨g1, g2, g3⟩
    refine nrm rfl rfl ?_
    rw [g3]
    clear g3
    cases f with
    | zero =>
      rw [entsR]
      repeat' first | refine stp lay_ok rfl ?_ | refine fin ?_ | refine n_thn ?_ | refine e_thn ?_ | refine e_hit ?_ | refine e_rr ?_ | refine .seq ?_ | refine reg ?_ | refine .ret ?_ | refine .exit ?_ | refine cndF rfl ?_ | fail
      refine f_end (n0 := 3) (t'' := [(2, .ptr 2 0)]) (h'' := [(0, rcellO 1 b ⟨q, bad⟩), (1, .arr 1 (b.map rowB)), (2, .cells [.st (.int .i64 (c : Int)), .st (.str p), .st (.bool z), .st (.sl 3 (es.map rowE))])]) (Wk.then (Wk.frz 5 [2] rfl rfl rfl (by (repeat' first | exact trivial | refine And.intro ?_ ?_ | rfl); first | done | fail) (by (repeat' first | exact trivial | refine And.intro ?_ ?_ | rfl); first | done | fail) rfl rfl) (WkR.of [2] (by (repeat' first | exact trivial | refine And.intro ?_ ?_ | rfl); first | done | fail) (by (repeat' first | exact trivial | refine And.intro ?_ ?_ | rfl); first | done | fail) rfl)) rfl rfl ⟨?_, rfl⟩
      rfl
    | succ f =>
      cases bad with
      | true =>
        rw [entsR, if_pos rfl]
        repeat' first | refine stp lay_ok rfl ?_ | refine fin ?_ | refine n_thn ?_ | refine e_thn ?_ | refine e_hit ?_ | refine e_rr ?_ | refine .seq ?_ | refine reg ?_ | refine .ret ?_ | refine .exit ?_ | refine cndF rfl ?_ | refine gd rfl rfl rfl (fun hg => ?_) (fun hg => ?_) | fail
        · refine f_end (n0 := 3) (t'' := [(2, .ptr 2 0)]) (h'' := [(0, rcellO 1 b ⟨q, true⟩), (1, .arr 1 (b.map rowB)), (2, .cells [.st (.int .i64 (c : Int)), .st (.str p), .st (.bool z), .st (.sl 3 (es.map rowE))])]) (Wk.then (Wk.frz 5 [2] rfl rfl rfl (by (repeat' first | exact trivial | refine And.intro ?_ ?_ | rfl); first | done | fail) (by (repeat' first | exact trivial | refine And.intro ?_ ?_ | rfl); first | done | fail) rfl rfl) (WkR.of [2] (by (repeat' first | exact trivial | refine And.intro ?_ ?_ | rfl); first | done | fail) (by (repeat' first | exact trivial | refine And.intro ?_ ?_ | rfl); first | done | fail) rfl)) rfl rfl ⟨?_, rfl⟩
          rfl
        · exfalso; omega
      | false =>
        rw [entsR, if_neg (by simp)]
        have hE := rentryO_ok b ⟨q, false⟩ hb g1
        have hle := entryR_le (s := ⟨q, false⟩) g1
        generalize entryR b ⟨q, false⟩ = r1 at *
        obtain ⟨x, s1⟩ := r1
        simp only at *
        have hm : (List.map rowE es).length = es.length := List.length_map _
        have hr : List.map rowE es ++ [rowE x] = List.map rowE (es ++ [x]) := by rw [List.map_append]; rfl
        repeat' first | refine stp lay_ok rfl ?_ | refine fin ?_ | refine n_thn ?_ | refine e_thn ?_ | refine e_hit ?_ | refine e_rr ?_ | refine .seq ?_ | refine reg ?_ | refine .block ?_ | refine .skip ?_ | refine .ret ?_ | refine .exit ?_ | refine cndT rfl ?_ | refine cndF rfl ?_ | refine gd rfl rfl rfl (fun hg => ?_) (fun hg => ?_) | fail
        · refine dreg [(0, [], [42, 43, 44]), (1, [0], [42, 43, 44]), (2, [], [40, 41]), (3, [2], [40, 41]), (4, [2, 3], [40, 41]), (5, [0, 1, 2, 3, 4], []), (6, [0, 1, 2, 3, 4, 5], []), (7, [0, 1, 2, 3, 4, 5, 6], [])] mixed (by kernel_rfl) ?_
          repeat' first | refine wr (by omega) ?_ | refine stp lay_ok rfl ?_ | refine fin ?_ | refine n_thn ?_ | refine n_blk ?_ | refine reg ?_ | refine dws lay_ok rfl rfl rfl rfl rfl rfl rfl ?_ | refine dwu lay_ok rfl rfl rfl rfl rfl rfl rfl rfl rfl ?_ | refine dw_end ?_ | refine dwG [0,1] rfl rfl rfl rfl (by refine st_callG [0,1] 0 (hE) b111 rfl rfl rfl rfl rfl (by (repeat' first | exact trivial | refine And.intro ?_ ?_ | rfl); first | done | fail) rfl ?_; exact fin rfl) rfl rfl rfl rfl rfl ?_ | refine dwg rfl rfl rfl rfl rfl (by (first | refine st_callG [0,1] 0 (hE) b111 rfl rfl rfl rfl rfl (by (repeat' first | exact trivial | refine And.intro ?_ ?_ | rfl); first | done | fail) rfl ?_ | refine st_append lay_ok rfl rfl rfl rfl rfl rfl rfl rfl (.lsl rfl rfl) (.sl (rows := [rowE x])) rfl (rowE_one (b := [x])) (by simp only [List.length_cons, List.length_nil]; omega) (by simp only [List.length_cons, List.length_nil]; omega) ?_); exact fin rfl) rfl rfl rfl rfl rfl ?_ | fail
          rw [hr]
          refine n_rr ((s1, es ++ [x], f)) ?_ (.of [6] (by (repeat' first | exact trivial | refine And.intro ?_ ?_ | rfl | exact congrArg (fun z : Int => some (AV.st (.int .i64 z))) (show ((f + 1 : Nat) : Int) - 1 = (f : Int) by omega)); first | done | fail) (by (repeat' first | exact trivial | refine And.intro ?_ ?_ | rfl | exact congrArg (fun z : Int => some (AV.st (.int .i64 z))) (show ((f + 1 : Nat) : Int) - 1 = (f : Int) by omega)); first | done | fail) rfl) ?_
          · exact Nat.lt_succ_self _
          · exact ⟨hle.1, by show (es ++ [x]).length + f ≤ 65536; rw [List.length_append, List.length_singleton]; omega, rfl⟩
        · exfalso; omega
theorem getO_ok (b : List UInt8) (l0 : List NV) (hb : b.length ≤ 4000000000) (hgr : getR b = some l0) : ACalls prog 32 1 [.lsl 0 1 0 (b.map rowB).length] [(0, .arr 1 (b.map rowB))] fun r h => r = .tuple [.ptr 1 0, nilE] ∧ h = [(0, .arr 1 (b.map rowB)), (1, .cells [.st (.sl 4 (l0.map rowN))])] := by
  have hN := rnumO_ok b ⟨0, false⟩ hb (Nat.zero_le _)
  have hle := numR_le (b := b) (s := ⟨0, false⟩) (Nat.zero_le _)
  simp only [getR] at hgr
  generalize numR b ⟨0, false⟩ = r0 at *
  obtain ⟨n, s0⟩ := r0
  simp only at *
  have hlb : (List.map rowB b).length = b.length := List.length_map _
  refine fnC lay_ok func32 rfl rfl rfl rfl rfl ?_
  repeat' first | refine stp lay_ok rfl ?_ | refine fin ?_ | refine n_thn ?_ | refine .seq ?_ | refine reg ?_ | refine .block ?_ | (refine o_none rfl ?_; refine st_callG [1,0] 0 (hN) b65 rfl rfl rfl rfl rfl (by (repeat' first | exact trivial | refine And.intro ?_ ?_ | rfl); first | done | fail) rfl ?_) | fail
  refine CodeOk.wk (Wk.nilT 4 5 rfl rfl) (Nat.le_succ _) ?_
  refine nrm rfl rfl ?_
  refine lpR (fun (s, l, f) => s.at_ ≤ b.length ∧ l.length + f ≤ 65536 ∧ snapsR b n s0 [] = snapsR b f s l ∧ (∀ e ∈ l, e.red)) (fun (s, l, f) => f) (fun (s, l, f) => [(6, I f), (5, .lsl 3 4 0 (l.map rowN).length)]) (fun (s, l, f) => [(1, rcellO 0 b s), (3, .arr 4 (l.map rowN))]) ((s0, [], n)) [0, 4] [1] [2] rfl rfl rfl (.of [2] (by (repeat' first | exact trivial | refine And.intro ?_ ?_ | rfl); first | done | fail) (by (repeat' first | exact trivial | refine And.intro ?_ ?_ | rfl); first | done | fail) rfl) ?_ ?_
  · exact ⟨hle.1, by simp; omega, rfl, fun e he => by cases he⟩
  rintro ⟨⟨q, bad⟩, l, f⟩ ⟨g1, g2, g3, g4⟩
  refine nrm rfl rfl ?_
  rw [g3] at hgr ⊢
  clear g3
  have hm : (List.map rowN l).length = l.length := List.length_map _
  cases f with
  | zero =>
    rw [snapsR] at hgr
    simp only at hgr
    cases bad with
    | true => simp at hgr
    | false =>
      by_cases hq : q < b.length
      · simp [hq] at hgr
      · simp only [Bool.false_or, decide_eq_true_eq, if_neg hq] at hgr
        have hfb : fromB l = true := by
          cases h : fromB l with
          | true => rfl
          | false => rw [h] at hgr; simp at hgr
        rw [hfb, if_pos rfl] at hgr
        cases hgr
        have hfr := from_ok l0 (by simp only [Nat.add_zero] at g2; omega) (fun s hs => (g4 s hs).fit) hfb
        repeat' first | refine o_frzA (f := 47) rfl rfl rfl rfl (by (repeat' first | exact trivial | refine And.intro ?_ ?_ | rfl); first | done | fail) (by (repeat' first | exact trivial | refine And.intro ?_ ?_ | rfl); first | done | fail) rfl rfl ?_ | refine ln ?_ | refine stp lay_ok rfl ?_ | refine fin ?_ | refine n_thn ?_ | refine e_thn ?_ | refine e_hit ?_ | refine r_thn ?_ | refine e_rr ?_ | refine .seq ?_ | refine reg ?_ | refine .skip ?_ | refine .ret ?_ | refine .exit ?_ | refine cndF rfl ?_ | refine c_dec rfl (fun hc => ?_) (fun hc => ?_) | (refine o_none rfl ?_; refine st_callF 1 (hfr) b47 rfl rfl rfl rfl rfl rfl (by (repeat' first | exact trivial | refine And.intro ?_ ?_ | rfl); first | done | fail) rfl ?_) | fail
        all_goals first
          | (exfalso; simp only at *; omega)
          | (refine f_end (n0 := 2) (t'' := [(2, .ptr 1 0), (3, nilE)]) (h'' := [(0, .arr 1 (b.map rowB)), (1, .cells [.st (.sl 4 (l0.map rowN))])]) (WkR.of [4] (by (repeat' first | exact trivial | refine And.intro ?_ ?_ | rfl); first | done | fail) (by (repeat' first | exact trivial | refine And.intro ?_ ?_ | rfl); first | done | fail) rfl) rfl rfl ⟨?_, rfl⟩; rfl)
  | succ f =>
    cases bad with
    | true =>
      rw [snapsR, if_pos rfl] at hgr
      simp at hgr
    | false =>
      simp only [snapsR, if_neg (show ¬ (false = true) by simp)] at hgr
      rw [snapsR, if_neg (by simp)]
      have hE := rsnapO_ok b ⟨q, false⟩ hb g1
      have hle := snapR_le (s := ⟨q, false⟩) g1
      generalize snapR b ⟨q, false⟩ = r1 at *
      obtain ⟨x, s1⟩ := r1
      simp only at *
      have hr : List.map rowN l ++ [rowN x] = List.map rowN (l ++ [x]) := by rw [List.map_append]; rfl
      repeat' first | refine wr (by omega) ?_ | refine ln ?_ | refine stp lay_ok rfl ?_ | refine fin ?_ | refine n_thn ?_ | refine n_blk ?_ | refine e_thn ?_ | refine e_hit ?_ | refine r_thn ?_ | refine e_rr ?_ | refine .seq ?_ | refine reg ?_ | refine .block ?_ | refine .skip ?_ | refine .ret ?_ | refine .exit ?_ | refine cndT rfl ?_ | refine cndF rfl ?_ | refine c_dec rfl (fun hc => ?_) (fun hc => ?_) | (refine o_none rfl ?_; (first | refine st_callG [1,0] 0 (hE) b66 rfl rfl rfl rfl rfl (by (repeat' first | exact trivial | refine And.intro ?_ ?_ | rfl); first | done | fail) rfl ?_ | refine st_append lay_ok rfl rfl rfl rfl rfl rfl rfl rfl (.lsl rfl rfl) (.sl (rows := [rowN x])) rfl (rowN_one (b := [x])) (by simp only [List.length_cons, List.length_nil]; omega) (by simp only [List.length_cons, List.length_nil]; omega) ?_)) | refine gd rfl rfl rfl (fun hg => ?_) (fun hg => ?_) | fail
      · rw [hr]
        refine n_rr ((s1, l ++ [x], f)) ?_ (.of [4] (by (repeat' first | exact trivial | refine And.intro ?_ ?_ | rfl | exact congrArg (fun z : Int => some (AV.st (.int .i64 z))) (show ((f + 1 : Nat) : Int) - 1 = (f : Int) by omega)); first | done | fail) (by (repeat' first | exact trivial | refine And.intro ?_ ?_ | rfl | exact congrArg (fun z : Int => some (AV.st (.int .i64 z))) (show ((f + 1 : Nat) : Int) - 1 = (f : Int) by omega)); first | done | fail) rfl) ?_
        · exact Nat.lt_succ_self _
        · refine ⟨hle.1, by show (l ++ [x]).length + f ≤ 65536; rw [List.length_append, List.length_singleton]; omega, rfl, fun e hm => ?_⟩
          rcases List.mem_append.1 hm with hm | hm
          · exact g4 e hm
          · rw [List.mem_singleton] at hm; subst hm; exact hle.2
      all_goals (exfalso; omega)
end Go.Proofs.YtohmbpcjapjkbaaGreatDoorFn
namespace Go.Proofs.YtohmbpcjapjkbaaGreatDoorFn
open Go.Proofs.YtohmbpcjapjkbaaGreatDoorAl Go.Proofs.Tryz
attribute [local irreducible] IntKind.wrap CodeOk OpsL OpG ACalls thn inBlk rndR cutR WkR Wk fnR DW ExtOk partsOf
/-! ### bytes of ours, written -/
theorem icountO_ok (b : List UInt8) (n : Nat) (hb : b.length ≤ 3000000000) (hn : n < 2 ^ 63) : ACalls prog 107 0 [Bs b, I n] [] fun r h => r = .lsl 0 1 0 ((b ++ numL n).map rowB).length ∧ h = [(0, .arr 1 ((b ++ numL n).map rowB))] := by
  refine fnC lay_ok func107 rfl rfl rfl rfl rfl ?_
  have h1 := num_ok b n hb (by omega)
  repeat' first | refine stp lay_ok rfl ?_ | refine fin ?_ | refine n_thn ?_ | refine .seq ?_ | refine reg ?_ | fail
  rw [u64wrap _ (by omega)]
  repeat' first | refine stp lay_ok rfl ?_ | refine fin ?_ | refine n_thn ?_ | refine .ret ?_ | (refine o_none rfl ?_; refine st_callF 1 (h1) b146 rfl rfl rfl rfl rfl rfl (by (repeat' first | exact trivial | refine And.intro ?_ ?_ | rfl); first | done | fail) rfl ?_) | fail
  refine f_end (n0 := 1) (t'' := [(4, .lsl 0 1 0 ((b ++ numL n).map rowB).length)]) (h'' := [(0, .arr 1 ((b ++ numL n).map rowB))]) (WkR.of [0] (by (repeat' first | exact trivial | refine And.intro ?_ ?_ | rfl); first | done | fail) (by (repeat' first | exact trivial | refine And.intro ?_ ?_ | rfl); first | done | fail) rfl) rfl rfl ⟨?_, rfl⟩
  rfl
set_option maxHeartbeats 2000000 in
theorem writtenO_ok (l : List NV) (hl : l.length ≤ 3000000000) (hB : (putL l).length ≤ 3000000000) (hw : ∀ s ∈ l, s.put) : ACalls prog 64 0 [.st (.sl 4 (l.map rowN))] [] fun r h => r = .lsl 0 1 0 ((putL l).map rowB).length ∧ h = [(0, .arr 1 ((putL l).map rowB))] := by
  have hm : (List.map rowN l).length = l.length := List.length_map _
  have h0 := icountO_ok [] l.length (by simp) (by omega)
  rw [List.nil_append, show numL l.length = putK l 0 by simp [putK]] at h0
  have h00 := ACalls.leA (xs := [.st .nilsl, I l.length]) (AVLeL.cons (AVLe.st (SLe.nil 1)) (AVLeL.cons (AVLe.refl _) AVLeL.nil)) h0
  clear h0
  refine fnC lay_ok func64 rfl rfl rfl rfl rfl ?_
  repeat' first | refine ln ?_ | refine stp lay_ok rfl ?_ | refine fin ?_ | refine n_thn ?_ | refine .seq ?_ | refine reg ?_ | refine .block ?_ | (refine o_none rfl ?_; refine st_callF 1 (h00) b107 rfl rfl rfl rfl rfl rfl (by (repeat' first | exact trivial | refine And.intro ?_ ?_ | rfl); first | done | fail) rfl ?_) | fail
  refine lpR (fun k => k ≤ l.length) (fun k => l.length - k) (fun k => [(16, I k), (3, .lsl 1 1 0 ((putK l k).map rowB).length)]) (fun k => [(1, .arr 1 ((putK l k).map rowB))]) (0) [14, 15] [] [0] rfl rfl rfl (.of [0] (by (repeat' first | exact trivial | refine And.intro ?_ ?_ | rfl); first | done | fail) (by (repeat' first | exact trivial | refine And.intro ?_ ?_ | rfl); first | done | fail) rfl) ?_ ?_
  · exact Nat.zero_le _
  rintro k hk
  refine nrm rfl rfl ?_
  repeat' first | refine stp lay_ok rfl ?_ | refine fin ?_ | refine n_thn ?_ | refine e_thn ?_ | refine e_hit ?_ | refine e_rr ?_ | refine .seq ?_ | refine reg ?_ | refine .block ?_ | refine .skip ?_ | refine .ret ?_ | refine .exit ?_ | refine c_dec rfl (fun hc => ?_) (fun hc => ?_) | fail
  · have hk' : k < l.length := by omega
    have hat : (l.map rowN)[((k : Nat) : Int).toNat]? = some (rowN l[k]) := by simp [hk']
    have hws := hw _ (List.getElem_mem hk')
    have hst : putK l (k + 1) = putK l k ++ snapL l[k] := by rw [putK, flat_take _ hk', putK, List.append_assoc]
    have hle : (putK l (k + 1)).length ≤ 3000000000 := by
      have := flat_le snapL l (k + 1)
      rw [putL, List.length_append] at hB
      rw [putK, List.length_append]; omega
    generalize putK l k = b0 at *
    generalize hb1 : putK l (k + 1) = b1 at *
    generalize l[k] = s at *
    obtain ⟨c, nm, d, es⟩ := s
    obtain ⟨w1, w2, w3, w4, w5⟩ := hws
    simp only at w1 w2 w3 w4 w5
    obtain ⟨c, rfl⟩ : ∃ c' : Nat, c = c' := ⟨c.toNat, by omega⟩
    rw [snapL, headN] at hst
    simp only [Int.toNat_natCast] at hst
    have hlen : b0.length + (numL c).length + (textL nm).length + (numL (if d = true then 1 else 0)).length + (numL es.length).length + ((es.map entL).flatten).length ≤ 3000000000 := by
      rw [hst] at hle; simp only [List.length_append] at hle; omega
    have e1 := icount_ok b0 c (by omega) (by omega)
    have e2 := textF_ok (b0 ++ numL c) nm (by simp only [List.length_append]; omega) w3
    have e3 := icount_ok (b0 ++ numL c ++ textL nm) (if d = true then 1 else 0) (by simp only [List.length_append]; omega) (by split <;> omega)
    have e4 := icountO_ok (b0 ++ numL c ++ textL nm ++ numL (if d = true then 1 else 0)) es.length (by simp only [List.length_append]; omega) (by omega)
    have hst2 : b1 = (b0 ++ numL c ++ textL nm ++ numL (if d = true then 1 else 0) ++ numL es.length) ++ (es.map entL).flatten := by rw [hst]; simp only [List.append_assoc]
    generalize hb2 : b0 ++ numL c ++ textL nm ++ numL (if d = true then 1 else 0) ++ numL es.length = b2 at *
    have hl2 : b2.length + ((es.map entL).flatten).length ≤ 3000000000 := by rw [← List.length_append, ← hst2]; exact hle
    clear hst hb2
    cases d
    all_goals
      repeat' first | refine o_frb 2 [.int .i64 c, .str nm, .bool _, .sl 3 (es.map rowE)] rfl rfl rfl (by (repeat' first | exact trivial | refine And.intro ?_ ?_ | rfl); first | done | fail) (by (repeat' first | exact trivial | refine And.intro ?_ ?_ | rfl); first | done | fail) rfl rfl ?_ | refine stp lay_ok rfl ?_ | refine fin ?_ | refine n_thn ?_ | refine .seq ?_ | refine reg ?_ | refine .skip ?_ | refine cndT rfl ?_ | refine cndF rfl ?_ | (refine o_none rfl ?_; refine st_index (rowN ⟨c, nm, _, es⟩) lay_ok rfl rfl rfl rfl (by omega) hat ?_) | fail
      refine dreg [(0, [], [23, 24, 26, 27, 29, 31, 32, 33]), (1, [], [22, 26, 27, 29, 31, 32, 33]), (2, [1], [22, 26, 27, 29, 31, 32, 33]), (3, [0, 1, 2], [26, 27, 29, 31, 32, 33]), (4, [], [22, 23, 24, 25, 29, 31, 32, 33]), (5, [4], [22, 23, 24, 25, 29, 31, 32, 33]), (6, [0, 1, 2, 3, 4, 5], [29, 31, 32, 33]), (7, [], [22, 23, 24, 25, 26, 27, 28, 31, 32, 33]), (8, [0, 1, 2, 3, 4, 5, 6, 7], [31, 32, 33]), (9, [], [22, 23, 24, 25, 26, 27, 28, 29, 30]), (10, [9], [22, 23, 24, 25, 26, 27, 28, 29, 30]), (11, [9, 10], [22, 23, 24, 25, 26, 27, 28, 29, 30]), (12, [0, 1, 2, 3, 4, 5, 6, 7, 8, 9, 10, 11], []), (13, [0, 1, 2, 3, 4, 5, 6, 7, 8, 9, 10, 11, 12], [])] mixed (by kernel_rfl) ?_
      repeat' first | refine ln ?_ | refine stp lay_ok rfl ?_ | refine fin ?_ | refine n_thn ?_ | refine .seq ?_ | refine reg ?_ | refine .block ?_ | refine dwl ?_ | refine dws lay_ok rfl rfl rfl rfl rfl rfl rfl ?_ | refine dw_end ?_ | refine dwA (f := 107) rfl rfl rfl rfl rfl rfl rfl rfl rfl (by (repeat' first | exact trivial | refine And.intro ?_ ?_ | rfl); first | done | fail) (by (repeat' first | exact trivial | refine And.intro ?_ ?_ | rfl); first | done | fail) rfl rfl rfl (by refine st_pure (e1) b107 rfl rfl rfl rfl ?_; exact fin rfl) rfl rfl rfl rfl rfl ?_ | refine dwb rfl rfl rfl rfl rfl (by (first | refine st_pure (e1) b107 rfl rfl rfl rfl ?_ | refine st_pure (e2) b108 rfl rfl rfl rfl ?_ | refine st_pure (e3) b107 rfl rfl rfl rfl ?_ | refine st_callF 1 (e4) b107 rfl rfl rfl rfl rfl rfl (by (repeat' first | exact trivial | refine And.intro ?_ ?_ | rfl); first | done | fail) rfl ?_); exact fin rfl) rfl rfl ?_ | refine dwg rfl rfl rfl rfl rfl (by (first | refine st_pure (e1) b107 rfl rfl rfl rfl ?_ | refine st_pure (e2) b108 rfl rfl rfl rfl ?_ | refine st_pure (e3) b107 rfl rfl rfl rfl ?_ | refine st_callF 1 (e4) b107 rfl rfl rfl rfl rfl rfl (by (repeat' first | exact trivial | refine And.intro ?_ ?_ | rfl); first | done | fail) rfl ?_); exact fin rfl) rfl rfl rfl rfl rfl ?_ | fail
    all_goals
      clear e1 e2 e3 e4 hat h00
      rw [← show b2 ++ ((es.take 0).map entL).flatten = b2 by simp]
      refine lpR (fun j => j ≤ es.length) (fun j => es.length - j) (fun j => [(38, I j), (3, .lsl 4 1 0 ((b2 ++ ((es.take j).map entL).flatten).map rowB).length)]) (fun j => [(4, .arr 1 ((b2 ++ ((es.take j).map entL).flatten).map rowB))]) (0) [14, 15, 16, 36, 37] [] [3] rfl rfl rfl (.of [3] (by (repeat' first | exact trivial | refine And.intro ?_ ?_ | rfl); first | done | fail) (by (repeat' first | exact trivial | refine And.intro ?_ ?_ | rfl); first | done | fail) rfl) ?_ ?_
      · exact Nat.zero_le _
      rintro j hj
      refine nrm rfl rfl ?_
      repeat' first | refine wr (by omega) ?_ | refine stp lay_ok rfl ?_ | refine fin ?_ | refine n_thn ?_ | refine n_blk ?_ | refine e_thn ?_ | refine e_hit ?_ | refine e_rr ?_ | refine .seq ?_ | refine reg ?_ | refine .block ?_ | refine .skip ?_ | refine .exit ?_ | refine c_dec rfl (fun hc => ?_) (fun hc => ?_) | fail
      · have hj' : j < es.length := by omega
        have hat : (es.map rowE)[((j : Nat) : Int).toNat]? = some (rowE es[j]) := by simp [hj']
        have hes := w5 _ (List.getElem_mem hj')
        have hst3 : b2 ++ ((es.take (j + 1)).map entL).flatten = b2 ++ ((es.take j).map entL).flatten ++ entL es[j] := by rw [flat_take _ hj', List.append_assoc]
        have hl3 : (b2 ++ ((es.take (j + 1)).map entL).flatten).length ≤ 3000000000 := by
          have := flat_le entL es (j + 1)
          rw [List.length_append]; omega
        generalize b2 ++ ((es.take j).map entL).flatten = b3 at *
        rw [hst3] at hl3
        generalize hee : es[j] = e at *
        obtain ⟨p, z, ks⟩ := e
        obtain ⟨v1, v2, v3, v4, v5⟩ := hes
        simp only at v1 v2 v3 v4 v5
        obtain ⟨z, rfl⟩ : ∃ z' : Nat, z = z' := ⟨z.toNat, by omega⟩
        rw [entL, headE] at hst3 hl3
        simp only [Int.toNat_natCast] at hst3 hl3
        have hlen3 : b3.length + (textL p).length + (numL z).length + (numL ks.length).length + ((ks.map textL).flatten).length ≤ 3000000000 := by
          simp only [List.length_append] at hl3; omega
        have f1 := textF_ok b3 p (by omega) v3
        have f2 := icount_ok (b3 ++ textL p) z (by simp only [List.length_append]; omega) (by omega)
        have f3 := icountO_ok (b3 ++ textL p ++ numL z) ks.length (by simp only [List.length_append]; omega) (by omega)
        have hst4 : b3 ++ (textL p ++ numL z ++ numL ks.length ++ (ks.map textL).flatten) = (b3 ++ textL p ++ numL z ++ numL ks.length) ++ (ks.map textL).flatten := by simp only [List.append_assoc]
        rw [hst4] at hst3 hl3
        generalize b3 ++ textL p ++ numL z ++ numL ks.length = b4 at *
        repeat' first | refine o_frb 5 [.str p, .int .i64 z, .sl 1 (ks.map rowS)] rfl rfl rfl (by (repeat' first | exact trivial | refine And.intro ?_ ?_ | rfl); first | done | fail) (by (repeat' first | exact trivial | refine And.intro ?_ ?_ | rfl); first | done | fail) rfl rfl ?_ | refine stp lay_ok rfl ?_ | refine fin ?_ | refine n_thn ?_ | refine .seq ?_ | (refine o_none rfl ?_; refine st_index (rowE ⟨p, z, ks⟩) lay_ok rfl rfl rfl rfl (by omega) hat ?_) | fail
        refine dreg [(0, [], [43, 44, 46, 47, 49, 50, 51]), (1, [], [42, 46, 47, 49, 50, 51]), (2, [1], [42, 46, 47, 49, 50, 51]), (3, [0, 1, 2], [46, 47, 49, 50, 51]), (4, [], [42, 43, 44, 45, 49, 50, 51]), (5, [4], [42, 43, 44, 45, 49, 50, 51]), (6, [0, 1, 2, 3, 4, 5], [49, 50, 51]), (7, [], [42, 43, 44, 45, 46, 47, 48]), (8, [7], [42, 43, 44, 45, 46, 47, 48]), (9, [7, 8], [42, 43, 44, 45, 46, 47, 48]), (10, [0, 1, 2, 3, 4, 5, 6, 7, 8, 9], []), (11, [0, 1, 2, 3, 4, 5, 6, 7, 8, 9, 10], [])] mixed (by kernel_rfl) ?_
        repeat' first | refine ln ?_ | refine stp lay_ok rfl ?_ | refine fin ?_ | refine n_thn ?_ | refine .seq ?_ | refine reg ?_ | refine .block ?_ | refine dwl ?_ | refine dws lay_ok rfl rfl rfl rfl rfl rfl rfl ?_ | refine dw_end ?_ | refine dwA (f := 108) rfl rfl rfl rfl rfl rfl rfl rfl rfl (by (repeat' first | exact trivial | refine And.intro ?_ ?_ | rfl); first | done | fail) (by (repeat' first | exact trivial | refine And.intro ?_ ?_ | rfl); first | done | fail) rfl rfl rfl (by refine st_pure (f1) b108 rfl rfl rfl rfl ?_; exact fin rfl) rfl rfl rfl rfl rfl ?_ | refine dwb rfl rfl rfl rfl rfl (by (first | refine st_pure (f1) b108 rfl rfl rfl rfl ?_ | refine st_pure (f2) b107 rfl rfl rfl rfl ?_ | refine st_callF 1 (f3) b107 rfl rfl rfl rfl rfl rfl (by (repeat' first | exact trivial | refine And.intro ?_ ?_ | rfl); first | done | fail) rfl ?_); exact fin rfl) rfl rfl ?_ | refine dwg rfl rfl rfl rfl rfl (by (first | refine st_pure (f1) b108 rfl rfl rfl rfl ?_ | refine st_pure (f2) b107 rfl rfl rfl rfl ?_ | refine st_callF 1 (f3) b107 rfl rfl rfl rfl rfl rfl (by (repeat' first | exact trivial | refine And.intro ?_ ?_ | rfl); first | done | fail) rfl ?_); exact fin rfl) rfl rfl rfl rfl rfl ?_ | fail
        clear f1 f2 f3 hat
        rw [← show b4 ++ ((ks.take 0).map textL).flatten = b4 by simp]
        refine lpR (fun i => i ≤ ks.length) (fun i => ks.length - i) (fun i => [(56, I i), (3, .lsl 7 1 0 ((b4 ++ ((ks.take i).map textL).flatten).map rowB).length)]) (fun i => [(7, .arr 1 ((b4 ++ ((ks.take i).map textL).flatten).map rowB))]) (0) [14, 15, 16, 36, 37, 38, 54, 55] [] [6] rfl rfl rfl (.of [6] (by (repeat' first | exact trivial | refine And.intro ?_ ?_ | rfl); first | done | fail) (by (repeat' first | exact trivial | refine And.intro ?_ ?_ | rfl); first | done | fail) rfl) ?_ ?_
        · exact Nat.zero_le _
        rintro i hi
        refine nrm rfl rfl ?_
        repeat' first | refine wr (by omega) ?_ | refine stp lay_ok rfl ?_ | refine fin ?_ | refine n_thn ?_ | refine n_blk ?_ | refine e_thn ?_ | refine e_hit ?_ | refine e_rr ?_ | refine .seq ?_ | refine reg ?_ | refine .block ?_ | refine .skip ?_ | refine .exit ?_ | refine c_dec rfl (fun hc => ?_) (fun hc => ?_) | fail
        · have hi' : i < ks.length := by omega
          have hat := at_rowS hi'
          have hst5 : b4 ++ ((ks.take (i + 1)).map textL).flatten = b4 ++ ((ks.take i).map textL).flatten ++ textL ks[i] := by rw [flat_take _ hi', List.append_assoc]
          have hl5 : (b4 ++ ((ks.take i).map textL).flatten).length ≤ 3000000000 := by
            have := flat_le textL ks i
            rw [List.length_append] at hl3 ⊢; omega
          have hkz := v5 _ (List.getElem_mem hi')
          generalize hb5 : b4 ++ ((ks.take i).map textL).flatten = b5 at *
          generalize ks[i] = x at *
          have f4 := text_ok b5 x hl5 hkz
          repeat' first | refine o_frzA (f := 108) rfl rfl rfl rfl (by (repeat' first | exact trivial | refine And.intro ?_ ?_ | rfl); first | done | fail) (by (repeat' first | exact trivial | refine And.intro ?_ ?_ | rfl); first | done | fail) rfl rfl ?_ | refine wr (by omega) ?_ | refine stp lay_ok rfl ?_ | refine fin ?_ | refine n_thn ?_ | refine n_blk ?_ | refine reg ?_ | (refine o_none rfl ?_; (first | refine st_index (rowS x) lay_ok rfl rfl rfl rfl (by omega) hat ?_ | refine st_callF 1 (f4) b108 rfl rfl rfl rfl rfl rfl (by (repeat' first | exact trivial | refine And.intro ?_ ?_ | rfl); first | done | fail) rfl ?_)) | fail
          rw [← hst5]
          refine n_rr (i + 1) ?_ (.of [8] (by (repeat' first | exact trivial | refine And.intro ?_ ?_ | rfl); first | done | fail) (by (repeat' first | exact trivial | refine And.intro ?_ ?_ | rfl); first | done | fail) rfl) ?_
          · omega
          · exact hi'
        · have hie : i = ks.length := by omega
          subst hie
          rw [List.take_length, ← hst3]
          refine n_rr (j + 1) ?_ (.of [7] (by (repeat' first | exact trivial | refine And.intro ?_ ?_ | rfl); first | done | fail) (by (repeat' first | exact trivial | refine And.intro ?_ ?_ | rfl); first | done | fail) rfl) ?_
          · omega
          · exact hj'
      · have hje : j = es.length := by omega
        subst hje
        rw [List.take_length, ← hst2, ← hb1]
        refine n_rr (k + 1) ?_ (.of [4] (by (repeat' first | exact trivial | refine And.intro ?_ ?_ | rfl); first | done | fail) (by (repeat' first | exact trivial | refine And.intro ?_ ?_ | rfl); first | done | fail) rfl) ?_
        · omega
        · exact hk'
  · have hke : k = l.length := by omega
    subst hke
    have hfin : putK l l.length = putL l := by rw [putK, List.take_length, putL]
    rw [hfin]
    refine f_end (n0 := 1) (t'' := [(2, .lsl 0 1 0 ((putL l).map rowB).length)]) (h'' := [(0, .arr 1 ((putL l).map rowB))]) (WkR.of [1] (by (repeat' first | exact trivial | refine And.intro ?_ ?_ | rfl); first | done | fail) (by (repeat' first | exact trivial | refine And.intro ?_ ?_ | rfl); first | done | fail) rfl) rfl rfl ⟨?_, rfl⟩
    rfl
end Go.Proofs.YtohmbpcjapjkbaaGreatDoorFn
namespace Go.Proofs.YtohmbpcjapjkbaaGreatDoorFn
open Go.Proofs.YtohmbpcjapjkbaaGreatDoorAl Go.Proofs.Tryz
attribute [local irreducible] IntKind.wrap CodeOk OpsL OpG ACalls thn inBlk rndR cutR WkR Wk fnR DW ExtOk partsOf
/-! ### two catalogs alike: their bytes, and what differs -/
abbrev catI (i j : Nat) (l : List NV) (b : Bool) : Heap := [(i, .cells [.lsl j 4 (gN b) (l.map rowN).length]), (j, .arr 4 (l.map rowN ++ gR b))]
theorem putXO_ok (l : List NV) (b : Bool) (hb : b = true → l = []) (hC : CatP l) : ACalls prog 31 2 [.ptr 0 0] (catX 1 l b) fun r h => r = .tuple [.lsl 2 1 0 ((putL l).map rowB).length, nilE] ∧ h = catX 1 l b ++ [(2, .arr 1 ((putL l).map rowB))] := by
  obtain ⟨c1, c2, c3, c4, c5⟩ := hC.nice
  have h1 := snapsX_ok l b hb (by omega) c4
  have h2 := writtenO_ok l (by omega) (by omega) c3
  refine fnC lay_ok func31 rfl rfl rfl rfl rfl ?_
  repeat' first | refine stp lay_ok rfl ?_ | refine fin ?_ | refine n_thn ?_ | refine .seq ?_ | refine reg ?_ | refine .skip ?_ | refine .ret ?_ | refine cndF rfl ?_ | (refine o_none rfl ?_; (first | refine st_callK [0,1] (h1) b19 rfl rfl rfl rfl rfl (by (repeat' first | exact trivial | refine And.intro ?_ ?_ | rfl); first | done | fail) ?_ | refine st_callF 1 (h2) b64 rfl rfl rfl rfl rfl rfl (by (repeat' first | exact trivial | refine And.intro ?_ ?_ | rfl); first | done | fail) rfl ?_)) | fail
  refine f_end (n0 := 3) (t'' := [(2, .lsl 2 1 0 ((putL l).map rowB).length), (3, nilE)]) (h'' := [(0, .cells [.lsl 1 4 (gN b) (l.map rowN).length]), (1, .arr 4 (l.map rowN ++ gR b)), (2, .arr 1 ((putL l).map rowB))]) (WkR.of [2] (by (repeat' first | exact trivial | refine And.intro ?_ ?_ | rfl); first | done | fail) (by (repeat' first | exact trivial | refine And.intro ?_ ?_ | rfl); first | done | fail) rfl) rfl rfl ⟨?_, rfl⟩
  rfl
set_option maxHeartbeats 2000000 in
theorem differX_ok (l : List NV) (b b' : Bool) (hb : b = true → l = []) (hb' : b' = true → l = []) (hC : CatP l) :
    ACalls prog 43 4 [.ptr 0 0, .ptr 2 0] (catX 1 l b ++ catI 2 3 l b') fun r h => r = .tuple [.st .nilsl, nilE] ∧ h = catX 1 l b ++ catI 2 3 l b' := by
  have h1 := ipartsX_ok l b hb hC
  have h2 := ipartsX_ok l b' hb' hC
  have hpl : (partL l 8).length = 8 := by simp [partL]
  have hm : (List.map rowS (partL l 8)).length = (partL l 8).length := List.length_map _
  generalize partL l 8 = a at *
  refine fnC lay_ok func43 rfl rfl rfl rfl rfl ?_
  repeat' first | refine ln ?_ | refine stp lay_ok rfl ?_ | refine fin ?_ | refine n_thn ?_ | refine .seq ?_ | refine reg ?_ | refine .block ?_ | refine .skip ?_ | refine cndF rfl ?_ | (refine o_none rfl ?_; (first | refine st_callK [0,1] (h1) b38 rfl rfl rfl rfl rfl (by (repeat' first | exact trivial | refine And.intro ?_ ?_ | rfl); first | done | fail) ?_ | refine st_callK [2,3] (h2) b38 rfl rfl rfl rfl rfl (by (repeat' first | exact trivial | refine And.intro ?_ ?_ | rfl); first | done | fail) ?_)) | fail
  refine lpR (fun i => i ≤ 8) (fun i => 8 - i) (fun i => [(29, I i), (9, .st .nilsl)]) (fun i => []) (0) [6, 8, 28] [] [] rfl rfl rfl (.of [] (by (repeat' first | exact trivial | refine And.intro ?_ ?_ | rfl); first | done | fail) (by (repeat' first | exact trivial | refine And.intro ?_ ?_ | rfl); first | done | fail) rfl) ?_ ?_
  · exact Nat.zero_le _
  rintro i hi
  refine nrm rfl rfl ?_
  by_cases hi8 : i < 8
  case neg =>
    repeat' first | refine stp lay_ok rfl ?_ | refine fin ?_ | refine n_thn ?_ | refine e_thn ?_ | refine e_hit ?_ | refine e_rr ?_ | refine .seq ?_ | refine reg ?_ | refine .block ?_ | refine .skip ?_ | refine .ret ?_ | refine .exit ?_ | refine c_dec rfl (fun hc => ?_) (fun hc => ?_) | fail
    all_goals first
      | (exfalso; omega)
      | skip
    refine f_r [(0, .cells [.lsl 1 4 (gN b) (l.map rowN).length]), (1, .arr 4 (l.map rowN ++ gR b)), (2, .cells [.lsl 3 4 (gN b') (l.map rowN).length]), (3, .arr 4 (l.map rowN ++ gR b'))] rfl (by (repeat' first | exact trivial | refine And.intro ?_ ?_ | rfl); first | done | fail) rfl ⟨?_, rfl⟩
    rfl
  have hat := at_rowS (l := a) (k := i) (by omega)
  generalize a[i]'(by omega) = x at *
  repeat' first | refine stp lay_ok rfl ?_ | refine fin ?_ | refine n_thn ?_ | refine e_thn ?_ | refine e_hit ?_ | refine e_rr ?_ | refine .seq ?_ | refine reg ?_ | refine .block ?_ | refine .skip ?_ | refine .ret ?_ | refine .exit ?_ | refine c_dec rfl (fun hc => ?_) (fun hc => ?_) | fail
  all_goals first
    | (exfalso; omega)
    | skip
  refine dreg [(0, [], [33, 36, 37, 38, 39]), (1, [], [32, 36, 37, 38, 39]), (2, [0, 1], [36, 37, 38, 39]), (3, [0, 1, 2], [36, 37, 38, 39]), (4, [], [32, 33, 34, 35, 37]), (5, [], [32, 33, 34, 35, 36]), (6, [4, 5], [32, 33, 34, 35]), (7, [4, 5, 6], [32, 33, 34, 35]), (8, [0, 1, 2, 3, 4, 5, 6, 7], [])] mixed (by kernel_rfl) ?_
  repeat' first | refine wr (by omega) ?_ | refine stp lay_ok rfl ?_ | refine fin ?_ | refine n_thn ?_ | refine n_blk ?_ | refine reg ?_ | refine .skip ?_ | refine c_dec rfl (fun hc => ?_) (fun hc => ?_) | refine dws lay_ok rfl rfl rfl rfl rfl rfl rfl ?_ | refine dw_end ?_ | refine dwb rfl rfl rfl rfl rfl (by (first | refine st_index (rowS x) lay_ok rfl rfl rfl rfl (by omega) hat ?_); exact fin rfl) rfl rfl ?_ | fail
  all_goals first
    | (exfalso; exact absurd rfl (by assumption))
    | skip
  refine n_rr (i + 1) ?_ (.of [] (by (repeat' first | exact trivial | refine And.intro ?_ ?_ | rfl); first | done | fail) (by (repeat' first | exact trivial | refine And.intro ?_ ?_ | rfl); first | done | fail) rfl) ?_
  · omega
  · exact hi8
end Go.Proofs.YtohmbpcjapjkbaaGreatDoorFn
namespace Go.Proofs.YtohmbpcjapjkbaaGreatDoorFn
open Go.Proofs.YtohmbpcjapjkbaaGreatDoorAl Go.Proofs.Tryz
attribute [local irreducible] IntKind.wrap CodeOk OpsL OpG ACalls thn inBlk rndR cutR WkR Wk fnR DW ExtOk partsOf
def rowU (z : Int) : List SV := [.int .u8 z]
theorem rowU_of (l : List UInt8) : l.map rowB = (l.map fun x => (x.toNat : Int)).map rowU := by
  rw [List.map_map]; rfl
set_option maxHeartbeats 16000000 in
set_option maxRecDepth 4000 in
theorem lawAlike_ok (ds : List DV) : ACalls prog 12 0 [.st (.sl 6 (ds.map rowD))] [] fun r h => r = B true ∧ h = [] := by
  have hup := up_ok
  have hsh := shortD_ok ds
  have hN := newC_ok
  have hm : (List.map rowD ds).length = ds.length := List.length_map _
  cases hS : shortD ds <;> rw [hS] at hsh
  · refine fnC lay_ok func12 rfl rfl rfl rfl rfl ?_
    repeat' first | refine stp lay_ok rfl ?_ | refine fin ?_ | refine n_thn ?_ | refine r_thn ?_ | refine .seq ?_ | refine reg ?_ | refine .ret ?_ | refine cndT rfl ?_ | (refine o_none rfl ?_; (first | refine st_pure (hup) b28 rfl rfl rfl rfl ?_ | refine st_pure (hsh) b29 rfl rfl rfl rfl ?_ | refine st_callF 2 (hN) b30 rfl rfl rfl rfl rfl rfl (by (repeat' first | exact trivial | refine And.intro ?_ ?_ | rfl); first | done | fail) rfl ?_)) | fail
    refine f_r [] rfl trivial rfl ⟨?_, rfl⟩; rfl
  refine fnC lay_ok func12 rfl rfl rfl rfl rfl ?_
  repeat' first | refine stp lay_ok rfl ?_ | refine fin ?_ | refine n_thn ?_ | refine .seq ?_ | refine reg ?_ | refine .block ?_ | refine .skip ?_ | refine cndF rfl ?_ | (refine o_none rfl ?_; (first | refine st_pure (hup) b28 rfl rfl rfl rfl ?_ | refine st_pure (hsh) b29 rfl rfl rfl rfl ?_ | refine st_callF 2 (hN) b30 rfl rfl rfl rfl rfl rfl (by (repeat' first | exact trivial | refine And.intro ?_ ?_ | rfl); first | done | fail) rfl ?_)) | fail
  refine lpR (fun (k, l, b, b') => k ≤ ds.length ∧ k ≤ 80 ∧ CatP l ∧ (b = true → l = []) ∧ (b' = true → l = [])) (fun (k, l, b, b') => ds.length - k) (fun (k, l, b, b') => [(7, I k)]) (fun (k, l, b, b') => [(0, .cells [.lsl 4 4 (gN b) (l.map rowN).length]), (4, .arr 4 (l.map rowN ++ gR b)), (2, .cells [.lsl 5 4 (gN b') (l.map rowN).length]), (5, .arr 4 (l.map rowN ++ gR b'))]) ((0, [], false, false)) [0, 3, 5, 6] [0, 2] [1, 3] rfl rfl rfl (.of [1, 3] (by (repeat' first | exact trivial | refine And.intro ?_ ?_ | rfl); first | done | fail) (by (repeat' first | exact trivial | refine And.intro ?_ ?_ | rfl); first | done | fail) rfl) ?_ ?_
  · exact ⟨Nat.zero_le _, Nat.zero_le _, catP_nil, by simp, by simp⟩
  rintro ⟨k, l, b, b'⟩ ⟨g1, g2, g3, g4, g5⟩
  refine nrm rfl rfl ?_
  by_cases hk : k < ds.length ∧ k < 80
  · obtain ⟨hk, hk80⟩ := hk
    have hat : (ds.map rowD)[((k : Nat) : Int).toNat]? = some (rowD ds[k]) := by simp [hk]
    have hfit := shortD_at hS hk hk80
    generalize ds[k] = d at *
    obtain ⟨c, o⟩ := d
    simp only at hfit
    have hdo := do_ok l b c o g4 g3 hfit
    have hdo' := do_ok l b' c o g5 g3 hfit
    have hC2 := doP_cat c o g3
    have hB2 := fun h => doB_nil (c := c) (o := o) g4 h
    have hB3 := fun h => doB_nil (c := c) (o := o) g5 h
    generalize doP l c o = R at *
    generalize doB l b c o = b2 at *
    generalize doB l b' c o = b3 at *
    obtain ⟨l2, a⟩ := R
    simp only at hC2 hB2 hB3 hdo hdo'
    obtain ⟨kd, nm, p, oks, n⟩ := o
    repeat' first | refine ln ?_ | refine stp lay_ok rfl ?_ | refine fin ?_ | refine n_thn ?_ | refine e_thn ?_ | refine e_hit ?_ | refine e_rr ?_ | refine .seq ?_ | refine reg ?_ | refine .block ?_ | refine .skip ?_ | refine .exit ?_ | refine cndF rfl ?_ | refine c_dec rfl (fun hc => ?_) (fun hc => ?_) | refine gd rfl rfl rfl (fun hg => ?_) (fun hg => ?_) | fail
    all_goals first
      | (exfalso; omega)
      | skip
    refine dreg [(0, [], [54, 55, 56, 57, 58, 59, 60, 61, 62, 63]), (1, [], [53, 55, 59, 60, 61, 62, 63]), (2, [], [53, 54, 59, 60, 61, 62, 63]), (3, [1, 2], [53, 59, 60, 61, 62, 63]), (4, [1, 2, 3], [53, 59, 60, 61, 62, 63]), (5, [1, 2, 3, 4], [53, 59, 60, 61, 62, 63]), (6, [], [53, 54, 55, 56, 57, 58, 60]), (7, [], [53, 54, 55, 56, 57, 58, 59]), (8, [6, 7], [53, 54, 55, 56, 57, 58]), (9, [6, 7, 8], [53, 54, 55, 56, 57, 58]), (10, [6, 7, 8, 9], [53, 54, 55, 56, 57, 58]), (11, [0, 1, 2, 3, 4, 5, 6, 7, 8, 9, 10], [])] mixed (by kernel_rfl) ?_
    repeat' first | refine n_thn ?_ | refine dws lay_ok rfl rfl rfl rfl rfl rfl rfl ?_ | refine dw_end ?_ | refine dwG [0,4] rfl rfl rfl rfl (by refine st_callG [0,4] 1 (hdo) b27 rfl rfl rfl rfl rfl (by (repeat' first | exact trivial | refine And.intro ?_ ?_ | rfl); first | done | fail) rfl ?_; exact fin rfl) rfl rfl rfl rfl rfl ?_ | refine dwb rfl rfl rfl rfl rfl (by (first | refine st_index (rowD ⟨c, kd, nm, p, oks, n⟩) lay_ok rfl rfl rfl rfl (by omega) hat ?_ | refine st_callG [0,4] 1 (hdo) b27 rfl rfl rfl rfl rfl (by (repeat' first | exact trivial | refine And.intro ?_ ?_ | rfl); first | done | fail) rfl ?_); exact fin rfl) rfl rfl ?_ | fail
    refine dreg [(0, [], [66, 67, 68, 69, 70, 71, 72, 73, 74, 75]), (1, [], [65, 67, 71, 72, 73, 74, 75]), (2, [], [65, 66, 71, 72, 73, 74, 75]), (3, [1, 2], [65, 71, 72, 73, 74, 75]), (4, [1, 2, 3], [65, 71, 72, 73, 74, 75]), (5, [1, 2, 3, 4], [65, 71, 72, 73, 74, 75]), (6, [], [65, 66, 67, 68, 69, 70, 72]), (7, [], [65, 66, 67, 68, 69, 70, 71]), (8, [6, 7], [65, 66, 67, 68, 69, 70]), (9, [6, 7, 8], [65, 66, 67, 68, 69, 70]), (10, [6, 7, 8, 9], [65, 66, 67, 68, 69, 70]), (11, [0, 1, 2, 3, 4, 5, 6, 7, 8, 9, 10], [])] mixed (by kernel_rfl) ?_
    repeat' first | refine wr (by omega) ?_ | refine stp lay_ok rfl ?_ | refine fin ?_ | refine n_thn ?_ | refine n_blk ?_ | refine reg ?_ | refine dws lay_ok rfl rfl rfl rfl rfl rfl rfl ?_ | refine dw_end ?_ | refine dwG [2,5] rfl rfl rfl rfl (by refine st_callG [2,5] 1 (hdo') b27 rfl rfl rfl rfl rfl (by (repeat' first | exact trivial | refine And.intro ?_ ?_ | rfl); first | done | fail) rfl ?_; exact fin rfl) rfl rfl rfl rfl rfl ?_ | refine dwb rfl rfl rfl rfl rfl (by (first | refine st_index (rowD ⟨c, kd, nm, p, oks, n⟩) lay_ok rfl rfl rfl rfl (by omega) hat ?_ | refine st_callG [2,5] 1 (hdo') b27 rfl rfl rfl rfl rfl (by (repeat' first | exact trivial | refine And.intro ?_ ?_ | rfl); first | done | fail) rfl ?_); exact fin rfl) rfl rfl ?_ | fail
    refine n_rr ((k + 1, l2, b2, b3)) ?_ (.of [6, 7] (by (repeat' first | exact trivial | refine And.intro ?_ ?_ | rfl | exact congrArg (fun z : Int => some (AV.st (.int .i64 z))) (show (k : Int) + 1 = ((k + 1 : Nat) : Int) by omega)); first | done | fail) (by (repeat' first | exact trivial | refine And.intro ?_ ?_ | rfl | exact congrArg (fun z : Int => some (AV.st (.int .i64 z))) (show (k : Int) + 1 = ((k + 1 : Nat) : Int) by omega)); first | done | fail) rfl) ?_
    · show ds.length - (k + 1) < ds.length - k; omega
    · exact ⟨hk, hk80, hC2, hB2, hB3⟩
  obtain ⟨c1, c2, c3, c4, c5⟩ := g3.nice
  have hp1 := putXO_ok l b g4 g3
  have hp2 := putX_ok l b' g5 g3
  have hdf := differX_ok l b b' g4 g5 g3
  have hget := getO_ok (putL l) l (by omega) (getR_cat g3)
  have hpx := put_ok l (by omega) (by omega) c3 c4
  generalize putL l = pl at *
  clear c3 c4 c5
  repeat' first | refine ln ?_ | refine stp lay_ok rfl ?_ | refine fin ?_ | refine n_thn ?_ | refine e_thn ?_ | refine e_hit ?_ | refine r_thn ?_ | refine e_rr ?_ | refine .seq ?_ | refine reg ?_ | refine .block ?_ | refine .skip ?_ | refine .ret ?_ | refine .exit ?_ | refine cndF rfl ?_ | refine c_dec rfl (fun hc => ?_) (fun hc => ?_) | ((first | refine o_none rfl ?_ | refine o_yes rfl rfl rfl ?_); (first | refine st_callG [0,4] 1 (hp1) b31 rfl rfl rfl rfl rfl (by (repeat' first | exact trivial | refine And.intro ?_ ?_ | rfl); first | done | fail) rfl ?_ | refine st_callK [2,5] (hp2) b31 rfl rfl rfl rfl rfl (by (repeat' first | exact trivial | refine And.intro ?_ ?_ | rfl); first | done | fail) ?_ | refine st_callK [0,4,2,5] (hdf) b43 rfl rfl rfl rfl rfl (by (repeat' first | exact trivial | refine And.intro ?_ ?_ | rfl); first | done | fail) ?_ | refine st_strOfL lay_ok rfl rfl rfl rfl rfl rfl rfl rfl rfl ?_ | refine st_strOf lay_ok rfl rfl rfl rfl rfl rfl rfl ?_ | refine st_callF 1 (hget) b32 rfl rfl rfl rfl rfl rfl (by (repeat' first | exact trivial | refine And.intro ?_ ?_ | rfl); first | done | fail) rfl ?_)) | refine gd rfl rfl rfl (fun hg => ?_) (fun hg => ?_) | fail
  all_goals first
    | (exfalso; omega)
    | (exfalso; exact absurd rfl (by assumption))
    | skip
  all_goals
    have hlU : (List.map rowU (List.map (fun x : UInt8 => (x.toNat : Int)) pl)).length = pl.length := by simp
    rw [rowU_of]
    refine nrm rfl rfl ?_
    refine lpR (fun (i, pb) => i ≤ pl.length ∧ pb.length = pl.length) (fun (i, pb) => pl.length - i) (fun (i, pb) => [(16, I i)]) (fun (i, pb) => [(6, .arr 1 (pb.map rowU))]) ((0, pl.map fun x : UInt8 => (x.toNat : Int))) [3, 8, 10, 14, 15] [6] [] rfl rfl rfl (.of [] (by (repeat' first | exact trivial | refine And.intro ?_ ?_ | rfl); first | done | fail) (by (repeat' first | exact trivial | refine And.intro ?_ ?_ | rfl); first | done | fail) rfl) ?_ ?_
    · exact ⟨Nat.zero_le _, by simp⟩
    rintro ⟨i, pb⟩ ⟨i1, i2⟩
    refine nrm rfl rfl ?_
    by_cases hi : i < pl.length
    · have hib : i < pb.length := by omega
      have hat : (pb.map rowU)[0 + ((i : Nat) : Int).toNat]? = some [SV.int .u8 pb[i]] := by simp [hib, rowU]
      have hset : ∀ v : Int, (pb.map rowU).set (0 + ((i : Nat) : Int).toNat) (putAt [SV.int .u8 pb[i]] 0 (svCells (SV.int .u8 v))) = (pb.set i v).map rowU := fun v => by
        rw [Nat.zero_add, Int.toNat_natCast, List.map_set]; rfl
      generalize pb[i] = z at *
      repeat' first | refine wr (by omega) ?_ | refine ln ?_ | refine stp lay_ok rfl ?_ | refine fin ?_ | refine n_thn ?_ | refine n_blk ?_ | refine e_thn ?_ | refine e_hit ?_ | refine e_rr ?_ | refine .seq ?_ | refine reg ?_ | refine .block ?_ | refine .skip ?_ | refine .exit ?_ | refine cndF rfl ?_ | refine c_dec rfl (fun hc => ?_) (fun hc => ?_) | ((first | refine o_none rfl ?_ | refine o_none_ ?_); (first | refine st_indexL lay_ok rfl rfl rfl rfl (by omega) (by omega) ?_ | refine st_loadE [SV.int .u8 z] lay_ok rfl rfl rfl hat rfl rfl rfl ?_)) | refine o_none_ (st_storeE lay_ok rfl rfl rfl hat rfl rfl rfl rfl ?_) | fail
      all_goals first
        | (exfalso; omega)
        | skip
      rw [hset]
      refine n_rr ((i + 1, pb.set i _)) ?_ (.of [] (by (repeat' first | exact trivial | refine And.intro ?_ ?_ | rfl | first | exact congrArg (fun z : Int => some (AV.st (.int .i64 z))) (show (i : Int) + 1 = ((i + 1 : Nat) : Int) by omega) | rfl); first | done | fail) (by (repeat' first | exact trivial | refine And.intro ?_ ?_ | rfl | first | exact congrArg (fun z : Int => some (AV.st (.int .i64 z))) (show (i : Int) + 1 = ((i + 1 : Nat) : Int) by omega) | rfl); first | done | fail) rfl) ?_
      · show pl.length - (i + 1) < pl.length - i; omega
      · exact ⟨hi, by show (pb.set i _).length = _; rw [List.length_set]; exact i2⟩
    · repeat' first | refine o_frb 7 [.sl 4 (l.map rowN)] rfl rfl rfl (by (repeat' first | exact trivial | refine And.intro ?_ ?_ | rfl); first | done | fail) (by (repeat' first | exact trivial | refine And.intro ?_ ?_ | rfl); first | done | fail) rfl rfl ?_ | refine ln ?_ | refine stp lay_ok rfl ?_ | refine fin ?_ | refine n_thn ?_ | refine e_thn ?_ | refine e_hit ?_ | refine e_rr ?_ | refine .seq ?_ | refine reg ?_ | refine .block ?_ | refine .skip ?_ | refine .ret ?_ | refine .exit ?_ | refine cndF rfl ?_ | refine c_dec rfl (fun hc => ?_) (fun hc => ?_) | ((first | refine o_none rfl ?_ | refine o_yes rfl rfl rfl ?_); (first | refine st_pure (hpx) b31 rfl rfl rfl rfl ?_ | refine st_strOf lay_ok rfl rfl rfl rfl rfl rfl rfl ?_)) | fail
      all_goals first
        | (exfalso; omega)
        | skip
      refine f_r [] rfl trivial rfl ⟨?_, rfl⟩
      first
        | rfl
        | (simp [retOf, B]; done)
end Go.Proofs.YtohmbpcjapjkbaaGreatDoorFn
namespace Go.Proofs.YtohmbpcjapjkbaaGreatDoor
open Go.Proofs.YtohmbpcjapjkbaaGreatDoorAl Go.ChangeAt Go.RowKit
open Go.Proofs.YtohmbpcjapjkbaaGreatDoorFn
theorem own : ownKnob Tryz.prog.godebug = none := by kernel_rfl
theorem laidOut : laidOutB Tryz.prog = true := by kernel_rfl
def pars : List Par := [⟨58, false, ΦL 6 80 ΦD⟩]
theorem pars_ok : ParsOk Tryz.prog pars :=
  ⟨rdLD, ⟨_, Tryz.underlying58, rfl⟩, by kernel_rfl, of_decide_eq_true (by kernel_rfl), trivial⟩
theorem law_ok : LawOk Tryz.prog 12 pars := by
  rintro svs ⟨_, _, rfl, ⟨r0, h0, hr0, hl0⟩, rfl⟩
  cases h0
  obtain ⟨x0, rfl, hm0⟩ := rows_map (f := rowD) (Ok := DV.inMem) (fun row hm => ofD (hr0 row hm))
  simp only [List.length_map] at hl0
  have hreach : reachBytes ≤ 140737488351232 := by decide
  exact lawAlike_ok x0
set_option maxRecDepth 100000 in
theorem law_lift (os : Os) (started : os.Started) (H : Type) (enc : TypeId × Value → H) :
    ReturnsInHanded {} Tryz.checked os 12 .any (fun w args => (Rows.imageAlikeSpec.pre enc Tryz.prog Tryz.f12 [] false w args ∧ laidMetH Tryz.prog Rows.imageAlikeRow.laid w) ∧ sizedMet enc Tryz.prog Tryz.f12 (OpenSpec.ofChange Rows.imageAlikeSpec) false w args) (Rows.imageAlikeSpec.post enc Tryz.prog Tryz.f12 false true false false) :=
  law_liftedL (C := Tryz.checked) (ps := pars) own started (by kernel_rfl) Tryz.func12
    (ChangeSpec.witness_shaped (enc := enc) (C := Tryz.checked) (os := os) (X := fun w _ => laidMetH Tryz.prog Rows.imageAlikeRow.laid w) false (World.laidAll Tryz.prog os Rows.imageAlikeRow.laid) #[.slice none 0 0] 8 (World.laidAll_os _ _ _)
      (World.shaped_of_ZipB (by kernel_rfl) (by kernel_rfl)) (by kernel_rfl) (by kernel_rfl) (by kernel_rfl)
      (by rw [MakeChecks.laidMetH_plain _ _ _ (by kernel_rfl)]; exact laidMet_laidAll _ (by kernel_rfl) (by kernel_rfl)))
    laidOut rfl rfl Tryz.underlying4 rfl
    (fun ds hds => by
      match ds, hds with
      | [_], _ => rfl) pars_ok law_ok
theorem law_over : Rows.imageAlikeRow.holds Tryz.pinned (OpenSpec.ofChange Rows.imageAlikeSpec) :=
  OpenClaim.holds_of_wide 12 Tryz.f12 rfl rfl rfl rfl rfl rfl rfl ⟨rfl, rfl, rfl, rfl, rfl⟩ rfl rfl rfl rfl rfl (by kernel_rfl) Tryz.func12 (by kernel_rfl)
    (of_decide_eq_true (by kernel_rfl)) (by unfold Func.isWrapper; first | (rw [if_pos (by decide +kernel)]; kernel_rfl) | (rw [if_neg (by decide +kernel)]; exact ⟨rfl, rfl⟩))
    (fun os started H enc _ => law_lift os started H enc)
theorem ImageAlike_holds : Rows.ImageAlikeCardSaid :=
  Claim7.holds_tied_plain_at .later [] [.data, .pinned] true Rows.imageAlikeCard.stood.harness Rows.imageAlikeCard.stood.looks law_over (fun _ h => by cases h) (by kernel_rfl) (fun _ h => by cases h) imageAlike_row_tie rfl ⟨rfl, rfl⟩ (by kernel_rfl) rfl
    (fun f fn hf hfn => by
      obtain rfl : f = 12 := Option.some.inj ((show Tryz.prog.funcNamed "becket/becketlaw10.ImageAlike" = some 12 by kernel_rfl).symm.trans hf) |>.symm
      obtain rfl : fn = Tryz.f12 := (Option.some.inj (Tryz.func12.symm.trans hfn)).symm
      exact ⟨by kernel_rfl, fun j t ht => by
        have hm : t ∈ ([58] : List Nat) := by
          have e := Array.mem_of_getElem? ht
          rw [Tryz.params12] at e
          simpa using e
        have hall : (([58] : List Nat).all fun u => !Tryz.prog.wantsStandIn u) = true := by kernel_rfl
        exact (show Tryz.prog.wantsStandIn t = false by simpa using List.all_eq_true.1 hall t hm)⟩)
    (by kernel_rfl)
#print axioms ImageAlike_holds
end Go.Proofs.YtohmbpcjapjkbaaGreatDoor
