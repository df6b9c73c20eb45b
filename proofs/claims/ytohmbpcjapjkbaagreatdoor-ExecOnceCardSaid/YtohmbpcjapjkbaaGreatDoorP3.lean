/- Texts that the law's proof uses: part 3. -/
import Derived.Test.YtohmbpcjapjkbaaGreatDoorP2
import Derived.Test.YtohmbpcjapjkbaaGreatDoorChecked
import Derived.Shelf.SortM.Plain
import Derived.Shelf.SortM.SortNone
import Derived.Ground.SlgmProg
import Derived.Shelf.SlIter.Nil
import Derived.Ground.GgzProg
import Derived.Test.YtohmbpcjapjkbaaGreatDoorAlYZ
import Derived.Maps.Own
import Derived.Sort.KeysCollected
import Derived.Test.YtohmbpcjapjkbaaGreatDoorAlZo
import Derived.KernelRfl
set_option linter.all false
namespace Go.Proofs.YtohmbpcjapjkbaaGreatDoorFn
open Go.Proofs.YtohmbpcjapjkbaaGreatDoorAl Go.Proofs.Tryz Go.RowKit
attribute [local irreducible] IntKind.wrap CodeOk OpsL OpG ACalls thn inBlk rndR cutR WkR Wk fnR DW ExtOk partsOf
set_option maxHeartbeats 8000000 in
set_option maxRecDepth 4000 in
theorem add_yes (l : List NV) (i : Nat) (o : OV) (hi : i < l.length) (hl : l.length ≤ 4000000) (hlen : l[i].entries.length ≤ 4000000) (hkl : o.keys.length ≤ 4000000) (htk : tot o.keys ≤ 4000000000) (hp : ∀ e ∈ l[i].entries, e.path.size ≤ 4000000000 - 1) (ho : o.path.size ≤ 4000000000 - 1)
    (hd : l[i].done = false) (hc0 : (l[i].entries.any fun e => clashB e.path o.path) = false) (h32 : ¬ 32 ≤ l[i].entries.length) (h1k : ¬ 1024 < tot o.keys) (hdp : ∀ x ∈ l[i].entries, ∀ y ∈ l[i].entries, x.path = y.path → x = y) :
    ACalls prog 59 2 [.ptr 0 0, I i, .st (.agg (rowO o))] (catH l) fun r h => r = ansC 0 ∧ h = catO (l.set i ⟨l[i].client, l[i].name, false, srtE (l[i].entries ++ [⟨o.path, tot o.keys, o.keys⟩])⟩) := by
  have hm : (List.map rowN l).length = l.length := List.length_map _
  have hat : (List.map rowN l)[0 + ((i : Nat) : Int).toNat]? = some (rowN l[i]) := by simp [hi]
  have hj := sJoin_ok o.keys (by omega) (by rw [join_tot0]; omega)
  have hjt := join_tot0 o.keys
  generalize joinB o.keys = J at *
  have hce := conA_ok o l[i].entries (by omega) hp ho
  have hset := fun es' => set_rowN (l := l) (i := i) (s := l[i]) ⟨l[i].client, l[i].name, false, es'⟩
  have hcln := cloneE_ok l[i].entries (by omega)
  have hcls := cloneS_ok o.keys (by omega)
  have hne : List.map rowN l ≠ [] := fun h => by
    rw [h] at hm; simp at hm; omega
  generalize l[i] = s at *
  obtain ⟨c', n', d', es⟩ := s
  obtain ⟨k, nm, pt, ks, n⟩ := o
  simp only at hlen hd hce hp hc0 h32 hj hjt hce hkl htk hcln hcls h1k hset hdp ⊢
  subst hd
  rw [hc0] at hce
  have hme : (List.map rowE es).length = es.length := List.length_map _
  have hmk : (List.map rowS ks).length = ks.length := List.length_map _
  have hlenS : ∀ es', (List.map rowN (l.set i ⟨c', n', false, es'⟩)).length = (List.map rowN l).length := fun es' => by simp
  refine ACalls.drop1 (h1 := catO (l.set i ⟨c', n', false, srtE (es ++ [(⟨pt, tot ks, ks⟩ : EV)])⟩) ++ [(3, ansX 0)]) ⟨rfl, rfl, trivial⟩ ?_
  have hcat : catO (l.set i ⟨c', n', false, srtE (es ++ [(⟨pt, tot ks, ks⟩ : EV)])⟩) = [(0, .cells [.lsl 2 4 0 (l.map rowN).length]), (2, .arr 4 ((List.map rowN l).set (0 + ((i : Nat) : Int).toNat) (rowN ⟨c', n', false, srtE (es ++ [(⟨pt, tot ks, ks⟩ : EV)])⟩)))] := by
    show [(0, AO.cells [.lsl 2 4 0 _]), (2, AO.arr 4 _)] = _
    rw [hlenS, hset]
  rw [hcat]
  rw [← hjt] at h1k ⊢
  have hsrt := sortU_ok 103 (enters_of func103 (by kernel_rfl) rfl) add2_raw (es ++ [(⟨pt, J.size, ks⟩ : EV)]) (by simp) (by simp; omega) fun x hx y hy hxy => by
    have hno : ∀ e ∈ es, e.path ≠ pt := fun e he h => by
      have := List.any_eq_false.1 hc0 e he
      simp [clashB, h] at this
    rcases List.mem_append.1 hx with hx | hx <;> rcases List.mem_append.1 hy with hy | hy
    · exact hdp x hx y hy hxy
    · rw [List.mem_singleton] at hy; subst hy; exact absurd hxy (hno x hx)
    · rw [List.mem_singleton] at hx; subst hx; exact absurd hxy.symm (hno y hy)
    · rw [List.mem_singleton] at hx hy; rw [hx, hy]
  have hes : List.map rowE es ++ [rowE ⟨pt, J.size, ks⟩] = List.map rowE (es ++ [(⟨pt, J.size, ks⟩ : EV)]) := by rw [List.map_append]; rfl
  have hone : ∀ row ∈ [rowE ⟨pt, J.size, ks⟩], ∀ y ∈ row, SV.one y = true := rowE_one (b := [(⟨pt, J.size, ks⟩ : EV)])
  have hpl : (srtE (es ++ [(⟨pt, J.size, ks⟩ : EV)])).length = (es ++ [(⟨pt, J.size, ks⟩ : EV)]).length := (srtE_facts _).1.length_eq
  have hatR : ((List.map rowN l).map stAll)[0 + ((i : Nat) : Int).toNat]? = some (stAll (rowN ⟨c', n', false, es⟩)) := by rw [List.getElem?_map, hat]; rfl
  have hlR : ((List.map rowN l).map stAll).length = (List.map rowN l).length := List.length_map _
  refine fnC lay_ok func59 rfl rfl rfl rfl rfl ?_
  repeat' first | refine o_frb 2 [.int .i64 k, .str nm, .str pt, .sl 1 (ks.map rowS), .int .i64 n] rfl rfl rfl (by (repeat' first | exact trivial | refine And.intro ?_ ?_ | rfl); first | done | fail) (by (repeat' first | exact trivial | refine And.intro ?_ ?_ | rfl); first | done | fail) rfl rfl ?_ | refine ln ?_ | refine stp lay_ok rfl ?_ | refine fin ?_ | refine n_thn ?_ | refine n_blk ?_ | refine .seq ?_ | refine reg ?_ | refine .block ?_ | refine .skip ?_ | refine cndF rfl ?_ | refine c_dec rfl (fun hc => ?_) (fun hc => ?_) | (refine o_none rfl ?_; (first | refine st_indexL lay_ok rfl rfl rfl rfl (by omega) (by omega) ?_ | refine st_loadE [SV.int .i64 c', .str n', .bool false, .sl 3 (es.map rowE)] lay_ok rfl rfl rfl hat rfl rfl rfl ?_ | refine st_pure (hj) b98 rfl rfl rfl rfl ?_ | refine st_pure (hce) b99 rfl rfl rfl rfl ?_)) | fail
  all_goals first
    | (exfalso; omega)
    | skip
  refine CodeOk.wk (Wk.toR 1 rfl hne rfl) (Nat.le_refl _) ?_
  refine nrm rfl rfl ?_
  refine dreg [(0, [], [46, 47, 48, 49, 50, 51, 52, 53, 54, 55, 56, 57, 58, 59]), (1, [], [45, 51, 52, 53, 54, 55]), (2, [1], [45, 51, 52, 53, 54, 55]), (3, [1, 2], [45, 51, 52, 53, 54, 55]), (4, [1, 2, 3], [45, 51, 52, 53, 54, 55]), (5, [1, 2, 3, 4], [45, 51, 52, 53, 54, 55]), (6, [], [45, 46, 47, 48, 49, 50, 53, 54, 55, 56]), (7, [6], [45, 46, 47, 48, 49, 50, 53, 54, 55, 56]), (8, [], [45, 46, 47, 48, 49, 50, 51, 52, 54, 55, 56]), (9, [], [45, 46, 47, 48, 49, 50, 51, 52, 53]), (10, [9], [45, 46, 47, 48, 49, 50, 51, 52, 53]), (11, [1, 2, 3, 4, 5, 9, 10], [45, 51, 52, 53]), (12, [1, 2, 3, 4, 5, 6, 7, 8, 9, 10, 11], [45]), (13, [1, 2, 3, 4, 5, 6, 7, 8, 9, 10, 11, 12], [45]), (14, [1, 2, 3, 4, 5, 6, 7, 8, 9, 10, 11, 12, 13], [45]), (15, [0, 1, 2, 3, 4, 5, 6, 7, 8, 9, 10, 11, 12, 13, 14], []), (16, [0, 1, 2, 3, 4, 5, 6, 7, 8, 9, 10, 11, 12, 13, 14, 15], []), (17, [0, 1, 2, 3, 4, 5, 6, 7, 8, 9, 10, 11, 12, 13, 14, 15, 16], [])] mixed (by kernel_rfl) ?_
  repeat' first | refine stp lay_ok rfl ?_ | refine n_thn ?_ | refine .seq ?_ | refine reg ?_ | refine dws lay_ok rfl rfl rfl rfl rfl rfl rfl ?_ | refine dw_end ?_ | refine dwb rfl rfl rfl rfl rfl (by (first | refine st_loadR [AV.st (.int .i64 c'), .st (.str n'), .st (.bool false), .st (.sl 3 (es.map rowE))] lay_ok rfl rfl rfl hatR rfl rfl rfl ?_ | refine st_callF 1 (hcln) b81 rfl rfl rfl rfl rfl rfl (by (repeat' first | exact trivial | refine And.intro ?_ ?_ | rfl); first | done | fail) rfl ?_ | refine st_pure (hcls) b51 rfl rfl rfl rfl ?_ | refine st_append lay_ok rfl rfl rfl rfl rfl rfl rfl rfl (.lsl rfl rfl) (.sl (rows := [rowE ⟨pt, J.size, ks⟩])) rfl hone (by simp only [List.length_cons, List.length_nil]; omega) (by simp only [List.length_cons, List.length_nil]; omega) ?_); exact fin rfl) rfl rfl ?_ | refine dwg rfl rfl rfl rfl rfl (by (first | refine st_loadR [AV.st (.int .i64 c'), .st (.str n'), .st (.bool false), .st (.sl 3 (es.map rowE))] lay_ok rfl rfl rfl hatR rfl rfl rfl ?_ | refine st_callF 1 (hcln) b81 rfl rfl rfl rfl rfl rfl (by (repeat' first | exact trivial | refine And.intro ?_ ?_ | rfl); first | done | fail) rfl ?_ | refine st_pure (hcls) b51 rfl rfl rfl rfl ?_ | refine st_append lay_ok rfl rfl rfl rfl rfl rfl rfl rfl (.lsl rfl rfl) (.sl (rows := [rowE ⟨pt, J.size, ks⟩])) rfl hone (by simp only [List.length_cons, List.length_nil]; omega) (by simp only [List.length_cons, List.length_nil]; omega) ?_); exact fin rfl) rfl rfl rfl rfl rfl ?_ | refine dwv rfl rfl rfl rfl (by refine st_storeR lay_ok rfl rfl rfl hatR rfl rfl rfl rfl ?_; exact fin rfl) rfl rfl rfl rfl ?_ | fail
  rw [hes]
  have hml : (List.map rowE (es ++ [(⟨pt, J.size, ks⟩ : EV)])).length = (es ++ [(⟨pt, J.size, ks⟩ : EV)]).length := List.length_map _
  rw [hml]
  clear hes hml hone hcat hlenS hset
  generalize es ++ [(⟨pt, J.size, ks⟩ : EV)] = es2 at *
  have hlen2 : es2.length = (List.map rowE (srtE es2)).length := by rw [List.length_map, hpl]
  generalize srtE es2 = so at *
  rw [hlen2] at hsrt ⊢
  have hatR2 : (((List.map rowN l).map stAll).set (0 + ((i : Nat) : Int).toNat) (putAt (stAll (rowN ⟨c', n', false, es⟩)) (0 + 3) [AV.lsl (2 + 1 + 1 + 1) 3 0 (List.map rowE so).length]))[0 + ((i : Nat) : Int).toNat]? = some [AV.st (.int .i64 c'), .st (.str n'), .st (.bool false), .lsl (2 + 1 + 1 + 1) 3 0 (List.map rowE so).length] := by
    rw [List.getElem?_set_self (by rw [hlR, hm, Nat.zero_add, Int.toNat_natCast]; exact hi)]; rfl
  repeat' first | refine stp lay_ok rfl ?_ | refine fin ?_ | refine n_thn ?_ | refine .seq ?_ | refine reg ?_ | refine .ret ?_ | (refine o_none rfl ?_; (first | refine st_loadR [AV.st (.int .i64 c'), .st (.str n'), .st (.bool false), .lsl (2 + 1 + 1 + 1) 3 0 (List.map rowE so).length] lay_ok rfl rfl rfl hatR2 rfl rfl rfl ?_ | refine st_callF 0 (hsrt) b102 rfl rfl rfl rfl rfl rfl (by (repeat' first | exact trivial | refine And.intro ?_ ?_ | rfl); first | done | fail) rfl ?_)) | fail
  refine f_end (n0 := 4) (t'' := [(6, .ptr 3 0)]) (h'' := [(0, .cells [.lsl 2 4 0 (l.map rowN).length]), (2, .arr 4 ((l.map rowN).set (0 + ((i : Nat) : Int).toNat) (rowN ⟨c', n', false, so⟩))), (3, ansX 0)]) (Wk.then (Wk.frzR 5 1 [6] rfl rfl (FrzRow.one hat) rfl rfl (by (repeat' first | exact trivial | refine And.intro ?_ ?_ | rfl); first | done | fail) (by (repeat' first | exact trivial | refine And.intro ?_ ?_ | rfl); first | done | fail) rfl rfl) (WkR.of [1, 3] (by (repeat' first | exact trivial | refine And.intro ?_ ?_ | rfl); first | done | fail) (by (repeat' first | exact trivial | refine And.intro ?_ ?_ | rfl); first | done | fail) rfl)) rfl rfl ⟨?_, rfl⟩
  rfl
end Go.Proofs.YtohmbpcjapjkbaaGreatDoorFn
namespace Go.Proofs.YtohmbpcjapjkbaaGreatDoorFn
open Go Go.Proofs Go.Shelf Go.RowKit
def sortLay_ren : Go.Shelf.Ren := ⟨fun | 6 => 134 | 8 => 142 | 9 => 161 | 19 => 173 | 20 => 174 | 21 => 187 | 22 => 188 | 23 => 189 | 24 => 190 | 25 => 191 | 26 => 192 | 27 => 193 | 28 => 194 | 29 => 195 | 36 => 212 | 31 => 200 | 32 => 201 | 37 => 213 | 38 => 214 | 39 => 143 | 41 => 220 | n => n, fun | 27 => 22 | 29 => 9 | 3 => 3 | 32 => 196 | 26 => 22 | 0 => 0 | 44 => 220 | 46 => 129 | 4 => 4 | 36 => 214 | 35 => 213 | 41 => 80 | 5 => 5 | 9 => 9 | 53 => 231 | 57 => 235 | 63 => 245 | 64 => 145 | n => n, fun | n => n⟩
theorem sortLay : Go.Proofs.SlLaysM.n6 Go.Proofs.Tryz.prog sortLay_ren where
  mixed := by kernel_rfl
  f6 := ⟨ "slices.Sort[[]string,string]", by decide, Tryz.func134.trans (congrArg some (by kernel_rfl))⟩
  f8 := Tryz.func142.trans (congrArg some (by kernel_rfl))
  f9 := ⟨ "slices.pdqsortOrdered[string]", by decide, Tryz.func161.trans (congrArg some (by kernel_rfl))⟩
  f19 := Tryz.func173.trans (congrArg some (by kernel_rfl))
  f20 := Tryz.func174.trans (congrArg some (by kernel_rfl))
  f21 := ⟨ "slices.insertionSortOrdered[string]", by decide, Tryz.func187.trans (congrArg some (by kernel_rfl))⟩
  f22 := ⟨ "slices.heapSortOrdered[string]", by decide, Tryz.func188.trans (congrArg some (by kernel_rfl))⟩
  f23 := ⟨ "slices.breakPatternsOrdered[string]", by decide, Tryz.func189.trans (congrArg some (by kernel_rfl))⟩
  f24 := ⟨ "slices.choosePivotOrdered[string]", by decide, Tryz.func190.trans (congrArg some (by kernel_rfl))⟩
  f25 := ⟨ "slices.reverseRangeOrdered[string]", by decide, Tryz.func191.trans (congrArg some (by kernel_rfl))⟩
  f26 := ⟨ "slices.partialInsertionSortOrdered[string]", by decide, Tryz.func192.trans (congrArg some (by kernel_rfl))⟩
  f27 := ⟨ "cmp.Less[string]", by decide, Tryz.func193.trans (congrArg some (by kernel_rfl))⟩
  f28 := ⟨ "slices.partitionEqualOrdered[string]", by decide, Tryz.func194.trans (congrArg some (by kernel_rfl))⟩
  f29 := ⟨ "slices.partitionOrdered[string]", by decide, Tryz.func195.trans (congrArg some (by kernel_rfl))⟩
  f31 := Tryz.func200.trans (congrArg some (by kernel_rfl))
  f32 := Tryz.func201.trans (congrArg some (by kernel_rfl))
  f36 := ⟨ "slices.siftDownOrdered[string]", by decide, Tryz.func212.trans (congrArg some (by kernel_rfl))⟩
  f37 := ⟨ "slices.medianAdjacentOrdered[string]", by decide, Tryz.func213.trans (congrArg some (by kernel_rfl))⟩
  f38 := ⟨ "slices.medianOrdered[string]", by decide, Tryz.func214.trans (congrArg some (by kernel_rfl))⟩
  f39 := ⟨ "cmp.isNaN[string]", by decide, Tryz.func143.trans (congrArg some (by kernel_rfl))⟩
  f41 := ⟨ "slices.order2Ordered[string]", by decide, Tryz.func220.trans (congrArg some (by kernel_rfl))⟩
  t0 := Tryz.underlying0
  a0 := Tryz.isAgg0
  z0 := Tryz.sizeOf0
  v0 := Tryz.zeroValue0
  t3 := Tryz.underlying3
  a3 := Tryz.isAgg3
  z3 := Tryz.sizeOf3
  v3 := Tryz.zeroValue3
  t4 := Tryz.underlying4
  a4 := Tryz.isAgg4
  z4 := Tryz.sizeOf4
  v4 := Tryz.zeroValue4
  t5 := Tryz.underlying5
  a5 := Tryz.isAgg5
  z5 := Tryz.sizeOf5
  v5 := Tryz.zeroValue5
  t9 := Tryz.underlying9
  a9 := Tryz.isAgg9
  z9 := Tryz.sizeOf9
  v9 := Tryz.zeroValue9
  t26 := Tryz.underlying22
  a26 := Tryz.isAgg22
  z26 := Tryz.sizeOf22
  v26 := Tryz.zeroValue22
  t27 := Tryz.underlying22
  a27 := Tryz.isAgg22
  z27 := Tryz.sizeOf22
  v27 := Tryz.zeroValue22
  t29 := Tryz.underlying9
  a29 := Tryz.isAgg9
  z29 := Tryz.sizeOf9
  v29 := Tryz.zeroValue9
  t32 := Tryz.underlying196
  a32 := Tryz.isAgg196
  z32 := Tryz.sizeOf196
  v32 := Tryz.zeroValue196
  t35 := Tryz.underlying213
  a35 := Tryz.isAgg213
  z35 := Tryz.sizeOf213
  v35 := Tryz.zeroValue213
  t36 := Tryz.underlying214
  a36 := Tryz.isAgg214
  z36 := Tryz.sizeOf214
  v36 := Tryz.zeroValue214
  t41 := Tryz.underlying80
  a41 := Tryz.isAgg80
  z41 := Tryz.sizeOf80
  v41 := Tryz.zeroValue80
  t44 := Tryz.underlying220
  a44 := Tryz.isAgg220
  z44 := Tryz.sizeOf220
  v44 := Tryz.zeroValue220
  t46 := Tryz.underlying129
  a46 := Tryz.isAgg129
  z46 := Tryz.sizeOf129
  v46 := Tryz.zeroValue129
  t53 := Tryz.underlying231
  a53 := Tryz.isAgg231
  z53 := Tryz.sizeOf231
  v53 := Tryz.zeroValue231
  t57 := Tryz.underlying235
  a57 := Tryz.isAgg235
  z57 := Tryz.sizeOf235
  v57 := Tryz.zeroValue235
  t63 := Tryz.underlying245
  a63 := Tryz.isAgg245
  z63 := Tryz.sizeOf245
  v63 := Tryz.zeroValue245
  t64 := Tryz.underlying145
  a64 := Tryz.isAgg145
  z64 := Tryz.sizeOf145
  v64 := Tryz.zeroValue145
end Go.Proofs.YtohmbpcjapjkbaaGreatDoorFn
namespace Go.Proofs.YtohmbpcjapjkbaaGreatDoorFn
open Go Go.Proofs Go.Shelf Go.RowKit
def sortedLay_ren : Go.Shelf.Ren := ⟨fun | 6 => 94 | 8 => 133 | 9 => 134 | 11 => 160 | 13 => 142 | 12 => 161 | 23 => 173 | 24 => 174 | 14 => 187 | 15 => 188 | 16 => 189 | 17 => 190 | 18 => 191 | 19 => 192 | 20 => 193 | 21 => 194 | 22 => 195 | 25 => 212 | 26 => 200 | 27 => 201 | 28 => 213 | 29 => 214 | 30 => 143 | 31 => 220 | n => n, fun | 26 => 9 | 28 => 152 | 24 => 22 | 0 => 0 | 3 => 3 | 37 => 196 | 48 => 220 | 50 => 129 | 4 => 4 | 40 => 214 | 39 => 213 | 45 => 80 | 5 => 5 | 9 => 9 | 51 => 231 | 55 => 235 | 57 => 245 | 58 => 145 | 33 => 185 | n => n, fun | n => n⟩
theorem sortedLay : Go.Proofs.SlLaysZ.n6 Go.Proofs.Tryz.prog sortedLay_ren where
  mixed := by kernel_rfl
  f6 := ⟨ "slices.Sorted[string]", by decide, Tryz.func94.trans (congrArg some (by kernel_rfl))⟩
  f8 := ⟨ "slices.Collect[string]", by decide, Tryz.func133.trans (congrArg some (by kernel_rfl))⟩
  f11 := ⟨ "slices.AppendSeq[[]string,string]", by decide, Tryz.func160.trans (congrArg some (by kernel_rfl))⟩
  t0 := Tryz.underlying0
  a0 := Tryz.isAgg0
  z0 := Tryz.sizeOf0
  v0 := Tryz.zeroValue0
  t24 := Tryz.underlying22
  a24 := Tryz.isAgg22
  z24 := Tryz.sizeOf22
  v24 := Tryz.zeroValue22
  t26 := Tryz.underlying9
  a26 := Tryz.isAgg9
  z26 := Tryz.sizeOf9
  v26 := Tryz.zeroValue9
  t28 := Tryz.underlying152
  a28 := Tryz.isAgg152
  z28 := Tryz.sizeOf152
  v28 := Tryz.zeroValue152
  i26 := by kernel_rfl
end Go.Proofs.YtohmbpcjapjkbaaGreatDoorFn
namespace Go.Proofs.YtohmbpcjapjkbaaGreatDoorFn
open Go Go.Proofs.YtohmbpcjapjkbaaGreatDoorAl Go.Proofs.Tryz Go.Proofs Go.RowKit Go.Maps Go.Sort Go.Shelf
attribute [local irreducible] IntKind.wrap CodeOk OpsL OpG ACalls thn inBlk rndR cutR WkR Wk fnR DW ExtOk partsOf
theorem b95 : HasBody prog 95 := ⟨f95, func95, Option.some_ne_none _, by decide⟩
theorem b94 : HasBody prog 94 := ⟨f94, func94, Option.some_ne_none _, by decide⟩
/-! ### a map's keys, sorted: by the library's contracts -/
abbrev fnKeys : AV := .fn (.func 135) [] [.ptr 0 0]
theorem sortsIn (m : Nat) : AnyZ.SortsIn prog sortedLay_ren Fence.wide m :=
  ⟨fun blk off cap ss W hH hblk hsz => callsIn_wide.2 (AnyM.slices_Sort_string sortLay blk off cap ss W hH hblk hsz),
   fun p cap W => callsIn_wide.2 (AnyM.slices_Sort_string_none sortLay p cap W)⟩
theorem keysM_ok (S : List ByteArray) : ACalls prog 95 1 [.map 0] [(0, .map (S.map ent))] fun r h => r = .fn (.func 135) [] [.ptr 1 0] ∧ h = [(0, .map (S.map ent)), (1, .cells [.map 0])] := by
  refine fnC lay_ok func95 rfl rfl rfl rfl rfl ?_
  repeat' first | refine stp lay_ok rfl ?_ | refine fin ?_ | refine n_thn ?_ | refine .seq ?_ | refine reg ?_ | refine .ret ?_ | fail
  refine f_end (n0 := 2) (t'' := [(2, .fn (.func 135) [] [.ptr 1 0])]) (h'' := [(0, .map (S.map ent)), (1, .cells [.map 0])]) (WkR.of [1] (by (repeat' first | exact trivial | refine And.intro ?_ ?_ | rfl); first | done | fail) (by (repeat' first | exact trivial | refine And.intro ?_ ?_ | rfl); first | done | fail) rfl) rfl rfl ⟨?_, rfl⟩
  rfl
/-- A map of texts, as the library's contracts say it. -/
theorem owns_ent {c : Cfg} {h : Go.Proofs.YtohmbpcjapjkbaaGreatDoorAl.Heap} (hr : HRel c h) {id : Nat} {S : List ByteArray} (hl : Go.Proofs.YtohmbpcjapjkbaaGreatDoorAl.look h id = some (AO.map (S.map ent))) (hd : S.Nodup) (hS : S.length ≤ 4000000000) (hk : ∀ k ∈ S, k.size ≤ 4000000000) :
    ∃ D0 : DataW Unit, (∃ nn, c.w.ownsMap prog 9 (plainElem prog 4) (c.ι id) nn D0) ∧ Maps.size D0 = S.length ∧ (strKeys D0).Perm (S.map (·.data.toList)) := by
  obtain ⟨mes, clock, m1, m2, m3, m4, m5⟩ := hr.rel id (AO.map (S.map ent)) hl trivial
  rw [List.length_map] at m2
  have hstr : prog.underlying 9 = some .string := underlying9
  have hbool : prog.underlying 4 = some .bool := underlying4
  have hget : ∀ (i : Nat) (e : MapEntry), mes[i]? = some e → ∃ k, S[i]? = some k ∧ e.key = .string k ∧ e.val = .bool true := fun i e he => by
    obtain ⟨hi, _⟩ := Array.getElem?_eq_some_iff.1 he
    have hi' : i < S.length := by omega
    obtain ⟨e', h1, h2, h3⟩ := m3 i (.str S[i]) (.bool true) (by rw [List.getElem?_map, List.getElem?_eq_getElem hi']; rfl)
    rw [he] at h1; cases h1
    refine ⟨S[i], List.getElem?_eq_getElem hi', ?_, ?_⟩
    · generalize e.key = kk at h2
      cases h2; rfl
    · generalize e.val = vv at h3
      cases h3; rfl
  have hrd : ∀ e ∈ mes.toList, ∃ k ∈ S, e.key = .string k ∧ WideElems.rd (H := Unit) prog 9 (plainElem prog 4) e = some (.string k.data.toList, .lit (.bool true)) := fun e he => by
    obtain ⟨i, hi⟩ := List.getElem?_of_mem he
    obtain ⟨k, h1, h2, h3⟩ := hget i e (by simpa using hi)
    have hm : k ∈ S := List.mem_of_getElem? h1
    refine ⟨k, hm, h2, ?_⟩
    have hkey := Go.WideMaps.keyOf_string_mk hstr (s := k) (Nat.le_trans (hk k hm) (by decide))
    simp [WideElems.rd, h2, h3, hkey, plainElem_bool hbool]
  have hkeys : mes.toList.map (·.key) = S.map Value.string := by
    apply List.ext_getElem?
    intro i
    rw [List.getElem?_map, List.getElem?_map, Array.getElem?_toList]
    cases hi : mes[i]? with
    | none =>
      have : S[i]? = none := by
        rw [List.getElem?_eq_none_iff]
        have := Array.getElem?_eq_none_iff.1 hi
        omega
      rw [this]; rfl
    | some e =>
      obtain ⟨k, h1, h2, _⟩ := hget i e hi
      rw [h1]; simp [h2]
  have hrg : (mes.toList.map (WideElems.rg (H := Unit) prog 9 (plainElem prog 4))).map (fun p => strOf p.1) = S.map (·.data.toList) := by
    rw [List.map_map]
    have e1 : ∀ e ∈ mes.toList, ((fun p : Lit × DataW Unit => strOf p.1) ∘ WideElems.rg prog 9 (plainElem prog 4)) e = (match e.key with | .string s => s.data.toList | _ => []) := fun e he => by
      obtain ⟨k, _, h2, h3⟩ := hrd e he
      rw [Function.comp_apply, WideElems.rg_of h3, h2]; rfl
    rw [List.map_congr_left e1]
    have e2 : (mes.toList.map fun e => match e.key with | .string s => s.data.toList | _ => []) = (mes.toList.map (·.key)).map fun v => match v with | .string s => s.data.toList | _ => [] := by rw [List.map_map]; rfl
    rw [e2, hkeys, List.map_map]; rfl
  refine ⟨.map ((mes.toList.map (WideElems.rg prog 9 (plainElem prog 4))).foldr DataW.insert []), ⟨mes.size, mes, clock, m1, ⟨by rw [m2]; exact Nat.le_trans hS (by decide), ⟨fun x hx => ?_, m5, ?_⟩, fun x hx => ?_⟩, Nat.le_refl _, rfl⟩, ?_, ?_⟩
  · obtain ⟨i, hi⟩ := List.getElem?_of_mem hx
    exact m4 i x (by simpa using hi)
  · rw [hkeys]
    exact List.Pairwise.map _ (fun a b hab he => hab (by injection he)) hd
  · obtain ⟨k, _, _, h3⟩ := hrd x hx
    exact ⟨_, h3⟩
  · show List.length _ = _
    rw [(Go.WideShapes.sorted_perm _).length_eq, List.length_map, Array.length_toList, m2]
  · show List.Perm (List.map (fun p : Lit × DataW Unit => strOf p.1) _) _
    rw [← hrg]
    exact (Go.WideShapes.sorted_perm _).map _
theorem sortS_nil {S : List ByteArray} : sortS S = [] ↔ S = [] := by
  unfold sortS
  rw [← List.length_eq_zero_iff, List.length_map, List.length_mergeSort, List.length_map, List.length_eq_zero_iff]
set_option maxHeartbeats 4000000 in
theorem sorted_ok (S : List ByteArray) (hd : S.Nodup) (hS : S.length ≤ 4000000000) (hk : ∀ k ∈ S, k.size ≤ 4000000000) :
    ACalls prog 94 2 [fnKeys] [(0, .cells [.map 1]), (1, .map (S.map ent))] fun r h => r = .lsl 2 1 0 ((sortS S).map rowS).length ∧ h = [(2, .arr 1 ((sortS S).map rowS)), (0, .cells [.map 1]), (1, .map (S.map ent))] := by
  refine ACalls.rawN fun c vals hn hr hv => ?_
  cases hv with
  | cons _ v1 _ vs a1 hv =>
  cases hv
  cases a1 with
  | fn f first caps vf vc hf hcp =>
  cases hf
  cases hcp with
  | cons _ u _ us b1 hcp =>
  cases hcp
  cases b1 with
  | ptr _ _ _ =>
  obtain ⟨ws, T, fr, k1, k2, k3⟩ := hr.rel 0 (AO.cells [AV.map 1]) rfl trivial
  cases k3 with
  | cons _ wv _ ws' c1 c2 =>
  cases c2
  cases c1 with
  | map _ _ =>
  have hlt : c.ι 0 < c.w.heap.size := hr.blk 0 _ rfl trivial
  have hcell : c.w.cell? ⟨c.ι 0, 0, none⟩ = some (.map (some (c.ι 1))) := by simp [World.cell?, k1]
  obtain ⟨D0, ⟨nn, hown⟩, hsz, hpm⟩ := owns_ent hr (id := 1) rfl hd hS hk
  have hseq : SeqGives Fence.wide 2 prog 135 #[.pointer (some ⟨c.ι 0, 0, none⟩)] encStr (fun ss => ss.Perm (strKeys D0)) (Maps.size D0) c.w :=
    AnyZ.keys_gives (ρ := keysLay_ren) { keysLay with } Fence.wide _ trivial rfl (by omega) (c.ι 0) (c.ι 1) nn D0 _ hlt hcell hown
  have hall := AnyZ.sorted_in sortedLay Fence.wide 5 trivial trivial trivial trivial rfl (by omega) (sortsIn _) (enters_of func134 (by kernel_rfl) rfl) 135 #[.pointer (some ⟨c.ι 0, 0, none⟩)] trivial (enters_of func135 (by kernel_rfl) rfl) _ _ (by rw [hsz]; exact Nat.le_trans hS (by decide)) (by rw [hsz]; omega) c.w hseq
  refine (callsIn_wide.1 hall).mono fun e w' ⟨v, ss, he, hp, hrow, hnil, hb⟩ => ⟨⟨v, he, ?_⟩, hb⟩
  have hp' : ss.Perm (S.map (·.data.toList)) := hp.trans hpm
  have hms : ss.mergeSort (fun x y => decide (x ≤ y)) = (S.map (·.data.toList)).mergeSort fun x y => decide (x ≤ y) := mergeSort_of_perm hp'
  have hlen : ss.length = S.length := by rw [hp'.length_eq, List.length_map]
  have hsl : ((sortS S).map rowS).length = ss.length := by
    rw [List.length_map, hlen]
    unfold sortS
    rw [List.length_map, List.length_mergeSort, List.length_map]
  have hflat : ((sortS S).map rowS).flatten = (sortS S).map SV.str := by
    induction sortS S with
    | nil => rfl
    | cons x r ih => simp [rowS, ih]
  obtain ⟨o1, o2⟩ := hrow
  rcases o2 with ⟨rfl, h0⟩ | ⟨g, cap, cur, rfl, g1, g2, g3, g4, g5, g6⟩
  · left
    refine ⟨rfl, ?_⟩
    have : S = [] := List.length_eq_zero_iff.1 (by omega)
    subst this
    rw [sortS_nil.2 rfl]; rfl
  · right
    have hne : ss ≠ [] := fun h => by
      have := hnil.2 h
      cases this
    refine ⟨g, cap, cur, _, _, by rw [hsl], fun h => ?_, g1, g2, fun j _ hj => by have := hj.2; omega, by rw [hsl]; exact g3, by omega, ?_⟩
    · have : ((sortS S).map rowS).length = 0 := by rw [h]; rfl
      rw [hsl] at this
      exact hne (List.length_eq_zero_iff.1 this)
    · refine SRows.of_flat (vs := (ss.mergeSort fun x y => decide (x ≤ y)).map encStr) (fun row hm => ?_) ?_ fun j u hu => ?_
      · obtain ⟨s, _, rfl⟩ := List.mem_map.1 hm; rfl
      · rw [hflat, hms]
        unfold sortS
        rw [List.map_map]
        generalize (S.map (·.data.toList)).mergeSort (fun x y => decide (x ≤ y)) = L
        induction L with
        | nil => exact .nil
        | cons x r ih => exact .cons _ _ _ _ (.str _) ih
      · rw [Nat.zero_add]
        rw [← g6, List.getElem?_take] at hu
        split at hu
        · simp only [World.cell?, g2]
          simpa using hu
        · cases hu
end Go.Proofs.YtohmbpcjapjkbaaGreatDoorFn
namespace Go.Proofs.YtohmbpcjapjkbaaGreatDoorFn
open Go.Proofs.YtohmbpcjapjkbaaGreatDoorAl Go.Proofs.Tryz
attribute [local irreducible] IntKind.wrap CodeOk OpsL OpG ACalls thn inBlk rndR cutR WkR Wk fnR DW ExtOk partsOf
theorem b57 : HasBody prog 57 := ⟨f57, func57, Option.some_ne_none _, by decide⟩
/-! ### all chunks -/
theorem nodup_addS {S : List ByteArray} (k : ByteArray) (h : S.Nodup) : (addS S k).Nodup := by
  unfold addS
  split
  · exact h
  · rename_i hm
    rw [List.nodup_append]
    refine ⟨h, by simp, fun x hx y hy hxy => ?_⟩
    rw [List.mem_singleton] at hy
    subst hy hxy
    exact hm (memB_iff.2 hx)
theorem addF_facts (Q : ByteArray → Prop) : ∀ (l S : List ByteArray), S.Nodup → (∀ k ∈ S, Q k) → (∀ k ∈ l, Q k) → (l.foldl addS S).Nodup ∧ (∀ k ∈ l.foldl addS S, Q k) ∧ (l.foldl addS S).length ≤ S.length + l.length
  | [], S, h, h1, h2 => ⟨h, h1, by simp⟩
  | k :: r, S, h, h1, h2 => by
    rw [List.foldl_cons]
    obtain ⟨a1, a2, a3⟩ := addF_facts Q r (addS S k) (nodup_addS k h) (fun x hx => by
      unfold addS at hx
      split at hx
      · exact h1 x hx
      · rcases List.mem_append.1 hx with hx | hx
        · exact h1 x hx
        · rw [List.mem_singleton] at hx; subst hx; exact h2 _ (.head _)) fun x hx => h2 x (.tail _ hx)
    refine ⟨a1, a2, Nat.le_trans a3 ?_⟩
    have : (addS S k).length ≤ S.length + 1 := by
      unfold addS
      split
      · omega
      · simp
    rw [List.length_cons]; omega
abbrev ansH (ks : List ByteArray) : AV := .st (.agg [.int .i64 0, .int .i64 0, .nilsl, .sl 1 (ks.map rowS), .nilsl])
set_option maxHeartbeats 8000000 in
set_option maxRecDepth 4000 in
theorem held_ok (l : List NV) (hl : l.length ≤ 4000000) (hE : ∀ s ∈ l, s.entries.length ≤ 4000000) (hK : ∀ s ∈ l, ∀ e ∈ s.entries, e.keys.length ≤ 4000000) (hA : (allS l).length ≤ 4000000000) (hZ : ∀ k ∈ allS l, k.size ≤ 4000000000) :
    ACalls prog 57 2 [.ptr 0 0] (catH l) fun r h => r = ansH (heldS l) ∧ h = catO l := by
  have hm : (List.map rowN l).length = l.length := List.length_map _
  have hfin : heldS l = sortS ((allS l).foldl addS []) := rfl
  rw [hfin]
  obtain ⟨a1, a2, a3⟩ := addF_facts (fun k => k.size ≤ 4000000000) (allS l) [] .nil (by simp) hZ
  have hkM := keysM_ok ((allS l).foldl addS [])
  have hsO := sorted_ok ((allS l).foldl addS []) a1 (by simp at a3; omega) a2
  generalize hF : (allS l).foldl addS [] = F at *
  generalize hR : sortS F = R at *
  refine ACalls.drop1 (h1 := catO l ++ [(3, .cells [.st (.int .i64 0), .st (.int .i64 0), .st .nilsl, .st (.sl 1 (R.map rowS)), .st .nilsl])]) ⟨rfl, rfl, trivial⟩ ?_
  refine fnC lay_ok func57 rfl rfl rfl rfl rfl ?_
  repeat' first | refine ln ?_ | refine stp lay_ok rfl ?_ | refine fin ?_ | refine n_thn ?_ | refine .seq ?_ | refine reg ?_ | refine .block ?_ | (refine o_none rfl ?_; refine st_makeMap ?_) | fail
  refine lpR (fun (k, S) => k ≤ l.length ∧ S = (allS (l.take k)).foldl addS []) (fun (k, S) => l.length - k) (fun (k, S) => [(16, I k)]) (fun (k, S) => [(3, .map (S.map ent))]) ((0, [])) [2, 3, 14, 15] [3] [] rfl rfl rfl (.of [] (by (repeat' first | exact trivial | refine And.intro ?_ ?_ | rfl); first | done | fail) (by (repeat' first | exact trivial | refine And.intro ?_ ?_ | rfl); first | done | fail) rfl) ?_ ?_
  · exact ⟨Nat.zero_le _, rfl⟩
  rintro ⟨k, S⟩ ⟨g1, g2⟩
  refine nrm rfl rfl ?_
  by_cases hk : k < l.length
  case neg =>
    have hke : k = l.length := by omega
    subst hke
    rw [List.take_length, hF] at g2
    subst g2
    repeat' first | refine stp lay_ok rfl ?_ | refine fin ?_ | refine n_thn ?_ | refine e_thn ?_ | refine e_hit ?_ | refine e_rr ?_ | refine .seq ?_ | refine reg ?_ | refine .block ?_ | refine .skip ?_ | refine .ret ?_ | refine .exit ?_ | refine c_dec rfl (fun hc => ?_) (fun hc => ?_) | (refine o_none rfl ?_; (first | refine st_callF 1 (hkM) b95 rfl rfl rfl rfl rfl rfl (by (repeat' first | exact trivial | refine And.intro ?_ ?_ | rfl); first | done | fail) rfl ?_ | refine st_callG [4,3] 1 (hsO) b94 rfl rfl rfl rfl rfl (by (repeat' first | exact trivial | refine And.intro ?_ ?_ | rfl); first | done | fail) rfl ?_)) | fail
    all_goals first
      | (exfalso; omega)
      | skip
    refine f_end (n0 := 4) (t'' := [(2, .ptr 3 0)]) (h'' := [(0, .cells [.lsl 2 4 0 (l.map rowN).length]), (2, .arr 4 (l.map rowN)), (3, .cells [.st (.int .i64 0), .st (.int .i64 0), .st .nilsl, .st (.sl 1 (R.map rowS)), .st .nilsl])]) (Wk.then (Wk.frz 5 [2] rfl rfl rfl (by (repeat' first | exact trivial | refine And.intro ?_ ?_ | rfl); first | done | fail) (by (repeat' first | exact trivial | refine And.intro ?_ ?_ | rfl); first | done | fail) rfl rfl) (WkR.of [1, 2] (by (repeat' first | exact trivial | refine And.intro ?_ ?_ | rfl); first | done | fail) (by (repeat' first | exact trivial | refine And.intro ?_ ?_ | rfl); first | done | fail) rfl)) rfl rfl ⟨?_, rfl⟩
    rfl
  have hat : (List.map rowN l)[0 + ((k : Nat) : Int).toNat]? = some (rowN l[k]) := by simp [hk]
  have hst : (allS (l.take (k + 1))).foldl addS [] = (l[k].entries.flatMap (·.keys)).foldl addS S := by
    rw [g2, List.take_succ_eq_append_getElem hk]
    unfold allS
    rw [List.flatMap_append, List.foldl_append]; simp
  have hEk := hE _ (List.getElem_mem hk)
  have hKk := hK _ (List.getElem_mem hk)
  generalize l[k] = s at *
  obtain ⟨c', n', d', es⟩ := s
  simp only at hst hEk hKk
  have hme : (List.map rowE es).length = es.length := List.length_map _
  repeat' first | refine ln ?_ | refine stp lay_ok rfl ?_ | refine fin ?_ | refine n_thn ?_ | refine e_thn ?_ | refine e_hit ?_ | refine e_rr ?_ | refine .seq ?_ | refine reg ?_ | refine .block ?_ | refine .skip ?_ | refine .exit ?_ | refine c_dec rfl (fun hc => ?_) (fun hc => ?_) | (refine o_none rfl ?_; (first | refine st_indexL lay_ok rfl rfl rfl rfl (by omega) (by omega) ?_ | refine st_loadE [SV.int .i64 c', .str n', .bool d', .sl 3 (es.map rowE)] lay_ok rfl rfl rfl hat rfl rfl rfl ?_)) | fail
  all_goals first
    | (exfalso; omega)
    | skip
  refine lpR (fun (i, S2) => i ≤ es.length ∧ S2 = ((es.take i).flatMap (·.keys)).foldl addS S) (fun (i, S2) => es.length - i) (fun (i, S2) => [(23, I i)]) (fun (i, S2) => [(3, .map (S2.map ent))]) ((0, S)) [2, 3, 14, 15, 16, 21, 22] [3] [] rfl rfl rfl (.of [] (by (repeat' first | exact trivial | refine And.intro ?_ ?_ | rfl); first | done | fail) (by (repeat' first | exact trivial | refine And.intro ?_ ?_ | rfl); first | done | fail) rfl) ?_ ?_
  · exact ⟨Nat.zero_le _, rfl⟩
  rintro ⟨i, S2⟩ ⟨m1, m2⟩
  refine nrm rfl rfl ?_
  by_cases hi : i < es.length
  case neg =>
    have hie : i = es.length := by omega
    subst hie
    rw [List.take_length] at m2
    repeat' first | refine wr (by omega) ?_ | refine stp lay_ok rfl ?_ | refine fin ?_ | refine n_thn ?_ | refine n_blk ?_ | refine e_thn ?_ | refine e_hit ?_ | refine e_rr ?_ | refine .seq ?_ | refine reg ?_ | refine .block ?_ | refine .skip ?_ | refine .exit ?_ | refine c_dec rfl (fun hc => ?_) (fun hc => ?_) | fail
    all_goals first
      | (exfalso; omega)
      | skip
    refine n_rr ((k + 1, S2)) ?_ (.of [] (by (repeat' first | exact trivial | refine And.intro ?_ ?_ | rfl | exact congrArg (fun z : Int => some (AV.st (.int .i64 z))) (show (k : Int) + 1 = ((k + 1 : Nat) : Int) by omega)); first | done | fail) (by (repeat' first | exact trivial | refine And.intro ?_ ?_ | rfl | exact congrArg (fun z : Int => some (AV.st (.int .i64 z))) (show (k : Int) + 1 = ((k + 1 : Nat) : Int) by omega)); first | done | fail) rfl) ?_
    · show l.length - (k + 1) < l.length - k; omega
    · exact ⟨hk, by rw [hst]; exact m2⟩
  have hat2 := at_rowE hi
  have hst2 : ((es.take (i + 1)).flatMap (·.keys)).foldl addS S = es[i].keys.foldl addS S2 := by
    rw [m2, List.take_succ_eq_append_getElem hi, List.flatMap_append, List.foldl_append]; simp
  have hKi := hKk _ (List.getElem_mem hi)
  generalize es[i] = e at *
  obtain ⟨p, z, ks⟩ := e
  simp only at hst2 hKi
  have hmk : (List.map rowS ks).length = ks.length := List.length_map _
  repeat' first | refine wr (by omega) ?_ | refine ln ?_ | refine stp lay_ok rfl ?_ | refine fin ?_ | refine n_thn ?_ | refine n_blk ?_ | refine e_thn ?_ | refine e_hit ?_ | refine e_rr ?_ | refine .seq ?_ | refine reg ?_ | refine .block ?_ | refine .skip ?_ | refine .exit ?_ | refine c_dec rfl (fun hc => ?_) (fun hc => ?_) | (refine o_none rfl ?_; refine st_index [SV.str p, .int .i64 z, .sl 1 (ks.map rowS)] lay_ok rfl rfl rfl rfl (by omega) hat2 ?_) | fail
  all_goals first
    | (exfalso; omega)
    | skip
  refine lpR (fun (j, S3) => j ≤ ks.length ∧ S3 = (ks.take j).foldl addS S2) (fun (j, S3) => ks.length - j) (fun (j, S3) => [(30, I j)]) (fun (j, S3) => [(3, .map (S3.map ent))]) ((0, S2)) [2, 3, 14, 15, 16, 21, 22, 23, 28, 29] [3] [] rfl rfl rfl (.of [] (by (repeat' first | exact trivial | refine And.intro ?_ ?_ | rfl); first | done | fail) (by (repeat' first | exact trivial | refine And.intro ?_ ?_ | rfl); first | done | fail) rfl) ?_ ?_
  · exact ⟨Nat.zero_le _, rfl⟩
  rintro ⟨j, S3⟩ ⟨q1, q2⟩
  refine nrm rfl rfl ?_
  by_cases hj : j < ks.length
  case neg =>
    have hje : j = ks.length := by omega
    subst hje
    rw [List.take_length] at q2
    repeat' first | refine wr (by omega) ?_ | refine stp lay_ok rfl ?_ | refine fin ?_ | refine n_thn ?_ | refine n_blk ?_ | refine e_thn ?_ | refine e_hit ?_ | refine e_rr ?_ | refine .seq ?_ | refine reg ?_ | refine .block ?_ | refine .skip ?_ | refine .exit ?_ | refine c_dec rfl (fun hc => ?_) (fun hc => ?_) | fail
    all_goals first
      | (exfalso; omega)
      | skip
    refine n_rr ((i + 1, S3)) ?_ (.of [] (by (repeat' first | exact trivial | refine And.intro ?_ ?_ | rfl | exact congrArg (fun z : Int => some (AV.st (.int .i64 z))) (show (i : Int) + 1 = ((i + 1 : Nat) : Int) by omega)); first | done | fail) (by (repeat' first | exact trivial | refine And.intro ?_ ?_ | rfl | exact congrArg (fun z : Int => some (AV.st (.int .i64 z))) (show (i : Int) + 1 = ((i + 1 : Nat) : Int) by omega)); first | done | fail) rfl) ?_
    · show es.length - (i + 1) < es.length - i; omega
    · exact ⟨hi, by rw [hst2]; exact q2⟩
  have hat3 := at_rowS hj
  have hst3 : (ks.take (j + 1)).foldl addS S2 = addS S3 ks[j] := by
    rw [q2, List.take_succ_eq_append_getElem hj, List.foldl_append]; rfl
  have hput := mput_ent ks[j] S3
  have hkind := kind_ent S3
  generalize ks[j] = y at *
  repeat' first | refine wr (by omega) ?_ | refine stp lay_ok rfl ?_ | refine fin ?_ | refine n_thn ?_ | refine n_blk ?_ | refine e_thn ?_ | refine e_hit ?_ | refine e_rr ?_ | refine .seq ?_ | refine reg ?_ | refine .block ?_ | refine .skip ?_ | refine .exit ?_ | refine c_dec rfl (fun hc => ?_) (fun hc => ?_) | ((first | refine o_none rfl ?_ | refine o_none_ ?_); (first | refine st_index [SV.str y] lay_ok rfl rfl rfl rfl (by omega) hat3 ?_ | refine st_mapUpdate lay_ok rfl rfl rfl rfl rfl rfl rfl rfl rfl rfl hkind ?_)) | fail
  all_goals first
    | (exfalso; omega)
    | skip
  refine n_rr ((j + 1, addS S3 y)) ?_ (.of [] (by (repeat' first | exact trivial | refine And.intro ?_ ?_ | rfl | first | exact congrArg (fun z : Int => some (AV.st (.int .i64 z))) (show (j : Int) + 1 = ((j + 1 : Nat) : Int) by omega) | (rw [← hput]; rfl)); first | done | fail) (by (repeat' first | exact trivial | refine And.intro ?_ ?_ | rfl | first | exact congrArg (fun z : Int => some (AV.st (.int .i64 z))) (show (j : Int) + 1 = ((j + 1 : Nat) : Int) by omega) | (rw [← hput]; rfl)); first | done | fail) rfl) ?_
  · show ks.length - (j + 1) < ks.length - j; omega
  · exact ⟨hj, hst3.symm⟩
end Go.Proofs.YtohmbpcjapjkbaaGreatDoorFn
namespace Go.Proofs.YtohmbpcjapjkbaaGreatDoorFn
open Go.Proofs.YtohmbpcjapjkbaaGreatDoorAl Go.Proofs.Tryz
attribute [local irreducible] IntKind.wrap CodeOk OpsL OpG ACalls thn inBlk rndR cutR WkR Wk fnR DW ExtOk partsOf
/-! ### a catalog without snapshots whose slice may have room -/
abbrev roomH : Heap := [(0, .cells [.lsl 1 4 1 0]), (1, .arr 4 [zrow])]
theorem acalls_le {P : Program} {f m : Nat} {args : List AV} {h0 h1 : Heap} {x y : AV} (h : ACalls P f m args h0 fun r h' => r = x ∧ h' = h1) (hle : AVLe x y) : ACalls P f m args h0 fun r h' => r = y ∧ h' = h1 := by
  unfold ACalls at *
  exact fun c vals hn hr hv => (h c vals hn hr hv).mono fun e w' ⟨r, h', c', v, ⟨e1, e2⟩, he, hw, hx, hh⟩ => ⟨y, h', c', v, ⟨rfl, e2⟩, he, hw, hle _ _ (e1 ▸ hx), hh⟩
theorem idx_room (c : Int) (nm : ByteArray) : ACalls prog 96 1 [.lsl 0 4 1 0, .fn (.func 97) [] [.st (.sptr [.int .i64 c]), .st (.sptr [.str nm])]] [(0, .arr 4 [zrow])] fun r h => r = I (-1) ∧ h = [(0, .arr 4 [zrow])] := by
  refine fnC lay_ok func96 rfl rfl rfl rfl rfl ?_
  repeat' first | refine stp lay_ok rfl ?_ | refine fin ?_ | refine n_thn ?_ | refine .seq ?_ | refine reg ?_ | refine .block ?_ | fail
  refine lpR (fun k => k = 0) (fun k => 0 * k) (fun k => [(8, I (k : Nat))]) (fun k => []) (0) [0, 1, 7] [] [] rfl rfl rfl (.of [] (by (repeat' first | exact trivial | refine And.intro ?_ ?_ | rfl); first | done | fail) (by (repeat' first | exact trivial | refine And.intro ?_ ?_ | rfl); first | done | fail) rfl) ?_ ?_
  · rfl
  rintro k rfl
  refine nrm rfl rfl ?_
  repeat' first | refine stp lay_ok rfl ?_ | refine fin ?_ | refine n_thn ?_ | refine e_thn ?_ | refine e_hit ?_ | refine e_rr ?_ | refine .seq ?_ | refine reg ?_ | refine .ret ?_ | refine .exit ?_ | refine cndF rfl ?_ | fail
  all_goals first
    | (exfalso; omega)
    | skip
  refine f_r [(0, .arr 4 [zrow])] rfl (by (repeat' first | exact trivial | refine And.intro ?_ ?_ | rfl); first | done | fail) rfl ⟨?_, rfl⟩
  rfl
theorem find_room (c : Int) (nm : ByteArray) : ACalls prog 58 2 [.ptr 0 0, I c, Sx nm] roomH fun r h => r = I (-1) ∧ h = roomH := by
  have h1 := idx_room c nm
  refine fnC lay_ok func58 rfl rfl rfl rfl rfl ?_
  repeat' first | refine o_frb 2 [.int .i64 c] rfl rfl rfl (by (repeat' first | exact trivial | refine And.intro ?_ ?_ | rfl); first | done | fail) (by (repeat' first | exact trivial | refine And.intro ?_ ?_ | rfl); first | done | fail) rfl rfl ?_ | refine o_frb 3 [.str nm] rfl rfl rfl (by (repeat' first | exact trivial | refine And.intro ?_ ?_ | rfl); first | done | fail) (by (repeat' first | exact trivial | refine And.intro ?_ ?_ | rfl); first | done | fail) rfl rfl ?_ | refine stp lay_ok rfl ?_ | refine fin ?_ | refine n_thn ?_ | refine .seq ?_ | refine reg ?_ | refine .ret ?_ | (refine o_none rfl ?_; refine st_callK [1] (h1) b96 rfl rfl rfl rfl rfl (by (repeat' first | exact trivial | refine And.intro ?_ ?_ | rfl); first | done | fail) ?_) | fail
  refine f_r [(0, .cells [.lsl 1 4 1 0]), (1, .arr 4 [zrow])] rfl (by (repeat' first | exact trivial | refine And.intro ?_ ?_ | rfl); first | done | fail) rfl ⟨?_, rfl⟩
  rfl
theorem own_room0 (c : Int) (done : Bool) : ACalls prog 92 2 [.ptr 0 0, I c, B done] roomH fun r h => r = .st .nilsl ∧ h = roomH := by
  refine fnC lay_ok func92 rfl rfl rfl rfl rfl ?_
  repeat' first | refine stp lay_ok rfl ?_ | refine fin ?_ | refine n_thn ?_ | refine .seq ?_ | refine reg ?_ | refine .block ?_ | fail
  refine lpR (fun k => k = 0) (fun k => 0 * k) (fun k => [(15, I (k : Nat)), (7, .st .nilsl)]) (fun k => []) (0) [1, 2, 13, 14] [] [] rfl rfl rfl (.of [] (by (repeat' first | exact trivial | refine And.intro ?_ ?_ | rfl); first | done | fail) (by (repeat' first | exact trivial | refine And.intro ?_ ?_ | rfl); first | done | fail) rfl) ?_ ?_
  · rfl
  rintro k rfl
  refine nrm rfl rfl ?_
  repeat' first | refine stp lay_ok rfl ?_ | refine fin ?_ | refine n_thn ?_ | refine e_thn ?_ | refine e_hit ?_ | refine e_rr ?_ | refine .seq ?_ | refine reg ?_ | refine .ret ?_ | refine .exit ?_ | refine cndF rfl ?_ | fail
  all_goals first
    | (exfalso; omega)
    | skip
  refine f_r [(0, .cells [.lsl 1 4 1 0]), (1, .arr 4 [zrow])] rfl (by (repeat' first | exact trivial | refine And.intro ?_ ?_ | rfl); first | done | fail) rfl ⟨?_, rfl⟩
  rfl
theorem own_room (c : Int) (done : Bool) : ACalls prog 92 2 [.ptr 0 0, I c, B done] roomH fun r h => r = .st (.sl 1 []) ∧ h = roomH :=
  acalls_le (own_room0 c done) (AVLe.st (SLe.nil 1))
theorem own_roomE (c : Int) (done : Bool) : ∃ ow : List Nat, ow = [] ∧ ow.length = 0 ∧ (ACalls prog 92 2 [.ptr 0 0, I c, B done] roomH fun r h => r = .st (.sl 1 (ow.map rowI)) ∧ h = roomH) :=
  ⟨[], rfl, rfl, own_room c done⟩
theorem list_room (c : Int) : ACalls prog 55 2 [.ptr 0 0, I c] roomH fun r h => r = ansC 0 ∧ h = catX 2 [] true := by
  have h1 := own_room c true
  refine ACalls.drop1 (h1 := catX 2 [] true ++ [(3, ansX 0)]) ⟨rfl, rfl, trivial⟩ ?_
  refine fnC lay_ok func55 rfl rfl rfl rfl rfl ?_
  repeat' first | refine stp lay_ok rfl ?_ | refine fin ?_ | refine n_thn ?_ | refine .seq ?_ | refine reg ?_ | refine .block ?_ | (refine o_none rfl ?_; refine st_callK [0,1] (h1) b92 rfl rfl rfl rfl rfl (by (repeat' first | exact trivial | refine And.intro ?_ ?_ | rfl); first | done | fail) ?_) | fail
  refine lpR (fun k => k = 0) (fun k => 0 * k) (fun k => [(12, I (k : Nat))]) (fun k => []) (0) [0, 4, 5, 10, 11] [] [] rfl rfl rfl (.of [] (by (repeat' first | exact trivial | refine And.intro ?_ ?_ | rfl); first | done | fail) (by (repeat' first | exact trivial | refine And.intro ?_ ?_ | rfl); first | done | fail) rfl) ?_ ?_
  · rfl
  rintro k rfl
  refine nrm rfl rfl ?_
  repeat' first | refine stp lay_ok rfl ?_ | refine fin ?_ | refine n_thn ?_ | refine e_thn ?_ | refine e_hit ?_ | refine e_rr ?_ | refine .seq ?_ | refine reg ?_ | refine .ret ?_ | refine .exit ?_ | refine cndF rfl ?_ | fail
  all_goals first
    | (exfalso; omega)
    | skip
  refine f_end (n0 := 4) (t'' := [(4, .ptr 3 0)]) (h'' := [(0, .cells [.lsl 2 4 1 0]), (2, .arr 4 [zrow]), (3, ansX 0)]) (WkR.of [1, 2] (by (repeat' first | exact trivial | refine And.intro ?_ ?_ | rfl); first | done | fail) (by (repeat' first | exact trivial | refine And.intro ?_ ?_ | rfl); first | done | fail) rfl) rfl rfl ⟨?_, rfl⟩
  rfl
set_option maxHeartbeats 2000000 in
theorem begin_room (c : Int) (nm : ByteArray) : ACalls prog 54 2 [.ptr 0 0, I c, Sx nm] roomH fun r h => r = ansC 0 ∧ h = catX 2 [⟨c, nm, false, []⟩] false := by
  have h1 := find_room c nm
  obtain ⟨ow, how, hol, h2⟩ := own_roomE c false
  refine ACalls.drop1 (h1 := catX 2 [⟨c, nm, false, []⟩] false ++ [(3, ansX 0)]) ⟨rfl, rfl, trivial⟩ ?_
  have hone : ∀ row ∈ [[SV.int .i64 c, .str nm, .bool false, .nilsl]], ∀ y ∈ row, SV.one y = true := by
    intro row hrow y hy
    simp only [List.mem_singleton] at hrow
    subst hrow
    simp only [List.mem_cons, List.not_mem_nil, or_false] at hy
    rcases hy with rfl | rfl | rfl | rfl <;> rfl
  have hle : ∀ (i : Nat) r', [rowN ⟨c, nm, false, []⟩][i]? = some r' → ∃ r, [[SV.int .i64 c, .str nm, .bool false, .nilsl]][i]? = some r ∧ r'.length = r.length ∧ ∀ (p : Nat) y, r'[p]? = some y → ∃ x, r[p]? = some x ∧ ∀ St w v, SVal St w x v → SVal St w y v := begin_le [] c nm
  refine fnC lay_ok func54 rfl rfl rfl rfl rfl ?_
  repeat' first | refine ln ?_ | refine stp lay_ok rfl ?_ | refine fin ?_ | refine n_thn ?_ | refine n_blk ?_ | refine .seq ?_ | refine reg ?_ | refine .block ?_ | refine .skip ?_ | refine .ret ?_ | refine cndF rfl ?_ | refine c_dec rfl (fun hc => ?_) (fun hc => ?_) | (refine o_none rfl ?_; (first | refine st_callK [0,1] (h1) b58 rfl rfl rfl rfl rfl (by (repeat' first | exact trivial | refine And.intro ?_ ?_ | rfl); first | done | fail) ?_ | refine st_callK [0,1] (h2) b92 rfl rfl rfl rfl rfl (by (repeat' first | exact trivial | refine And.intro ?_ ?_ | rfl); first | done | fail) ?_ | refine st_appendR lay_ok rfl rfl rfl rfl rfl rfl rfl rfl rfl (by simp) (by simp) (.sl (rows := [[SV.int .i64 c, .str nm, .bool false, .nilsl]])) rfl hone (by simp only [List.length_cons, List.length_nil]; omega) (by simp only [List.length_cons, List.length_nil]; omega) ?_)) | fail
  all_goals first
    | (exfalso; omega)
    | skip
  refine f_end (n0 := 4) (t'' := [(6, .ptr 3 0)]) (h'' := [(0, .cells [.lsl 2 4 0 1]), (2, .arr 4 [rowN ⟨c, nm, false, []⟩]), (3, ansX 0)]) (Wk.then (Wk.leA (rows := [[SV.int .i64 c, .str nm, .bool false, .nilsl]]) (rows' := [rowN ⟨c, nm, false, []⟩]) 3 rfl rfl hle rfl) (WkR.of [3, 2] (by (repeat' first | exact trivial | refine And.intro ?_ ?_ | rfl); first | done | fail) (by (repeat' first | exact trivial | refine And.intro ?_ ?_ | rfl); first | done | fail) rfl)) rfl rfl ⟨?_, rfl⟩
  rfl
set_option maxHeartbeats 2000000 in
theorem prune_room (c n : Int) (hn : 0 ≤ n ∧ n ≤ 100) : ACalls prog 56 2 [.ptr 0 0, I c, I n] roomH fun r h => r = ansC 0 ∧ h = catX 2 [] false := by
  obtain ⟨ow, how, hol, h2⟩ := own_roomE c true
  refine ACalls.drop1 (h1 := catX 2 [] false ++ [(3, ansX 0)]) ⟨rfl, rfl, trivial⟩ ?_
  refine fnC lay_ok func56 rfl rfl rfl rfl rfl ?_
  repeat' first | refine wr (by omega) ?_ | refine ln ?_ | refine stp lay_ok rfl ?_ | refine fin ?_ | refine n_thn ?_ | refine .seq ?_ | refine reg ?_ | refine .block ?_ | (refine o_none rfl ?_; (first | refine st_callK [0,1] (h2) b92 rfl rfl rfl rfl rfl (by (repeat' first | exact trivial | refine And.intro ?_ ?_ | rfl); first | done | fail) ?_ | refine st_max rfl rfl ?_ | refine st_subL 0 0 lay_ok rfl rfl rfl rfl ⟨_, _, rfl, by omega⟩ (Nat.zero_le _) (Nat.zero_le _) ?_)) | fail
  subst how
  simp only [List.map_nil, List.drop_nil, List.take_nil]
  refine CodeOk.wk (Wk.nilT 4 9 rfl rfl) (Nat.le_succ _) ?_
  refine nrm rfl rfl ?_
  refine lpR (fun k => k = 0) (fun k => 0 * k) (fun k => [(27, I (k : Nat)), (9, .lsl 4 4 0 0)]) (fun k => [(4, .arr 4 [])]) (0) [0, 6, 8, 25, 26] [] [3] rfl rfl rfl (.of [3] (by (repeat' first | exact trivial | refine And.intro ?_ ?_ | rfl); first | done | fail) (by (repeat' first | exact trivial | refine And.intro ?_ ?_ | rfl); first | done | fail) rfl) ?_ ?_
  · rfl
  rintro k rfl
  refine nrm rfl rfl ?_
  repeat' first | refine stp lay_ok rfl ?_ | refine fin ?_ | refine n_thn ?_ | refine e_thn ?_ | refine e_hit ?_ | refine e_rr ?_ | refine .seq ?_ | refine reg ?_ | refine .ret ?_ | refine .exit ?_ | refine cndF rfl ?_ | fail
  all_goals first
    | (exfalso; omega)
    | skip
  refine f_end (n0 := 4) (t'' := [(6, .ptr 3 0)]) (h'' := [(0, .cells [.lsl 2 4 0 0]), (2, .arr 4 []), (3, ansX 0)]) (WkR.of [4, 2] (by (repeat' first | exact trivial | refine And.intro ?_ ?_ | rfl); first | done | fail) (by (repeat' first | exact trivial | refine And.intro ?_ ?_ | rfl); first | done | fail) rfl) rfl rfl ⟨?_, rfl⟩
  rfl
set_option maxHeartbeats 2000000 in
theorem held_room : ACalls prog 57 2 [.ptr 0 0] roomH fun r h => r = ansH [] ∧ h = catX 2 [] true := by
  have hkM := keysM_ok []
  have hsO := sorted_ok [] .nil (by simp) (by simp)
  rw [sortS_nil.2 rfl] at hsO
  refine ACalls.drop1 (h1 := catX 2 [] true ++ [(3, .cells [.st (.int .i64 0), .st (.int .i64 0), .st .nilsl, .st (.sl 1 []), .st .nilsl])]) ⟨rfl, rfl, trivial⟩ ?_
  refine fnC lay_ok func57 rfl rfl rfl rfl rfl ?_
  repeat' first | refine stp lay_ok rfl ?_ | refine fin ?_ | refine n_thn ?_ | refine .seq ?_ | refine reg ?_ | refine .block ?_ | (refine o_none rfl ?_; refine st_makeMap ?_) | fail
  refine lpR (fun k => k = 0) (fun k => 0 * k) (fun k => [(16, I (k : Nat))]) (fun k => []) (0) [2, 3, 14, 15] [] [] rfl rfl rfl (.of [] (by (repeat' first | exact trivial | refine And.intro ?_ ?_ | rfl); first | done | fail) (by (repeat' first | exact trivial | refine And.intro ?_ ?_ | rfl); first | done | fail) rfl) ?_ ?_
  · rfl
  rintro k rfl
  refine nrm rfl rfl ?_
  repeat' first | refine stp lay_ok rfl ?_ | refine fin ?_ | refine n_thn ?_ | refine e_thn ?_ | refine e_hit ?_ | refine e_rr ?_ | refine .seq ?_ | refine reg ?_ | refine .ret ?_ | refine .exit ?_ | refine cndF rfl ?_ | (refine o_none rfl ?_; (first | refine st_callF 1 (hkM) b95 rfl rfl rfl rfl rfl rfl (by (repeat' first | exact trivial | refine And.intro ?_ ?_ | rfl); first | done | fail) rfl ?_ | refine st_callG [4,3] 1 (hsO) b94 rfl rfl rfl rfl rfl (by (repeat' first | exact trivial | refine And.intro ?_ ?_ | rfl); first | done | fail) rfl ?_)) | fail
  all_goals first
    | (exfalso; omega)
    | skip
  refine f_end (n0 := 4) (t'' := [(2, .ptr 3 0)]) (h'' := [(0, .cells [.lsl 2 4 1 0]), (2, .arr 4 [zrow]), (3, .cells [.st (.int .i64 0), .st (.int .i64 0), .st .nilsl, .st (.sl 1 []), .st .nilsl])]) (Wk.then (Wk.frz 5 [2] rfl rfl rfl (by (repeat' first | exact trivial | refine And.intro ?_ ?_ | rfl); first | done | fail) (by (repeat' first | exact trivial | refine And.intro ?_ ?_ | rfl); first | done | fail) rfl rfl) (WkR.of [1, 2] (by (repeat' first | exact trivial | refine And.intro ?_ ?_ | rfl); first | done | fail) (by (repeat' first | exact trivial | refine And.intro ?_ ?_ | rfl); first | done | fail) rfl)) rfl rfl ⟨?_, rfl⟩
  rfl
end Go.Proofs.YtohmbpcjapjkbaaGreatDoorFn
namespace Go.Proofs.YtohmbpcjapjkbaaGreatDoorFn
open Go.Proofs.YtohmbpcjapjkbaaGreatDoorAl Go.Proofs.Tryz
/-! ### a number's bytes: read from the front, or checked by writing them again -/
def valN : List UInt8 → Nat
  | [] => 0
  | x :: r => valN r * 128 + x.toNat % 128
theorem valF_eq : ∀ l, valF l = valN l % 2 ^ 64
  | [] => rfl
  | x :: r => by rw [valF, valN, valF_eq r]; omega
/-- Bytes that go on, then one that doesn't. -/
theorem gnF_split : ∀ (cs : List UInt8) (x : UInt8) (r : List UInt8) (i acc : Nat), (∀ y ∈ cs, 128 ≤ y.toNat) → x.toNat < 128 →
    gnF (cs ++ x :: r) i acc = if 10 ≤ i + cs.length ∨ (x.toNat = 0 ∧ 0 < i + cs.length) ∨ (1 < x.toNat ∧ i + cs.length = 9) then none else some (acc + valN (cs ++ [x]) * 2 ^ (7 * i), i + cs.length + 1)
  | [], x, r, i, acc, _, hx => by
    simp only [List.nil_append, List.length_nil, Nat.add_zero, gnF]
    rw [if_neg (show ¬ 128 ≤ x.toNat by omega)]
    have : valN [x] = x.toNat % 128 := by simp [valN]
    rw [this]
  | y :: cs, x, r, i, acc, hc, hx => by
    have hy := hc y (by simp)
    have ih := gnF_split cs x r (i + 1) (acc + y.toNat % 128 * 2 ^ (7 * i)) (fun z hz => hc z (by simp [hz])) hx
    rw [List.cons_append, gnF]
    by_cases h : 10 ≤ i ∨ y.toNat = 0 ∧ 0 < i ∨ 1 < y.toNat ∧ i = 9
    · rw [if_pos h, if_pos]
      simp only [List.length_cons]; omega
    · rw [if_neg h, if_pos hy, ih]
      have e1 : i + 1 + cs.length = i + (y :: cs).length := by simp only [List.length_cons]; omega
      rw [e1]
      split
      · rfl
      · rw [List.cons_append, valN]
        congr 2
        have e2 : 2 ^ (7 * (i + 1)) = 128 * 2 ^ (7 * i) := by rw [Nat.mul_add, Nat.pow_add]; omega
        rw [e2, Nat.add_mul, Nat.mul_assoc]
        omega
theorem gnF_none : ∀ (l : List UInt8) (i acc : Nat), (∀ y ∈ l, 128 ≤ y.toNat) → gnF l i acc = none
  | [], _, _, _ => rfl
  | y :: r, i, acc, h => by
    rw [gnF, if_pos (h y (by simp)), gnF_none r _ _ (fun z hz => h z (by simp [hz]))]
    split <;> rfl
theorem ofNat_hi (y : UInt8) (h : 128 ≤ y.toNat) : UInt8.ofNat (y.toNat % 128 + 128) = y := by
  have := y.toNat_lt
  apply UInt8.toNat.inj
  rw [UInt8.toNat_ofNat']
  omega
theorem valN_pos : ∀ (cs : List UInt8) (x : UInt8), x.toNat < 128 → x.toNat ≠ 0 → 1 ≤ valN (cs ++ [x])
  | [], x, h1, h2 => by simp only [List.nil_append, valN]; omega
  | y :: cs, x, h1, h2 => by
    have := valN_pos cs x h1 h2
    rw [List.cons_append, valN]; omega
/-- Written again, a number's bytes are as they were. -/
theorem numF_val : ∀ (cs : List UInt8) (x : UInt8) (f : Nat), (∀ y ∈ cs, 128 ≤ y.toNat) → x.toNat < 128 → (cs = [] ∨ x.toNat ≠ 0) → cs.length < f → numF f (valN (cs ++ [x])) = cs ++ [x]
  | [], x, f + 1, _, hx, _, _ => by
    simp only [List.nil_append, valN]
    rw [numF, if_neg (by omega)]
    congr 1
    apply UInt8.toNat.inj
    rw [UInt8.toNat_ofNat']
    have := x.toNat_lt; omega
  | y :: cs, x, f + 1, hc, hx, h0, hf => by
    have hy := hc y (by simp)
    have hx0 : x.toNat ≠ 0 := by rcases h0 with h | h
                                 · cases h
                                 · exact h
    have hp := valN_pos cs x hx hx0
    have ih := numF_val cs x f (fun z hz => hc z (by simp [hz])) hx (.inr hx0) (by simpa using hf)
    rw [List.cons_append, valN, numF, if_pos (by omega)]
    have e1 : (valN (cs ++ [x]) * 128 + y.toNat % 128) % 128 = y.toNat % 128 := by omega
    have e2 : (valN (cs ++ [x]) * 128 + y.toNat % 128) / 128 = valN (cs ++ [x]) := by omega
    rw [e1, e2, ih, ofNat_hi y hy]
/-- What is written is read as it was. -/
theorem numF_back : ∀ (f u : Nat), u < 128 ^ f → valN (numF f u) = u
  | 0, u, h => by simp at h; subst h; rfl
  | f + 1, u, h => by
    rw [numF]
    split
    · rw [valN, numF_back f (u / 128) (by rw [Nat.pow_succ] at h; omega), UInt8.toNat_ofNat']
      omega
    · rw [valN, valN, UInt8.toNat_ofNat']
      omega
theorem numF_last : ∀ (f u : Nat) (cs : List UInt8) (x : UInt8), u < 128 ^ f → 1 ≤ u → numF f u = cs ++ [x] → x.toNat ≠ 0
  | 0, u, cs, x, h, h1, e => by simp [numF] at e
  | f + 1, u, cs, x, h, h1, e => by
    rw [numF] at e
    split at e
    · cases cs with
      | nil =>
        simp only [List.nil_append, List.cons.injEq] at e
        have := numF_back f (u / 128) (by rw [Nat.pow_succ] at h; omega)
        rw [e.2] at this
        simp only [valN] at this; omega
      | cons y cs =>
        simp only [List.cons_append, List.cons.injEq] at e
        exact numF_last f (u / 128) cs x (by rw [Nat.pow_succ] at h; omega) (by omega) e.2
    · have : cs = [] := by
        have := congrArg List.length e
        simp at this; exact this
      subst this
      simp only [List.nil_append, List.cons.injEq, and_true] at e
      rw [← e, UInt8.toNat_ofNat']; omega
end Go.Proofs.YtohmbpcjapjkbaaGreatDoorFn
namespace Go.Proofs.YtohmbpcjapjkbaaGreatDoorFn
open Go.Proofs.YtohmbpcjapjkbaaGreatDoorAl Go.Proofs.Tryz
attribute [local irreducible] IntKind.wrap CodeOk OpsL OpG ACalls thn inBlk rndR cutR WkR Wk fnR DW ExtOk partsOf
theorem b79 : HasBody prog 79 := ⟨f79, func79, Option.some_ne_none _, by decide⟩
theorem b80 : HasBody prog 80 := ⟨f80, func80, Option.some_ne_none _, by decide⟩
theorem b45 : HasBody prog 45 := ⟨f45, func45, Option.some_ne_none _, by decide⟩
/-! ### a request's bytes, read -/
structure QV where
  client : Int
  time : Int
  op : OV
def rowR (q : QV) : List SV := rowQ q.client q.time q.op
def okQ (q : QV) : Bool := decide (1 ≤ q.time ∧ q.time ≤ 1000) && reqOk q.client q.op
set_option maxHeartbeats 4000000 in
theorem reqT_ok (q : QV) (ho : q.op.fit) : ACalls prog 52 0 [.st (.agg (rowR q))] [] fun r h => r = (if okQ q then nilE else errE 1) ∧ h = [] := by
  obtain ⟨c, t, o⟩ := q
  have h1 := op_ok o ho
  have e : okQ ⟨c, t, o⟩ = (decide (1 ≤ t ∧ t ≤ 1000) && (decide (0 ≤ c ∧ c < 8) && opOk o)) := rfl
  rw [e]
  generalize opOk o = K at *
  obtain ⟨k, nm, p, ks, n⟩ := o
  simp only [rowR, rowQ, rowO] at h1 ⊢
  refine fnC lay_ok func52 rfl rfl rfl rfl rfl ?_
  cases K
  all_goals
    repeat' first | refine stp lay_ok rfl ?_ | refine fin ?_ | refine n_thn ?_ | refine r_thn ?_ | refine .seq ?_ | refine reg ?_ | refine .skip ?_ | refine .ret ?_ | refine cndT rfl ?_ | refine cndF rfl ?_ | (refine o_yes rfl rfl rfl ?_; refine st_pure (h1) b91 rfl rfl rfl rfl ?_) | refine gd rfl rfl rfl (fun hg => ?_) (fun hg => ?_) | fail
    all_goals
      refine f_r [] rfl trivial rfl ⟨?_, rfl⟩
      by_cases g1 : 0 ≤ c ∧ c < 8 <;> by_cases g2 : 1 ≤ t ∧ t ≤ 1000 <;> simp only [decide_eq_true, decide_eq_false, g1, g2, not_false_eq_true, Bool.and_true, Bool.and_false, Bool.true_and, Bool.false_and, and_true, and_false, true_and, false_and, if_true, if_false, and_self, decide_true, decide_false, Bool.false_eq_true]
      all_goals first
        | rfl
        | (exfalso; omega)
theorem qnum_ok (b : List UInt8) (s : RS) (hb : b.length ≤ 4000000000) (hp : s.at_ ≤ b.length) :
    ACalls prog 79 1 [.ptr 0 0] [(0, rcell b s)] fun r h => r = I (numR b s).1 ∧ h = [(0, rcell b (numR b s).2)] := by
  obtain ⟨p, bad⟩ := s
  have hg := getN_ok b p 65536 hb hp (by decide)
  refine fnC lay_ok func79 rfl rfl rfl rfl rfl ?_
  cases bad with
  | true =>
    have hn : numR b ⟨p, true⟩ = (0, ⟨p, true⟩) := by simp [numR]
    rw [hn]
    cases hc : gnC b p 65536 with
    | error e =>
      rw [hc] at hg; simp only [gnX] at hg
      repeat' first | refine stp lay_ok rfl ?_ | refine fin ?_ | refine n_thn ?_ | refine .seq ?_ | refine reg ?_ | fail
      refine dreg [(0, [], [11, 12, 13, 14]), (1, [0], [11, 12, 13, 14]), (2, [0, 1], [11, 12, 13, 14]), (3, [0, 1, 2], [11, 12, 13, 14]), (4, [], [7, 8, 9, 10]), (5, [4], [7, 8, 9, 10]), (6, [4, 5], [7, 8, 9, 10]), (7, [4, 5, 6], [7, 8, 9, 10]), (8, [0, 1, 2, 3, 4, 5, 6, 7], []), (9, [0, 1, 2, 3, 4, 5, 6, 7, 8], []), (10, [0, 1, 2, 3, 4, 5, 6, 7, 8, 9], [17, 18]), (11, [0, 1, 2, 3, 4, 5, 6, 7, 8, 9], [16, 18, 3]), (12, [0, 1, 2, 3, 4, 5, 6, 7, 8, 9], [16, 17, 3, 4]), (13, [0, 1, 2, 3, 4, 5, 6, 7, 8, 9, 10], [17, 18]), (14, [0, 1, 2, 3, 4, 5, 6, 7, 8, 9, 10, 11, 13], [18]), (15, [0, 1, 2, 3, 4, 5, 6, 7, 8, 9, 10, 11, 12, 13, 14], [])] mixed (by kernel_rfl) ?_
      repeat' first | refine stp lay_ok rfl ?_ | refine fin ?_ | refine n_thn ?_ | refine r_thn ?_ | refine .seq ?_ | refine reg ?_ | refine .ret ?_ | refine cndT rfl ?_ | refine dws lay_ok rfl rfl rfl rfl rfl rfl rfl ?_ | refine dw_end ?_ | refine dwb rfl rfl rfl rfl rfl (by (first | refine st_pure (hg) b109 rfl rfl rfl rfl ?_); exact fin rfl) rfl rfl ?_ | fail
      refine f_r [(0, rcell b ⟨p, true⟩)] rfl (by (repeat' first | exact trivial | refine And.intro ?_ ?_ | rfl); first | done | fail) rfl ⟨?_, rfl⟩
      rfl
    | ok x =>
      obtain ⟨n, q⟩ := x
      have hle := gnC_le hp hc
      rw [hc] at hg; simp only [gnX] at hg
      repeat' first | refine stp lay_ok rfl ?_ | refine fin ?_ | refine n_thn ?_ | refine .seq ?_ | refine reg ?_ | fail
      refine dreg [(0, [], [11, 12, 13, 14]), (1, [0], [11, 12, 13, 14]), (2, [0, 1], [11, 12, 13, 14]), (3, [0, 1, 2], [11, 12, 13, 14]), (4, [], [7, 8, 9, 10]), (5, [4], [7, 8, 9, 10]), (6, [4, 5], [7, 8, 9, 10]), (7, [4, 5, 6], [7, 8, 9, 10]), (8, [0, 1, 2, 3, 4, 5, 6, 7], []), (9, [0, 1, 2, 3, 4, 5, 6, 7, 8], []), (10, [0, 1, 2, 3, 4, 5, 6, 7, 8, 9], [17, 18]), (11, [0, 1, 2, 3, 4, 5, 6, 7, 8, 9], [16, 18, 3]), (12, [0, 1, 2, 3, 4, 5, 6, 7, 8, 9], [16, 17, 3, 4]), (13, [0, 1, 2, 3, 4, 5, 6, 7, 8, 9, 10], [17, 18]), (14, [0, 1, 2, 3, 4, 5, 6, 7, 8, 9, 10, 11, 13], [18]), (15, [0, 1, 2, 3, 4, 5, 6, 7, 8, 9, 10, 11, 12, 13, 14], [])] mixed (by kernel_rfl) ?_
      repeat' first | refine stp lay_ok rfl ?_ | refine fin ?_ | refine n_thn ?_ | refine r_thn ?_ | refine .seq ?_ | refine reg ?_ | refine .ret ?_ | refine cndT rfl ?_ | refine dws lay_ok rfl rfl rfl rfl rfl rfl rfl ?_ | refine dw_end ?_ | refine dwb rfl rfl rfl rfl rfl (by (first | refine st_pure (hg) b109 rfl rfl rfl rfl ?_); exact fin rfl) rfl rfl ?_ | fail
      refine f_r [(0, rcell b ⟨p, true⟩)] rfl (by (repeat' first | exact trivial | refine And.intro ?_ ?_ | rfl); first | done | fail) rfl ⟨?_, rfl⟩
      rfl
  | false =>
    cases hc : gnC b p 65536 with
    | error e =>
      have hn : numR b ⟨p, false⟩ = (0, ⟨p, true⟩) := by simp [numR, hc]
      rw [hc] at hg; simp only [gnX] at hg
      rw [hn]
      repeat' first | refine stp lay_ok rfl ?_ | refine fin ?_ | refine n_thn ?_ | refine .seq ?_ | refine reg ?_ | fail
      refine dreg [(0, [], [11, 12, 13, 14]), (1, [0], [11, 12, 13, 14]), (2, [0, 1], [11, 12, 13, 14]), (3, [0, 1, 2], [11, 12, 13, 14]), (4, [], [7, 8, 9, 10]), (5, [4], [7, 8, 9, 10]), (6, [4, 5], [7, 8, 9, 10]), (7, [4, 5, 6], [7, 8, 9, 10]), (8, [0, 1, 2, 3, 4, 5, 6, 7], []), (9, [0, 1, 2, 3, 4, 5, 6, 7, 8], []), (10, [0, 1, 2, 3, 4, 5, 6, 7, 8, 9], [17, 18]), (11, [0, 1, 2, 3, 4, 5, 6, 7, 8, 9], [16, 18, 3]), (12, [0, 1, 2, 3, 4, 5, 6, 7, 8, 9], [16, 17, 3, 4]), (13, [0, 1, 2, 3, 4, 5, 6, 7, 8, 9, 10], [17, 18]), (14, [0, 1, 2, 3, 4, 5, 6, 7, 8, 9, 10, 11, 13], [18]), (15, [0, 1, 2, 3, 4, 5, 6, 7, 8, 9, 10, 11, 12, 13, 14], [])] mixed (by kernel_rfl) ?_
      repeat' first | refine stp lay_ok rfl ?_ | refine fin ?_ | refine n_thn ?_ | refine r_thn ?_ | refine .seq ?_ | refine reg ?_ | refine .ret ?_ | refine cndT rfl ?_ | refine dws lay_ok rfl rfl rfl rfl rfl rfl rfl ?_ | refine dw_end ?_ | refine dwb rfl rfl rfl rfl rfl (by (first | refine st_pure (hg) b109 rfl rfl rfl rfl ?_); exact fin rfl) rfl rfl ?_ | fail
      refine f_r [(0, rcell b ⟨p, true⟩)] rfl (by (repeat' first | exact trivial | refine And.intro ?_ ?_ | rfl); first | done | fail) rfl ⟨?_, rfl⟩
      rfl
    | ok x =>
      obtain ⟨n, q⟩ := x
      have hle := gnC_le hp hc
      have hn : numR b ⟨p, false⟩ = (n, ⟨q, false⟩) := by simp [numR, hc]
      rw [hc] at hg; simp only [gnX] at hg
      rw [hn]
      repeat' first | refine stp lay_ok rfl ?_ | refine fin ?_ | refine n_thn ?_ | refine .seq ?_ | refine reg ?_ | fail
      refine dreg [(0, [], [11, 12, 13, 14]), (1, [0], [11, 12, 13, 14]), (2, [0, 1], [11, 12, 13, 14]), (3, [0, 1, 2], [11, 12, 13, 14]), (4, [], [7, 8, 9, 10]), (5, [4], [7, 8, 9, 10]), (6, [4, 5], [7, 8, 9, 10]), (7, [4, 5, 6], [7, 8, 9, 10]), (8, [0, 1, 2, 3, 4, 5, 6, 7], []), (9, [0, 1, 2, 3, 4, 5, 6, 7, 8], []), (10, [0, 1, 2, 3, 4, 5, 6, 7, 8, 9], [17, 18]), (11, [0, 1, 2, 3, 4, 5, 6, 7, 8, 9], [16, 18, 3]), (12, [0, 1, 2, 3, 4, 5, 6, 7, 8, 9], [16, 17, 3, 4]), (13, [0, 1, 2, 3, 4, 5, 6, 7, 8, 9, 10], [17, 18]), (14, [0, 1, 2, 3, 4, 5, 6, 7, 8, 9, 10, 11, 13], [18]), (15, [0, 1, 2, 3, 4, 5, 6, 7, 8, 9, 10, 11, 12, 13, 14], [])] mixed (by kernel_rfl) ?_
      repeat' first | refine wr (by omega) ?_ | refine stp lay_ok rfl ?_ | refine fin ?_ | refine n_thn ?_ | refine .seq ?_ | refine reg ?_ | refine .skip ?_ | refine .ret ?_ | refine cndF rfl ?_ | refine dws lay_ok rfl rfl rfl rfl rfl rfl rfl ?_ | refine dw_end ?_ | refine dwb rfl rfl rfl rfl rfl (by (first | refine st_pure (hg) b109 rfl rfl rfl rfl ?_); exact fin rfl) rfl rfl ?_ | fail
      refine f_r [(0, rcell b ⟨q, false⟩)] rfl (by (repeat' first | exact trivial | refine And.intro ?_ ?_ | rfl); first | done | fail) rfl ⟨?_, rfl⟩
      rfl
theorem qtext_ok (b : List UInt8) (s : RS) (hb : b.length ≤ 4000000000) (hp : s.at_ ≤ b.length) :
    ACalls prog 80 1 [.ptr 0 0] [(0, rcell b s)] fun r h => r = Sx (textR b s).1 ∧ h = [(0, rcell b (textR b s).2)] := by
  obtain ⟨p, bad⟩ := s
  have hg := getT_ok b p hb hp
  refine fnC lay_ok func80 rfl rfl rfl rfl rfl ?_
  cases bad with
  | true =>
    have hn : textR b ⟨p, true⟩ = (mt, ⟨p, true⟩) := by simp [textR]
    rw [hn]
    cases hc : txC b p with
    | error e =>
      rw [hc] at hg; simp only [txX] at hg
      repeat' first | refine stp lay_ok rfl ?_ | refine fin ?_ | refine n_thn ?_ | refine .seq ?_ | refine reg ?_ | fail
      refine dreg [(0, [], [11, 12, 13, 14]), (1, [0], [11, 12, 13, 14]), (2, [0, 1], [11, 12, 13, 14]), (3, [0, 1, 2], [11, 12, 13, 14]), (4, [], [7, 8, 9, 10]), (5, [4], [7, 8, 9, 10]), (6, [4, 5], [7, 8, 9, 10]), (7, [4, 5, 6], [7, 8, 9, 10]), (8, [0, 1, 2, 3, 4, 5, 6, 7], []), (9, [0, 1, 2, 3, 4, 5, 6, 7, 8], []), (10, [0, 1, 2, 3, 4, 5, 6, 7, 8, 9], [17, 18]), (11, [0, 1, 2, 3, 4, 5, 6, 7, 8, 9], [16, 18, 3]), (12, [0, 1, 2, 3, 4, 5, 6, 7, 8, 9], [16, 17, 3, 4]), (13, [0, 1, 2, 3, 4, 5, 6, 7, 8, 9, 10], [17, 18]), (14, [0, 1, 2, 3, 4, 5, 6, 7, 8, 9, 10, 11, 13], [18]), (15, [0, 1, 2, 3, 4, 5, 6, 7, 8, 9, 10, 11, 12, 13, 14], [])] mixed (by kernel_rfl) ?_
      repeat' first | refine stp lay_ok rfl ?_ | refine fin ?_ | refine n_thn ?_ | refine r_thn ?_ | refine .seq ?_ | refine reg ?_ | refine .ret ?_ | refine cndT rfl ?_ | refine dws lay_ok rfl rfl rfl rfl rfl rfl rfl ?_ | refine dw_end ?_ | refine dwb rfl rfl rfl rfl rfl (by (first | refine st_pure (hg) b118 rfl rfl rfl rfl ?_); exact fin rfl) rfl rfl ?_ | fail
      refine f_r [(0, rcell b ⟨p, true⟩)] rfl (by (repeat' first | exact trivial | refine And.intro ?_ ?_ | rfl); first | done | fail) rfl ⟨?_, rfl⟩
      rfl
    | ok x =>
      obtain ⟨n, q⟩ := x
      have hle := txC_le hp hc
      rw [hc] at hg; simp only [txX] at hg
      repeat' first | refine stp lay_ok rfl ?_ | refine fin ?_ | refine n_thn ?_ | refine .seq ?_ | refine reg ?_ | fail
      refine dreg [(0, [], [11, 12, 13, 14]), (1, [0], [11, 12, 13, 14]), (2, [0, 1], [11, 12, 13, 14]), (3, [0, 1, 2], [11, 12, 13, 14]), (4, [], [7, 8, 9, 10]), (5, [4], [7, 8, 9, 10]), (6, [4, 5], [7, 8, 9, 10]), (7, [4, 5, 6], [7, 8, 9, 10]), (8, [0, 1, 2, 3, 4, 5, 6, 7], []), (9, [0, 1, 2, 3, 4, 5, 6, 7, 8], []), (10, [0, 1, 2, 3, 4, 5, 6, 7, 8, 9], [17, 18]), (11, [0, 1, 2, 3, 4, 5, 6, 7, 8, 9], [16, 18, 3]), (12, [0, 1, 2, 3, 4, 5, 6, 7, 8, 9], [16, 17, 3, 4]), (13, [0, 1, 2, 3, 4, 5, 6, 7, 8, 9, 10], [17, 18]), (14, [0, 1, 2, 3, 4, 5, 6, 7, 8, 9, 10, 11, 13], [18]), (15, [0, 1, 2, 3, 4, 5, 6, 7, 8, 9, 10, 11, 12, 13, 14], [])] mixed (by kernel_rfl) ?_
      repeat' first | refine stp lay_ok rfl ?_ | refine fin ?_ | refine n_thn ?_ | refine r_thn ?_ | refine .seq ?_ | refine reg ?_ | refine .ret ?_ | refine cndT rfl ?_ | refine dws lay_ok rfl rfl rfl rfl rfl rfl rfl ?_ | refine dw_end ?_ | refine dwb rfl rfl rfl rfl rfl (by (first | refine st_pure (hg) b118 rfl rfl rfl rfl ?_); exact fin rfl) rfl rfl ?_ | fail
      refine f_r [(0, rcell b ⟨p, true⟩)] rfl (by (repeat' first | exact trivial | refine And.intro ?_ ?_ | rfl); first | done | fail) rfl ⟨?_, rfl⟩
      rfl
  | false =>
    cases hc : txC b p with
    | error e =>
      have hn : textR b ⟨p, false⟩ = (mt, ⟨p, true⟩) := by simp [textR, hc]
      rw [hc] at hg; simp only [txX] at hg
      rw [hn]
      repeat' first | refine stp lay_ok rfl ?_ | refine fin ?_ | refine n_thn ?_ | refine .seq ?_ | refine reg ?_ | fail
      refine dreg [(0, [], [11, 12, 13, 14]), (1, [0], [11, 12, 13, 14]), (2, [0, 1], [11, 12, 13, 14]), (3, [0, 1, 2], [11, 12, 13, 14]), (4, [], [7, 8, 9, 10]), (5, [4], [7, 8, 9, 10]), (6, [4, 5], [7, 8, 9, 10]), (7, [4, 5, 6], [7, 8, 9, 10]), (8, [0, 1, 2, 3, 4, 5, 6, 7], []), (9, [0, 1, 2, 3, 4, 5, 6, 7, 8], []), (10, [0, 1, 2, 3, 4, 5, 6, 7, 8, 9], [17, 18]), (11, [0, 1, 2, 3, 4, 5, 6, 7, 8, 9], [16, 18, 3]), (12, [0, 1, 2, 3, 4, 5, 6, 7, 8, 9], [16, 17, 3, 4]), (13, [0, 1, 2, 3, 4, 5, 6, 7, 8, 9, 10], [17, 18]), (14, [0, 1, 2, 3, 4, 5, 6, 7, 8, 9, 10, 11, 13], [18]), (15, [0, 1, 2, 3, 4, 5, 6, 7, 8, 9, 10, 11, 12, 13, 14], [])] mixed (by kernel_rfl) ?_
      repeat' first | refine stp lay_ok rfl ?_ | refine fin ?_ | refine n_thn ?_ | refine r_thn ?_ | refine .seq ?_ | refine reg ?_ | refine .ret ?_ | refine cndT rfl ?_ | refine dws lay_ok rfl rfl rfl rfl rfl rfl rfl ?_ | refine dw_end ?_ | refine dwb rfl rfl rfl rfl rfl (by (first | refine st_pure (hg) b118 rfl rfl rfl rfl ?_); exact fin rfl) rfl rfl ?_ | fail
      refine f_r [(0, rcell b ⟨p, true⟩)] rfl (by (repeat' first | exact trivial | refine And.intro ?_ ?_ | rfl); first | done | fail) rfl ⟨?_, rfl⟩
      rfl
    | ok x =>
      obtain ⟨n, q⟩ := x
      have hle := txC_le hp hc
      have hn : textR b ⟨p, false⟩ = (n, ⟨q, false⟩) := by simp [textR, hc]
      rw [hc] at hg; simp only [txX] at hg
      rw [hn]
      repeat' first | refine stp lay_ok rfl ?_ | refine fin ?_ | refine n_thn ?_ | refine .seq ?_ | refine reg ?_ | fail
      refine dreg [(0, [], [11, 12, 13, 14]), (1, [0], [11, 12, 13, 14]), (2, [0, 1], [11, 12, 13, 14]), (3, [0, 1, 2], [11, 12, 13, 14]), (4, [], [7, 8, 9, 10]), (5, [4], [7, 8, 9, 10]), (6, [4, 5], [7, 8, 9, 10]), (7, [4, 5, 6], [7, 8, 9, 10]), (8, [0, 1, 2, 3, 4, 5, 6, 7], []), (9, [0, 1, 2, 3, 4, 5, 6, 7, 8], []), (10, [0, 1, 2, 3, 4, 5, 6, 7, 8, 9], [17, 18]), (11, [0, 1, 2, 3, 4, 5, 6, 7, 8, 9], [16, 18, 3]), (12, [0, 1, 2, 3, 4, 5, 6, 7, 8, 9], [16, 17, 3, 4]), (13, [0, 1, 2, 3, 4, 5, 6, 7, 8, 9, 10], [17, 18]), (14, [0, 1, 2, 3, 4, 5, 6, 7, 8, 9, 10, 11, 13], [18]), (15, [0, 1, 2, 3, 4, 5, 6, 7, 8, 9, 10, 11, 12, 13, 14], [])] mixed (by kernel_rfl) ?_
      repeat' first | refine stp lay_ok rfl ?_ | refine fin ?_ | refine n_thn ?_ | refine .seq ?_ | refine reg ?_ | refine .skip ?_ | refine .ret ?_ | refine cndF rfl ?_ | refine dws lay_ok rfl rfl rfl rfl rfl rfl rfl ?_ | refine dw_end ?_ | refine dwb rfl rfl rfl rfl rfl (by (first | refine st_pure (hg) b118 rfl rfl rfl rfl ?_); exact fin rfl) rfl rfl ?_ | fail
      refine f_r [(0, rcell b ⟨q, false⟩)] rfl (by (repeat' first | exact trivial | refine And.intro ?_ ?_ | rfl); first | done | fail) rfl ⟨?_, rfl⟩
      rfl
/-- A request that is read, and where the reader stands. -/
def reqRd (b : List UInt8) : QV × RS :=
  let r1 := numR b ⟨0, false⟩
  let r2 := numR b r1.2
  let r3 := numR b r2.2
  let r4 := numR b r3.2
  let r5 := textR b r4.2
  let r6 := textR b r5.2
  let r7 := numR b r6.2
  let r8 := textsR b r7.1 r7.2 []
  (⟨r1.1, r2.1, ⟨r3.1, r5.1, r6.1, r8.1, r4.1⟩⟩, r8.2)
def finQ (b : List UInt8) (r : QV × RS) : Option QV := if r.2.bad || decide (r.2.at_ < b.length) then none else if okQ r.1 then some r.1 else none
/-- The request of bytes. -/
def getQ (b : List UInt8) : Option QV := finQ b (reqRd b)
def zeroQ : List SV := [.int .i64 0, .int .i64 0, .int .i64 0, .str mt, .str mt, .nilsl, .int .i64 0]
def getQX : Option QV → AV
  | none => .tuple [.st (.agg zeroQ), errE 2]
  | some q => .tuple [.st (.agg (rowR q)), nilE]
theorem getQ_ok {b : List UInt8} {q : QV} (h : getQ b = some q) : okQ q = true := by
  unfold getQ finQ at h
  split at h
  · cases h
  split at h
  · rename_i hf
    cases h
    exact hf
  · cases h
end Go.Proofs.YtohmbpcjapjkbaaGreatDoorFn
namespace Go.Proofs.YtohmbpcjapjkbaaGreatDoorFn
open Go.Proofs.YtohmbpcjapjkbaaGreatDoorAl Go.Proofs.Tryz
attribute [local irreducible] IntKind.wrap CodeOk OpsL OpG ACalls thn inBlk rndR cutR WkR Wk fnR DW ExtOk partsOf
/-! ### a request is read -/
abbrev zeroC : AO := .cells [.st (.int .i64 0), .st (.int .i64 0), .st (.int .i64 0), .st (.str mt), .st (.str mt), .st .nilsl, .st (.int .i64 0)]
def getQC : Option QV → AO
  | none => zeroC
  | some q => .cells [.st (.int .i64 q.client), .st (.int .i64 q.time), .st (.int .i64 q.op.kind), .st (.str q.op.name), .st (.str q.op.path), .st (.sl 1 (q.op.keys.map rowS)), .st (.int .i64 q.op.n)]
theorem okQ_fit (q : QV) (h1 : q.op.name.size ≤ 4096) (h2 : q.op.path.size ≤ 4096) (h3 : q.op.keys.length ≤ 65536) : q.op.fit := ⟨by omega, by omega, by omega⟩
set_option maxHeartbeats 4000000 in
theorem orderGet_ok (b : List UInt8) (hb : b.length ≤ 4000000000) : ACalls prog 45 0 [Bs b] [] fun r h => r = getQX (getQ b) ∧ h = [] := by
  have hgp : getQ b = finQ b (reqRd b) := rfl
  simp only [reqRd] at hgp
  generalize getQ b = G at *
  have hlb : (List.map rowB b).length = b.length := List.length_map _
  have n1 := qnum_ok b ⟨0, false⟩ hb (Nat.zero_le _)
  have l1 := numR_le (b := b) (s := ⟨0, false⟩) (Nat.zero_le _)
  generalize numR b ⟨0, false⟩ = r1 at *
  obtain ⟨x1, s1⟩ := r1
  simp only at *
  have n2 := qnum_ok b s1 hb l1.1
  have l2 := numR_le (b := b) l1.1
  generalize numR b s1 = r2 at *
  obtain ⟨x2, s2⟩ := r2
  simp only at *
  have n3 := qnum_ok b s2 hb l2.1
  have l3 := numR_le (b := b) l2.1
  generalize numR b s2 = r3 at *
  obtain ⟨x3, s3⟩ := r3
  simp only at *
  have n4 := qnum_ok b s3 hb l3.1
  have l4 := numR_le (b := b) l3.1
  generalize numR b s3 = r4 at *
  obtain ⟨x4, s4⟩ := r4
  simp only at *
  have n5 := qtext_ok b s4 hb l4.1
  have l5 := textR_le (b := b) l4.1
  generalize textR b s4 = r5 at *
  obtain ⟨x5, s5⟩ := r5
  simp only at *
  have n6 := qtext_ok b s5 hb l5.1
  have l6 := textR_le (b := b) l5.1
  generalize textR b s5 = r6 at *
  obtain ⟨x6, s6⟩ := r6
  simp only at *
  have n7 := qnum_ok b s6 hb l6.1
  have l7 := numR_le (b := b) l6.1
  generalize numR b s6 = r7 at *
  obtain ⟨x7, s7⟩ := r7
  simp only at *
  refine ACalls.drop1 (h1 := [(0, getQC G)]) trivial ?_
  refine fnC lay_ok func45 rfl rfl rfl rfl rfl ?_
  repeat' first | refine stp lay_ok rfl ?_ | refine fin ?_ | refine n_thn ?_ | refine .seq ?_ | refine reg ?_ | refine .block ?_ | (refine o_none rfl ?_; (first | refine st_callF 0 (n1) b79 rfl rfl rfl rfl rfl rfl (by (repeat' first | exact trivial | refine And.intro ?_ ?_ | rfl); first | done | fail) rfl ?_ | refine st_callF 0 (n2) b79 rfl rfl rfl rfl rfl rfl (by (repeat' first | exact trivial | refine And.intro ?_ ?_ | rfl); first | done | fail) rfl ?_ | refine st_callF 0 (n3) b79 rfl rfl rfl rfl rfl rfl (by (repeat' first | exact trivial | refine And.intro ?_ ?_ | rfl); first | done | fail) rfl ?_ | refine st_callF 0 (n4) b79 rfl rfl rfl rfl rfl rfl (by (repeat' first | exact trivial | refine And.intro ?_ ?_ | rfl); first | done | fail) rfl ?_ | refine st_callF 0 (n5) b80 rfl rfl rfl rfl rfl rfl (by (repeat' first | exact trivial | refine And.intro ?_ ?_ | rfl); first | done | fail) rfl ?_ | refine st_callF 0 (n6) b80 rfl rfl rfl rfl rfl rfl (by (repeat' first | exact trivial | refine And.intro ?_ ?_ | rfl); first | done | fail) rfl ?_ | refine st_callF 0 (n7) b79 rfl rfl rfl rfl rfl rfl (by (repeat' first | exact trivial | refine And.intro ?_ ?_ | rfl); first | done | fail) rfl ?_)) | fail
  refine CodeOk.wk (Wk.nilC 1 2 5 rfl rfl rfl rfl rfl) (Nat.le_succ _) ?_
  refine nrm rfl rfl ?_
  clear n1 n2 n3 n4 n5 n6 n7
  refine lpR (fun (s, ks, f) => s.at_ ≤ b.length ∧ ks.length + f ≤ 65536 ∧ textsR b x7 s7 [] = textsR b f s ks) (fun (s, ks, f) => f) (fun (s, ks, f) => [(6, I f)]) (fun (s, ks, f) => [(0, zeroC), (1, rcell b s), (2, .cells [.st (.int .i64 (x1 : Int)), .st (.int .i64 (x2 : Int)), .st (.int .i64 (x3 : Int)), .st (.str x5), .st (.str x6), .lsl 4 1 0 (ks.map rowS).length, .st (.int .i64 (x4 : Int))]), (4, .arr 1 (ks.map rowS))]) ((s7, [], x7)) [0, 2, 4, 5] [0, 1, 2] [3] rfl rfl rfl (.of [3] (by (repeat' first | exact trivial | refine And.intro ?_ ?_ | rfl); first | done | fail) (by (repeat' first | exact trivial | refine And.intro ?_ ?_ | rfl); first | done | fail) rfl) ?_ ?_
  · exact ⟨l7.1, by simp; omega, rfl⟩
  rintro ⟨⟨q, bad⟩, ks, f⟩ ⟨g1, g2, g3⟩
  refine nrm rfl rfl ?_
  rw [g3] at hgp
  have hm : (List.map rowS ks).length = ks.length := List.length_map _
  by_cases hex : f = 0 ∨ bad = true
  · have hsn : textsR b f ⟨q, bad⟩ ks = (ks, ⟨q, bad⟩) := by
      rcases hex with rfl | rfl
      · rfl
      · cases f with
        | zero => rfl
        | succ f => rw [textsR, if_pos rfl]
    rw [hsn] at hgp
    simp only [finQ] at hgp
    cases bad with
    | true =>
      simp only [Bool.true_or, if_true] at hgp
      subst hgp
      repeat' first | refine stp lay_ok rfl ?_ | refine fin ?_ | refine n_thn ?_ | refine e_thn ?_ | refine e_hit ?_ | refine r_thn ?_ | refine e_rr ?_ | refine .seq ?_ | refine reg ?_ | refine .ret ?_ | refine .exit ?_ | refine cndT rfl ?_ | refine cndF rfl ?_ | refine gd rfl rfl rfl (fun hg => ?_) (fun hg => ?_) | fail
      all_goals first
        | (exfalso; omega)
        | (refine f_end (n0 := 1) (t'' := [(2, .ptr 0 0), (3, errE 2)]) (h'' := [(0, zeroC)]) (WkR.of [0] (by (repeat' first | exact trivial | refine And.intro ?_ ?_ | rfl); first | done | fail) (by (repeat' first | exact trivial | refine And.intro ?_ ?_ | rfl); first | done | fail) rfl) rfl rfl ⟨?_, rfl⟩; rfl)
    | false =>
      have hf0 : f = 0 := by simpa using hex
      subst hf0
      simp only [Bool.false_or, decide_eq_true_eq] at hgp
      by_cases hq : q < b.length
      · rw [if_pos hq] at hgp
        subst hgp
        repeat' first | refine ln ?_ | refine stp lay_ok rfl ?_ | refine fin ?_ | refine n_thn ?_ | refine e_thn ?_ | refine e_hit ?_ | refine r_thn ?_ | refine e_rr ?_ | refine .seq ?_ | refine reg ?_ | refine .ret ?_ | refine .exit ?_ | refine cndT rfl ?_ | refine cndF rfl ?_ | refine gd rfl rfl rfl (fun hg => ?_) (fun hg => ?_) | fail
        all_goals first
          | (exfalso; omega)
          | (exfalso; simp only at *; omega)
          | (refine f_end (n0 := 1) (t'' := [(2, .ptr 0 0), (3, errE 2)]) (h'' := [(0, zeroC)]) (WkR.of [0] (by (repeat' first | exact trivial | refine And.intro ?_ ?_ | rfl); first | done | fail) (by (repeat' first | exact trivial | refine And.intro ?_ ?_ | rfl); first | done | fail) rfl) rfl rfl ⟨?_, rfl⟩; rfl)
      · rw [if_neg hq] at hgp
        have hck := reqT_ok ⟨x1, x2, x3, x5, x6, ks, x4⟩ (okQ_fit _ l5.2 l6.2 (by simp only [Nat.add_zero] at g2; exact g2))
        refine CodeOk.wk (Wk.frz 4 [ 0, 2, 3, 4, 5, 6] rfl rfl rfl (by (repeat' first | exact trivial | refine And.intro ?_ ?_ | rfl); first | done | fail) (by (repeat' first | exact trivial | refine And.intro ?_ ?_ | rfl); first | done | fail) rfl rfl) (Nat.le_refl _) ?_; refine nrm rfl rfl ?_
        cases hok : okQ ⟨x1, x2, x3, x5, x6, ks, x4⟩ <;> rw [hok] at hck hgp
        · simp only [Bool.false_eq_true, if_false] at hgp hck
          subst hgp
          repeat' first | refine ln ?_ | refine stp lay_ok rfl ?_ | refine fin ?_ | refine n_thn ?_ | refine e_thn ?_ | refine e_hit ?_ | refine r_thn ?_ | refine e_rr ?_ | refine .seq ?_ | refine reg ?_ | refine .ret ?_ | refine .exit ?_ | refine cndT rfl ?_ | refine cndF rfl ?_ | (refine o_yes rfl rfl rfl ?_; refine st_pure (hck) b52 rfl rfl rfl rfl ?_) | refine gd rfl rfl rfl (fun hg => ?_) (fun hg => ?_) | fail
          all_goals first
            | (exfalso; omega)
            | (exfalso; simp only at *; omega)
            | (refine f_end (n0 := 1) (t'' := [(2, .ptr 0 0), (3, errE 2)]) (h'' := [(0, zeroC)]) (WkR.of [0] (by (repeat' first | exact trivial | refine And.intro ?_ ?_ | rfl); first | done | fail) (by (repeat' first | exact trivial | refine And.intro ?_ ?_ | rfl); first | done | fail) rfl) rfl rfl ⟨?_, rfl⟩; rfl)
        · simp only [if_true] at hgp hck
          subst hgp
          repeat' first | refine ln ?_ | refine stp lay_ok rfl ?_ | refine fin ?_ | refine n_thn ?_ | refine e_thn ?_ | refine e_hit ?_ | refine r_thn ?_ | refine e_rr ?_ | refine .seq ?_ | refine reg ?_ | refine .skip ?_ | refine .ret ?_ | refine .exit ?_ | refine cndT rfl ?_ | refine cndF rfl ?_ | (refine o_yes rfl rfl rfl ?_; refine st_pure (hck) b52 rfl rfl rfl rfl ?_) | refine gd rfl rfl rfl (fun hg => ?_) (fun hg => ?_) | fail
          all_goals first
            | (exfalso; omega)
            | (exfalso; simp only at *; omega)
            | (refine f_end (n0 := 1) (t'' := [(2, .ptr 0 0), (3, nilE)]) (h'' := [(0, getQC (some ⟨x1, x2, x3, x5, x6, ks, x4⟩))]) (WkR.of [0] (by (repeat' first | exact trivial | refine And.intro ?_ ?_ | rfl); first | done | fail) (by (repeat' first | exact trivial | refine And.intro ?_ ?_ | rfl); first | done | fail) rfl) rfl rfl ⟨?_, rfl⟩; rfl)
  · have hbf : bad = false := by cases bad <;> simp_all
    subst hbf
    obtain ⟨f', rfl⟩ : ∃ f', f = f' + 1 := ⟨f - 1, by have : f ≠ 0 := fun h => hex (.inl h); omega⟩
    clear hex
    rw [textsR, if_neg (by simp)] at hgp g3
    have hT := qtext_ok b ⟨q, false⟩ hb g1
    have hle := textR_le (s := ⟨q, false⟩) g1
    generalize textR b ⟨q, false⟩ = r1 at *
    obtain ⟨x, s1⟩ := r1
    simp only at *
    have hr : List.map rowS ks ++ [[SV.str x]] = List.map rowS (ks ++ [x]) := by rw [List.map_append]; rfl
    repeat' first | refine ln ?_ | refine stp lay_ok rfl ?_ | refine fin ?_ | refine n_thn ?_ | refine e_thn ?_ | refine e_hit ?_ | refine r_thn ?_ | refine e_rr ?_ | refine .seq ?_ | refine reg ?_ | refine .block ?_ | refine .skip ?_ | refine .ret ?_ | refine .exit ?_ | refine cndT rfl ?_ | refine cndF rfl ?_ | refine gd rfl rfl rfl (fun hg => ?_) (fun hg => ?_) | fail
    all_goals first
      | (exfalso; omega)
      | skip
    refine dreg [(0, [], [47, 48, 49]), (1, [0], [47, 48, 49]), (2, [0, 1], [47, 48, 49]), (3, [], [44, 45, 46]), (4, [3], [44, 45, 46]), (5, [3, 4], [44, 45, 46]), (6, [0, 1, 2, 3, 4, 5], []), (7, [0, 1, 2, 3, 4, 5, 6], []), (8, [0, 1, 2, 3, 4, 5, 6, 7], []), (9, [0, 1, 2, 3, 4, 5, 6, 7, 8], [])] mixed (by kernel_rfl) ?_
    repeat' first | refine wr (by omega) ?_ | refine stp lay_ok rfl ?_ | refine fin ?_ | refine n_thn ?_ | refine n_blk ?_ | refine reg ?_ | refine dws lay_ok rfl rfl rfl rfl rfl rfl rfl ?_ | refine dwu lay_ok rfl rfl rfl rfl rfl rfl rfl rfl rfl ?_ | refine dw_end ?_ | refine dwg rfl rfl rfl rfl rfl (by (first | refine st_callF 0 (hT) b80 rfl rfl rfl rfl rfl rfl (by (repeat' first | exact trivial | refine And.intro ?_ ?_ | rfl); first | done | fail) rfl ?_ | refine st_append lay_ok rfl rfl rfl rfl rfl rfl rfl rfl (.lsl rfl rfl) .sl rfl (rowS_one (b := [x])) (by simp only [List.length_cons, List.length_nil]; omega) (by simp only [List.length_cons, List.length_nil]; omega) ?_); exact fin rfl) rfl rfl rfl rfl rfl ?_ | fail
    rw [hr]
    refine n_rr ((s1, ks ++ [x], f')) ?_ (.of [5] (by (repeat' first | exact trivial | refine And.intro ?_ ?_ | rfl | exact congrArg (fun z : Int => some (AV.st (.int .i64 z))) (show ((f' + 1 : Nat) : Int) - 1 = (f' : Int) by omega)); first | done | fail) (by (repeat' first | exact trivial | refine And.intro ?_ ?_ | rfl | exact congrArg (fun z : Int => some (AV.st (.int .i64 z))) (show ((f' + 1 : Nat) : Int) - 1 = (f' : Int) by omega)); first | done | fail) rfl) ?_
    · exact Nat.lt_succ_self _
    · exact ⟨hle.1, by show (ks ++ [x]).length + f' ≤ 65536; rw [List.length_append, List.length_singleton]; omega, g3⟩
end Go.Proofs.YtohmbpcjapjkbaaGreatDoorFn
namespace Go.Proofs.YtohmbpcjapjkbaaGreatDoorFn
open Go.Proofs.YtohmbpcjapjkbaaGreatDoorAl Go.Proofs.Tryz
theorem lead_split : ∀ (f : Nat) (l : List UInt8), (∀ y ∈ l.take (leadF f l), 128 ≤ y.toNat) ∧ leadF f l ≤ f ∧ leadF f l ≤ l.length ∧ ∀ (h : leadF f l < l.length), leadF f l < f → (l[leadF f l]).toNat < 128
  | 0, l => ⟨by simp [leadF], Nat.le_refl _, Nat.zero_le _, fun _ h => absurd h (by simp [leadF])⟩
  | f + 1, [] => ⟨by simp [leadF], Nat.zero_le _, Nat.le_refl _, fun h => absurd h (by simp [leadF])⟩
  | f + 1, x :: r => by
    obtain ⟨a, b, c, d⟩ := lead_split f r
    by_cases hx : 127 < x.toNat
    · have e : leadF (f + 1) (x :: r) = leadF f r + 1 := by rw [leadF, if_pos hx]
      refine ⟨?_, by omega, by simp only [List.length_cons]; omega, ?_⟩
      · rw [e, List.take_succ_cons]
        intro y hy
        rcases List.mem_cons.1 hy with rfl | hy
        · omega
        · exact a y hy
      · intro h h2
        simp only [e, List.getElem_cons_succ]
        exact d (by simp only [e, List.length_cons] at h; omega) (by omega)
    · have e : leadF (f + 1) (x :: r) = 0 := by rw [leadF, if_neg hx]
      refine ⟨by simp [e], by omega, by omega, ?_⟩
      intro h h2
      simp only [e, List.getElem_cons_zero]; omega
theorem gnF_long : ∀ (l : List UInt8) (i acc : Nat), (∀ y ∈ l.take (10 - i), 128 ≤ y.toNat) → 10 - i ≤ l.length → gnF l i acc = none
  | [], _, _, _, _ => rfl
  | x :: r, i, acc, h, hl => by
    rw [gnF]
    split
    · rfl
    · rename_i hb
      have e : 10 - i = (10 - (i + 1)) + 1 := by omega
      rw [e, List.take_succ_cons] at h
      rw [if_pos (h x (by simp))]
      exact gnF_long r (i + 1) _ (fun y hy => h y (List.mem_cons_of_mem _ hy)) (by simp only [List.length_cons] at hl; omega)
theorem valN_lt : ∀ w, valN w < 128 ^ w.length
  | [] => by simp [valN]
  | x :: r => by
    have := valN_lt r
    rw [valN, List.length_cons, Nat.pow_succ]; omega
theorem valN_app : ∀ (cs : List UInt8) (x : UInt8), x.toNat < 128 → valN (cs ++ [x]) = valN cs + x.toNat * 128 ^ cs.length
  | [], x, h => by simp only [List.nil_append, valN, List.length_nil, Nat.pow_zero]; omega
  | y :: cs, x, h => by
    rw [List.cons_append, valN, valN_app cs x h, valN, List.length_cons, Nat.pow_succ, ← Nat.mul_assoc]
    rw [Nat.add_mul]; omega
theorem refG_eq (l : List UInt8) : refG l = match gnF l 0 0 with
    | some x => x
    | none => (0, 0) := by
  obtain ⟨a, b, c, d⟩ := lead_split 10 l
  by_cases h1 : l.length ≤ leadF 10 l ∨ 10 ≤ leadF 10 l
  · have : gnF l 0 0 = none := by
      rcases h1 with h1 | h1
      · rw [List.take_of_length_le h1] at a
        exact gnF_none l 0 0 a
      · have e : leadF 10 l = 10 := by omega
        rw [e] at a c
        exact gnF_long l 0 0 a c
    rw [this, refG, if_pos h1]
  · rw [refG, if_neg h1]
    have h2 : leadF 10 l < l.length := by omega
    have d := d h2 (by omega)
    have hl : l = l.take (leadF 10 l) ++ l[leadF 10 l] :: l.drop (leadF 10 l + 1) := by
      rw [← List.drop_eq_getElem_cons h2, List.take_append_drop]
    have ht : l.take (leadF 10 l + 1) = l.take (leadF 10 l) ++ [l[leadF 10 l]] := List.take_succ_eq_append_getElem h2
    have hcl : (l.take (leadF 10 l)).length = leadF 10 l := by rw [List.length_take]; omega
    have hg : gnF l 0 0 = gnF (l.take (leadF 10 l) ++ l[leadF 10 l] :: l.drop (leadF 10 l + 1)) 0 0 := congrArg (fun z => gnF z 0 0) hl
    rw [hg, gnF_split _ _ _ _ _ a d, ht]
    have hc10 : leadF 10 l < 10 := by omega
    clear hg hl ht b c h1
    generalize hx : l[leadF 10 l] = x at *
    generalize hcs : l.take (leadF 10 l) = cs at *
    rw [← hcl] at hc10 ⊢
    simp only [Nat.zero_add, Nat.mul_zero, Nat.pow_zero, Nat.mul_one]
    have hva := valN_app cs x d
    have hvl := valN_lt cs
    by_cases hbad : 10 ≤ cs.length ∨ x.toNat = 0 ∧ 0 < cs.length ∨ 1 < x.toNat ∧ cs.length = 9
    · rw [if_pos hbad, if_neg]
      intro e
      have hu : valF (cs ++ [x]) < 2 ^ 64 := valF_lt _
      have hb := numF_back 10 (valF (cs ++ [x])) (Nat.lt_of_lt_of_le hu (by decide))
      have e' : numF 10 (valF (cs ++ [x])) = cs ++ [x] := e
      rw [e'] at hb
      rcases hbad with h | ⟨h, h0⟩ | ⟨h, h9⟩
      · omega
      · by_cases hz : valF (cs ++ [x]) = 0
        · rw [hz] at e'
          have := congrArg List.length e'
          rw [show numF 10 0 = [0] by decide] at this
          simp only [List.length_append, List.length_singleton] at this
          omega
        · exact numF_last 10 _ cs x (Nat.lt_of_lt_of_le hu (by decide)) (by omega) e' h
      · rw [h9] at hva
        have : 2 * 128 ^ 9 ≤ x.toNat * 128 ^ 9 := Nat.mul_le_mul_right _ h
        omega
    · rw [if_neg hbad]
      have hV : valN (cs ++ [x]) < 2 ^ 64 := by
        rcases Nat.lt_or_ge cs.length 9 with h9 | h9
        · have := valN_lt (cs ++ [x])
          have h8 : (cs ++ [x]).length ≤ 9 := by simp; omega
          have := Nat.pow_le_pow_right (n := 128) (by decide) h8
          omega
        · have h9 : cs.length = 9 := by omega
          rw [h9] at hva hvl
          have : x.toNat * 128 ^ 9 ≤ 1 * 128 ^ 9 := Nat.mul_le_mul_right _ (by omega)
          omega
      have hF : valF (cs ++ [x]) = valN (cs ++ [x]) := by rw [valF_eq, Nat.mod_eq_of_lt hV]
      have hn : numL (valN (cs ++ [x])) = cs ++ [x] := numF_val cs x 10 a d (by
        rcases Nat.eq_zero_or_pos cs.length with h | h
        · exact .inl (List.length_eq_zero_iff.1 h)
        · exact .inr (by omega)) hc10
      rw [hF, if_pos hn]
end Go.Proofs.YtohmbpcjapjkbaaGreatDoorFn
namespace Go.Proofs.YtohmbpcjapjkbaaGreatDoorFn
open Go.Proofs.YtohmbpcjapjkbaaGreatDoorAl Go.Proofs.Tryz
attribute [local irreducible] IntKind.wrap CodeOk OpsL OpG ACalls thn inBlk rndR cutR WkR Wk fnR DW ExtOk partsOf
theorem b67 : HasBody prog 67 := ⟨f67, func67, Option.some_ne_none _, by decide⟩
theorem b68 : HasBody prog 68 := ⟨f68, func68, Option.some_ne_none _, by decide⟩
def numM (b : List UInt8) (s : RS) (most : Nat) : Nat × RS := if s.bad then (0, s) else match gnC b s.at_ most with
  | .error _ => (0, ⟨s.at_, true⟩)
  | .ok (n, q) => (n, ⟨q, false⟩)
theorem numM_numR (b : List UInt8) (s : RS) : numM b s 65536 = numR b s := rfl
theorem refRNum_ok (b : List UInt8) (s : RS) (most : Nat) (hb : b.length ≤ 4000000000) (hp : s.at_ ≤ b.length) (hm : most ≤ 65536) :
    ACalls prog 67 1 [.ptr 0 0, U most] [(0, rcell b s)] fun r h => r = I (numM b s most).1 ∧ h = [(0, rcell b (numM b s most).2)] := by
  obtain ⟨p, bad⟩ := s
  have hg := refGet_ok b p hb hp
  rw [refG_eq] at hg
  refine fnC lay_ok func67 rfl rfl rfl rfl rfl ?_
  cases bad with
  | true =>
    repeat' first | refine stp lay_ok rfl ?_ | refine fin ?_ | refine n_thn ?_ | refine r_thn ?_ | refine .seq ?_ | refine reg ?_ | refine .ret ?_ | refine cndT rfl ?_ | fail
    refine f_r [(0, rcell b ⟨p, true⟩)] rfl (by (repeat' first | exact trivial | refine And.intro ?_ ?_ | rfl); first | done | fail) rfl ⟨?_, rfl⟩
    rfl
  | false =>
    cases hc : gnF (b.drop p) 0 0 with
    | none =>
      have hn : numM b ⟨p, false⟩ most = (0, ⟨p, true⟩) := by simp [numM, gnC, hc]
      rw [hc] at hg; simp only at hg
      rw [hn]
      repeat' first | refine stp lay_ok rfl ?_ | refine fin ?_ | refine n_thn ?_ | refine .seq ?_ | refine reg ?_ | refine .skip ?_ | refine cndF rfl ?_ | fail
      refine dreg [(0, [], [16, 17, 18, 19]), (1, [0], [16, 17, 18, 19]), (2, [0, 1], [16, 17, 18, 19]), (3, [0, 1, 2], [16, 17, 18, 19]), (4, [], [12, 13, 14, 15]), (5, [4], [12, 13, 14, 15]), (6, [4, 5], [12, 13, 14, 15]), (7, [4, 5, 6], [12, 13, 14, 15]), (8, [0, 1, 2, 3, 4, 5, 6, 7], []), (9, [0, 1, 2, 3, 4, 5, 6, 7, 8], []), (10, [0, 1, 2, 3, 4, 5, 6, 7, 8, 9], [22]), (11, [0, 1, 2, 3, 4, 5, 6, 7, 8, 9], [21, 5]), (12, [0, 1, 2, 3, 4, 5, 6, 7, 8, 9, 10], [22]), (13, [0, 1, 2, 3, 4, 5, 6, 7, 8, 9, 10, 11, 12], [])] mixed (by kernel_rfl) ?_
      repeat' first | refine stp lay_ok rfl ?_ | refine fin ?_ | refine n_thn ?_ | refine r_thn ?_ | refine .seq ?_ | refine reg ?_ | refine .ret ?_ | refine cndT rfl ?_ | refine dws lay_ok rfl rfl rfl rfl rfl rfl rfl ?_ | refine dw_end ?_ | refine dwb rfl rfl rfl rfl rfl (by (first | refine st_pure (hg) b112 rfl rfl rfl rfl ?_); exact fin rfl) rfl rfl ?_ | fail
      refine f_r [(0, rcell b ⟨p, true⟩)] rfl (by (repeat' first | exact trivial | refine And.intro ?_ ?_ | rfl); first | done | fail) rfl ⟨?_, rfl⟩
      rfl
    | some x =>
      obtain ⟨n, k⟩ := x
      have hle := gnF_le _ _ _ hc
      rw [List.length_drop] at hle
      rw [hc] at hg; simp only at hg
      by_cases hx : most < n
      · have hn : numM b ⟨p, false⟩ most = (0, ⟨p, true⟩) := by simp [numM, gnC, hc, hx]
        rw [hn]
        repeat' first | refine stp lay_ok rfl ?_ | refine fin ?_ | refine n_thn ?_ | refine .seq ?_ | refine reg ?_ | refine .skip ?_ | refine cndF rfl ?_ | fail
        refine dreg [(0, [], [16, 17, 18, 19]), (1, [0], [16, 17, 18, 19]), (2, [0, 1], [16, 17, 18, 19]), (3, [0, 1, 2], [16, 17, 18, 19]), (4, [], [12, 13, 14, 15]), (5, [4], [12, 13, 14, 15]), (6, [4, 5], [12, 13, 14, 15]), (7, [4, 5, 6], [12, 13, 14, 15]), (8, [0, 1, 2, 3, 4, 5, 6, 7], []), (9, [0, 1, 2, 3, 4, 5, 6, 7, 8], []), (10, [0, 1, 2, 3, 4, 5, 6, 7, 8, 9], [22]), (11, [0, 1, 2, 3, 4, 5, 6, 7, 8, 9], [21, 5]), (12, [0, 1, 2, 3, 4, 5, 6, 7, 8, 9, 10], [22]), (13, [0, 1, 2, 3, 4, 5, 6, 7, 8, 9, 10, 11, 12], [])] mixed (by kernel_rfl) ?_
        repeat' first | refine wr (by omega) ?_ | refine stp lay_ok rfl ?_ | refine fin ?_ | refine n_thn ?_ | refine r_thn ?_ | refine .seq ?_ | refine reg ?_ | refine .skip ?_ | refine .ret ?_ | refine cndT rfl ?_ | refine c_dec rfl (fun hc => ?_) (fun hc => ?_) | refine gd rfl rfl rfl (fun hg => ?_) (fun hg => ?_) | refine dws lay_ok rfl rfl rfl rfl rfl rfl rfl ?_ | refine dw_end ?_ | refine dwb rfl rfl rfl rfl rfl (by (first | refine st_pure (hg) b112 rfl rfl rfl rfl ?_); exact fin rfl) rfl rfl ?_ | fail
        all_goals first
          | (exfalso; omega)
          | (refine f_r [(0, rcell b ⟨p, true⟩)] rfl (by (repeat' first | exact trivial | refine And.intro ?_ ?_ | rfl); first | done | fail) rfl ⟨?_, rfl⟩; rfl)
      · have hn : numM b ⟨p, false⟩ most = (n, ⟨p + k, false⟩) := by simp [numM, gnC, hc, hx]
        rw [hn]
        repeat' first | refine stp lay_ok rfl ?_ | refine fin ?_ | refine n_thn ?_ | refine .seq ?_ | refine reg ?_ | refine .skip ?_ | refine cndF rfl ?_ | fail
        refine dreg [(0, [], [16, 17, 18, 19]), (1, [0], [16, 17, 18, 19]), (2, [0, 1], [16, 17, 18, 19]), (3, [0, 1, 2], [16, 17, 18, 19]), (4, [], [12, 13, 14, 15]), (5, [4], [12, 13, 14, 15]), (6, [4, 5], [12, 13, 14, 15]), (7, [4, 5, 6], [12, 13, 14, 15]), (8, [0, 1, 2, 3, 4, 5, 6, 7], []), (9, [0, 1, 2, 3, 4, 5, 6, 7, 8], []), (10, [0, 1, 2, 3, 4, 5, 6, 7, 8, 9], [22]), (11, [0, 1, 2, 3, 4, 5, 6, 7, 8, 9], [21, 5]), (12, [0, 1, 2, 3, 4, 5, 6, 7, 8, 9, 10], [22]), (13, [0, 1, 2, 3, 4, 5, 6, 7, 8, 9, 10, 11, 12], [])] mixed (by kernel_rfl) ?_
        repeat' first | refine wr (by omega) ?_ | refine stp lay_ok rfl ?_ | refine fin ?_ | refine n_thn ?_ | refine r_thn ?_ | refine .seq ?_ | refine reg ?_ | refine .skip ?_ | refine .ret ?_ | refine cndT rfl ?_ | refine c_dec rfl (fun hc => ?_) (fun hc => ?_) | refine gd rfl rfl rfl (fun hg => ?_) (fun hg => ?_) | refine dws lay_ok rfl rfl rfl rfl rfl rfl rfl ?_ | refine dw_end ?_ | refine dwb rfl rfl rfl rfl rfl (by (first | refine st_pure (hg) b112 rfl rfl rfl rfl ?_); exact fin rfl) rfl rfl ?_ | fail
        all_goals first
          | (exfalso; omega)
          | (refine f_r [(0, rcell b ⟨p + k, false⟩)] rfl (by (repeat' first | exact trivial | refine And.intro ?_ ?_ | rfl); first | done | fail) rfl ⟨?_, rfl⟩; rfl)
end Go.Proofs.YtohmbpcjapjkbaaGreatDoorFn
namespace Go.Proofs.YtohmbpcjapjkbaaGreatDoorFn
open Go.Proofs.YtohmbpcjapjkbaaGreatDoorAl Go.Proofs.Tryz
attribute [local irreducible] IntKind.wrap CodeOk OpsL OpG ACalls thn inBlk rndR cutR WkR Wk fnR DW ExtOk partsOf
theorem numM_le {b : List UInt8} {s : RS} {most : Nat} (h : s.at_ ≤ b.length) : (numM b s most).2.at_ ≤ b.length ∧ (numM b s most).1 ≤ most := by
  unfold numM
  split
  · exact ⟨h, Nat.zero_le _⟩
  · split
    · exact ⟨h, Nat.zero_le _⟩
    · rename_i e; have := gnC_le h e; exact ⟨this.2.1, this.1⟩
def refT (b : List UInt8) (s : RS) : ByteArray × RS :=
  let r := numM b s 4096
  if r.2.bad = true ∨ b.length < r.2.at_ + r.1 then (mt, ⟨r.2.at_, true⟩) else (Go.Proofs.YtohmbpcjapjkbaaGreatDoorAl.strOf ((b.drop r.2.at_).take r.1), ⟨r.2.at_ + r.1, false⟩)
theorem refRText_ok (b : List UInt8) (s : RS) (hb : b.length ≤ 4000000000) (hp : s.at_ ≤ b.length) :
    ACalls prog 68 1 [.ptr 0 0] [(0, rcell b s)] fun r h => r = Sx (refT b s).1 ∧ h = [(0, rcell b (refT b s).2)] := by
  have hN := refRNum_ok b s 4096 hb hp (by decide)
  have hle := numM_le (most := 4096) hp
  have hlm : (List.map rowB b).length = b.length := List.length_map _
  simp only [refT]
  generalize numM b s 4096 = r at *
  obtain ⟨n, ⟨q, bad⟩⟩ := r
  simp only at *
  have hN2 : ACalls prog 67 1 [.ptr 0 0, U 4096] [(0, rcell b s)] fun r h => r = I n ∧ h = [(0, .cells [Bs b, I q, B bad])] := hN
  clear hN
  refine fnC lay_ok func68 rfl rfl rfl rfl rfl ?_
  by_cases hx : bad = true ∨ b.length < q + n
  · rw [if_pos hx]
    cases bad
    all_goals
      repeat' first | refine stp lay_ok rfl ?_ | refine fin ?_ | refine n_thn ?_ | refine .seq ?_ | refine reg ?_ | (refine o_none rfl ?_; refine st_callF 0 (hN2) b67 rfl rfl rfl rfl rfl rfl (by (repeat' first | exact trivial | refine And.intro ?_ ?_ | rfl); first | done | fail) rfl ?_) | fail
      refine dreg [(0, [], []), (1, [0], []), (2, [0, 1], []), (3, [0, 1, 2], []), (4, [0, 1, 2, 3], []), (5, [0, 1, 2, 3, 4], [13, 14, 15, 16, 17, 18, 19, 20, 21, 22]), (6, [0, 1, 2, 3, 4], [12, 18, 19, 20, 21]), (7, [0, 1, 2, 3, 4, 6], [12, 18, 19, 20, 21]), (8, [0, 1, 2, 3, 4, 6, 7], [12, 18, 19, 20, 21]), (9, [0, 1, 2, 3, 4, 6, 7, 8], [12, 18, 19, 20, 21]), (10, [0, 1, 2, 3, 4, 6, 7, 8, 9], [12, 18, 19, 20, 21]), (11, [0, 1, 2, 3, 4], [12, 13, 14, 15, 16, 17]), (12, [0, 1, 2, 3, 4, 11], [12, 13, 14, 15, 16, 17]), (13, [0, 1, 2, 3, 4, 11, 12], [12, 13, 14, 15, 16, 17]), (14, [0, 1, 2, 3, 4, 11, 12, 13], [12, 13, 14, 15, 16, 17]), (15, [0, 1, 2, 3, 4, 6, 7, 8, 9, 10, 11, 12, 13, 14], [12]), (16, [0, 1, 2, 3, 4, 5, 6, 7, 8, 9, 10, 11, 12, 13, 14, 15], []), (17, [0, 1, 2, 3, 4, 5, 6, 7, 8, 9, 10, 11, 12, 13, 14, 15, 16], [])] mixed (by kernel_rfl) ?_
      repeat' first | refine stp lay_ok rfl ?_ | refine fin ?_ | refine n_thn ?_ | refine r_thn ?_ | refine .seq ?_ | refine reg ?_ | refine .skip ?_ | refine .ret ?_ | refine cndT rfl ?_ | refine c_dec rfl (fun hc => ?_) (fun hc => ?_) | refine dwr (by omega) ?_ | refine dwl ?_ | refine dws lay_ok rfl rfl rfl rfl rfl rfl rfl ?_ | refine dw_end ?_ | refine dw_skip rfl rfl rfl ?_ | fail
      all_goals first
        | (exfalso; simp only [Bool.false_eq_true, false_or] at hx; omega)
        | (refine f_r [(0, rcell b ⟨q, true⟩)] rfl (by (repeat' first | exact trivial | refine And.intro ?_ ?_ | rfl); first | done | fail) rfl ⟨?_, rfl⟩; rfl)
  · rw [if_neg hx]
    have hx1 : bad = false := by cases bad <;> simp_all
    subst hx1
    have hx2 : q + n ≤ b.length := by omega
    have hsl : ((List.map rowB b).drop q).take (q + n - q) = ((b.drop q).take n).map rowB := by
      rw [← List.map_drop, ← List.map_take, Nat.add_sub_cancel_left]
    repeat' first | refine stp lay_ok rfl ?_ | refine fin ?_ | refine n_thn ?_ | refine .seq ?_ | refine reg ?_ | (refine o_none rfl ?_; refine st_callF 0 (hN2) b67 rfl rfl rfl rfl rfl rfl (by (repeat' first | exact trivial | refine And.intro ?_ ?_ | rfl); first | done | fail) rfl ?_) | fail
    refine dreg [(0, [], []), (1, [0], []), (2, [0, 1], []), (3, [0, 1, 2], []), (4, [0, 1, 2, 3], []), (5, [0, 1, 2, 3, 4], [13, 14, 15, 16, 17, 18, 19, 20, 21, 22]), (6, [0, 1, 2, 3, 4], [12, 18, 19, 20, 21]), (7, [0, 1, 2, 3, 4, 6], [12, 18, 19, 20, 21]), (8, [0, 1, 2, 3, 4, 6, 7], [12, 18, 19, 20, 21]), (9, [0, 1, 2, 3, 4, 6, 7, 8], [12, 18, 19, 20, 21]), (10, [0, 1, 2, 3, 4, 6, 7, 8, 9], [12, 18, 19, 20, 21]), (11, [0, 1, 2, 3, 4], [12, 13, 14, 15, 16, 17]), (12, [0, 1, 2, 3, 4, 11], [12, 13, 14, 15, 16, 17]), (13, [0, 1, 2, 3, 4, 11, 12], [12, 13, 14, 15, 16, 17]), (14, [0, 1, 2, 3, 4, 11, 12, 13], [12, 13, 14, 15, 16, 17]), (15, [0, 1, 2, 3, 4, 6, 7, 8, 9, 10, 11, 12, 13, 14], [12]), (16, [0, 1, 2, 3, 4, 5, 6, 7, 8, 9, 10, 11, 12, 13, 14, 15], []), (17, [0, 1, 2, 3, 4, 5, 6, 7, 8, 9, 10, 11, 12, 13, 14, 15, 16], [])] mixed (by kernel_rfl) ?_
    repeat' first | refine stp lay_ok rfl ?_ | refine fin ?_ | refine n_thn ?_ | refine r_thn ?_ | refine .seq ?_ | refine reg ?_ | refine .skip ?_ | refine .ret ?_ | refine c_dec rfl (fun hc => ?_) (fun hc => ?_) | refine dwr (by omega) ?_ | refine dwl ?_ | refine dws lay_ok rfl rfl rfl rfl rfl rfl rfl ?_ | refine dw_end ?_ | fail
    · exfalso; omega
    · refine dreg [(0, [], [32, 33, 34, 35, 36, 37, 38, 39, 40, 41]), (1, [0], [32, 33, 34, 35, 36, 37, 38, 39, 40, 41]), (2, [0, 1], [32, 33, 34, 35, 36, 37, 38, 39, 40, 41]), (3, [0, 1, 2], [32, 33, 34, 35, 36, 37, 38, 39, 40, 41]), (4, [], [28, 29, 30, 31, 36, 37, 38, 39, 40, 41]), (5, [4], [28, 29, 30, 31, 36, 37, 38, 39, 40, 41]), (6, [4, 5], [28, 29, 30, 31, 36, 37, 38, 39, 40, 41]), (7, [4, 5, 6], [28, 29, 30, 31, 36, 37, 38, 39, 40, 41]), (8, [], [28, 29, 30, 31, 32, 33, 34, 35, 40]), (9, [8], [28, 29, 30, 31, 32, 33, 34, 35, 40]), (10, [8, 9], [28, 29, 30, 31, 32, 33, 34, 35, 40]), (11, [8, 9, 10], [28, 29, 30, 31, 32, 33, 34, 35, 40]), (12, [], [28, 29, 30, 31, 32, 33, 34, 35, 36, 37, 38, 39]), (13, [8, 9, 10, 11, 12], [28, 29, 30, 31, 32, 33, 34, 35]), (14, [0, 1, 2, 3, 4, 5, 6, 7, 8, 9, 10, 11, 12, 13], []), (15, [0, 1, 2, 3, 4, 5, 6, 7, 8, 9, 10, 11, 12, 13, 14], []), (16, [0, 1, 2, 3, 4, 5, 6, 7, 8, 9, 10, 11, 12, 13, 14, 15], [])] mixed (by kernel_rfl) ?_
      repeat' first | refine wr (by omega) ?_ | refine stp lay_ok rfl ?_ | refine fin ?_ | refine n_thn ?_ | refine .seq ?_ | refine reg ?_ | refine .ret ?_ | refine dwr (by omega) ?_ | refine dws lay_ok rfl rfl rfl rfl rfl rfl rfl ?_ | refine dw_end ?_ | refine dwb rfl rfl rfl rfl rfl (by (first | refine st_subL q (q + n) lay_ok rfl rfl rfl ⟨_, _, rfl, rfl⟩ ⟨_, _, rfl, (Int.natCast_add q n).symm⟩ (by omega) (by omega) ?_ | refine st_strOfE hsl lay_ok rfl rfl rfl rfl rfl rfl rfl ?_); exact fin rfl) rfl rfl ?_ | fail
      refine f_r [(0, rcell b ⟨q + n, false⟩)] rfl (by (repeat' first | exact trivial | refine And.intro ?_ ?_ | rfl); first | done | fail) rfl ⟨?_, rfl⟩
      rfl
end Go.Proofs.YtohmbpcjapjkbaaGreatDoorFn
namespace Go.Proofs.YtohmbpcjapjkbaaGreatDoorFn
open Go.Proofs.YtohmbpcjapjkbaaGreatDoorAl Go.Proofs.Tryz
attribute [local irreducible] IntKind.wrap CodeOk OpsL OpG ACalls thn inBlk rndR cutR WkR Wk fnR DW ExtOk partsOf
theorem b25 : HasBody prog 25 := ⟨f25, func25, Option.some_ne_none _, by decide⟩
theorem b83 : HasBody prog 83 := ⟨f83, func83, Option.some_ne_none _, by decide⟩
theorem b48 : HasBody prog 48 := ⟨f48, func48, Option.some_ne_none _, by decide⟩
theorem list_ext {α : Type} {a b : List α} (hl : a.length = b.length) (h : ∀ j (h1 : j < a.length) (h2 : j < b.length), a[j] = b[j]) : a = b := List.ext_getElem hl h
theorem same3_ok (a b : List ByteArray) (ha : a.length ≤ 4000000000) (hb : b.length ≤ 4000000000) : ACalls prog 25 0 [.st (.sl 1 (a.map rowS)), .st (.sl 1 (b.map rowS))] [] fun r h => r = B (decide (a = b)) ∧ h = [] := by
  have hma : (List.map rowS a).length = a.length := List.length_map _
  have hmb : (List.map rowS b).length = b.length := List.length_map _
  refine fnC lay_ok func25 rfl rfl rfl rfl rfl ?_
  repeat' first | refine ln ?_ | refine stp lay_ok rfl ?_ | refine fin ?_ | refine n_thn ?_ | refine r_thn ?_ | refine .seq ?_ | refine reg ?_ | refine .block ?_ | refine .skip ?_ | refine .ret ?_ | refine c_dec rfl (fun hc => ?_) (fun hc => ?_) | fail
  · refine f_r [] rfl trivial rfl ⟨?_, rfl⟩
    rw [decide_eq_false (by rintro rfl; omega)]; rfl
  · have hl : a.length = b.length := by omega
    refine lpR (fun k => k ≤ a.length ∧ ∀ j (h1 : j < a.length) (h2 : j < b.length), j < k → a[j] = b[j]) (fun k => a.length - k) (fun k => [(5, I k)]) (fun k => []) (0) [0, 1] [] [] rfl rfl rfl (.of [] (by (repeat' first | exact trivial | refine And.intro ?_ ?_ | rfl); first | done | fail) (by (repeat' first | exact trivial | refine And.intro ?_ ?_ | rfl); first | done | fail) rfl) ?_ ?_
    · exact ⟨Nat.zero_le _, fun j h1 h2 h3 => by omega⟩
    rintro k ⟨hk, hall⟩
    refine nrm rfl rfl ?_
    repeat' first | refine ln ?_ | refine stp lay_ok rfl ?_ | refine fin ?_ | refine n_thn ?_ | refine e_thn ?_ | refine e_hit ?_ | refine e_rr ?_ | refine .seq ?_ | refine reg ?_ | refine .block ?_ | refine .skip ?_ | refine .ret ?_ | refine .exit ?_ | refine c_dec rfl (fun hc => ?_) (fun hc => ?_) | fail
    · have hka : k < a.length := by omega
      have hkb : k < b.length := by omega
      have hat := at_rowS hka
      have hbt := at_rowS hkb
      refine dreg [(0, [], [18, 21, 22, 23, 24]), (1, [], [17, 21, 22, 23, 24]), (2, [0, 1], [21, 22, 23, 24]), (3, [0, 1, 2], [21, 22, 23, 24]), (4, [], [17, 18, 19, 20, 22]), (5, [], [17, 18, 19, 20, 21]), (6, [4, 5], [17, 18, 19, 20]), (7, [4, 5, 6], [17, 18, 19, 20]), (8, [0, 1, 2, 3, 4, 5, 6, 7], [])] mixed (by kernel_rfl) ?_
      repeat' first | refine wr (by omega) ?_ | refine stp lay_ok rfl ?_ | refine fin ?_ | refine n_thn ?_ | refine n_blk ?_ | refine r_thn ?_ | refine r_blk ?_ | refine r_rr ?_ | refine .seq ?_ | refine reg ?_ | refine .skip ?_ | refine .ret ?_ | refine c_dec rfl (fun hc => ?_) (fun hc => ?_) | refine dws lay_ok rfl rfl rfl rfl rfl rfl rfl ?_ | refine dw_end ?_ | refine dwb rfl rfl rfl rfl rfl (by (first | refine st_index (rowS a[k]) lay_ok rfl rfl rfl rfl (by omega) hat ?_ | refine st_index (rowS b[k]) lay_ok rfl rfl rfl rfl (by omega) hbt ?_); exact fin rfl) rfl rfl ?_ | fail
      · refine f_r [] rfl trivial rfl ⟨?_, rfl⟩
        rw [decide_eq_false (fun e => hc (by subst e; rfl))]; rfl
      · refine n_rr (k + 1) ?_ (.of [] (by (repeat' first | exact trivial | refine And.intro ?_ ?_ | rfl); first | done | fail) (by (repeat' first | exact trivial | refine And.intro ?_ ?_ | rfl); first | done | fail) rfl) ?_
        · omega
        · refine ⟨hka, fun j h1 h2 h3 => ?_⟩
          by_cases hj : j = k
          · subst hj; exact Decidable.not_not.1 hc
          · exact hall j h1 h2 (by omega)
    · refine f_r [] rfl trivial rfl ⟨?_, rfl⟩
      rw [decide_eq_true (list_ext hl fun j h1 h2 => hall j h1 h2 (by omega))]; rfl
theorem same4_ok (x y : EV) (ha : x.keys.length ≤ 4000000000) (hb : y.keys.length ≤ 4000000000) : ACalls prog 83 0 [.st (.agg (rowE x)), .st (.agg (rowE y))] [] fun r h => r = B (decide (x = y)) ∧ h = [] := by
  have h1 := same3_ok x.keys y.keys ha hb
  obtain ⟨p, z, ks⟩ := x
  obtain ⟨p', z', ks'⟩ := y
  simp only at *
  refine fnC lay_ok func83 rfl rfl rfl rfl rfl ?_
  repeat' first | refine stp lay_ok rfl ?_ | refine fin ?_ | refine n_thn ?_ | refine .seq ?_ | refine reg ?_ | refine .ret ?_ | (refine o_yes rfl rfl rfl ?_; refine st_pure (h1) b25 rfl rfl rfl rfl ?_) | refine gd rfl rfl rfl (fun hg => ?_) (fun hg => ?_) | fail
  all_goals
    refine f_r [] rfl trivial rfl ⟨?_, rfl⟩
    simp_all [retOf, B]
theorem sameAll_ok (a b : List EV) (ha : a.length ≤ 4000000000) (hb : b.length ≤ 4000000000) (ga : ∀ e ∈ a, e.keys.length ≤ 4000000000) (gb : ∀ e ∈ b, e.keys.length ≤ 4000000000) : ACalls prog 48 0 [.st (.sl 3 (a.map rowE)), .st (.sl 3 (b.map rowE))] [] fun r h => r = B (decide (a = b)) ∧ h = [] := by
  have hma : (List.map rowE a).length = a.length := List.length_map _
  have hmb : (List.map rowE b).length = b.length := List.length_map _
  refine fnC lay_ok func48 rfl rfl rfl rfl rfl ?_
  repeat' first | refine ln ?_ | refine stp lay_ok rfl ?_ | refine fin ?_ | refine n_thn ?_ | refine r_thn ?_ | refine .seq ?_ | refine reg ?_ | refine .block ?_ | refine .skip ?_ | refine .ret ?_ | refine c_dec rfl (fun hc => ?_) (fun hc => ?_) | fail
  · refine f_r [] rfl trivial rfl ⟨?_, rfl⟩
    rw [decide_eq_false (by rintro rfl; omega)]; rfl
  · have hl : a.length = b.length := by omega
    refine lpR (fun k => k ≤ a.length ∧ ∀ j (h1 : j < a.length) (h2 : j < b.length), j < k → a[j] = b[j]) (fun k => a.length - k) (fun k => [(5, I k)]) (fun k => []) (0) [0, 1] [] [] rfl rfl rfl (.of [] (by (repeat' first | exact trivial | refine And.intro ?_ ?_ | rfl); first | done | fail) (by (repeat' first | exact trivial | refine And.intro ?_ ?_ | rfl); first | done | fail) rfl) ?_ ?_
    · exact ⟨Nat.zero_le _, fun j h1 h2 h3 => by omega⟩
    rintro k ⟨hk, hall⟩
    refine nrm rfl rfl ?_
    repeat' first | refine ln ?_ | refine stp lay_ok rfl ?_ | refine fin ?_ | refine n_thn ?_ | refine e_thn ?_ | refine e_hit ?_ | refine e_rr ?_ | refine .seq ?_ | refine reg ?_ | refine .block ?_ | refine .skip ?_ | refine .ret ?_ | refine .exit ?_ | refine c_dec rfl (fun hc => ?_) (fun hc => ?_) | fail
    · have hka : k < a.length := by omega
      have hkb : k < b.length := by omega
      have hat := at_rowE hka
      have hbt := at_rowE hkb
      have h1 := same4_ok a[k] b[k] (ga _ (List.getElem_mem hka)) (gb _ (List.getElem_mem hkb))
      by_cases he : a[k] = b[k]
      · rw [decide_eq_true he] at h1
        refine dreg [(0, [], [18, 21, 22, 23, 24]), (1, [], [17, 21, 22, 23, 24]), (2, [0, 1], [21, 22, 23, 24]), (3, [0, 1, 2], [21, 22, 23, 24]), (4, [], [17, 18, 19, 20, 22]), (5, [], [17, 18, 19, 20, 21]), (6, [4, 5], [17, 18, 19, 20]), (7, [4, 5, 6], [17, 18, 19, 20]), (8, [0, 1, 2, 3, 4, 5, 6, 7], []), (9, [0, 1, 2, 3, 4, 5, 6, 7, 8], [])] mixed (by kernel_rfl) ?_
        repeat' first | refine wr (by omega) ?_ | refine stp lay_ok rfl ?_ | refine fin ?_ | refine n_thn ?_ | refine n_blk ?_ | refine reg ?_ | refine .skip ?_ | refine cndF rfl ?_ | refine dws lay_ok rfl rfl rfl rfl rfl rfl rfl ?_ | refine dw_end ?_ | refine dwb rfl rfl rfl rfl rfl (by (first | refine st_index (rowE a[k]) lay_ok rfl rfl rfl rfl (by omega) hat ?_ | refine st_index (rowE b[k]) lay_ok rfl rfl rfl rfl (by omega) hbt ?_ | refine st_pure (h1) b83 rfl rfl rfl rfl ?_); exact fin rfl) rfl rfl ?_ | fail
        refine n_rr (k + 1) ?_ (.of [] (by (repeat' first | exact trivial | refine And.intro ?_ ?_ | rfl); first | done | fail) (by (repeat' first | exact trivial | refine And.intro ?_ ?_ | rfl); first | done | fail) rfl) ?_
        · omega
        · refine ⟨hka, fun j h1 h2 h3 => ?_⟩
          by_cases hj : j = k
          · subst hj; exact he
          · exact hall j h1 h2 (by omega)
      · rw [decide_eq_false he] at h1
        refine dreg [(0, [], [18, 21, 22, 23, 24]), (1, [], [17, 21, 22, 23, 24]), (2, [0, 1], [21, 22, 23, 24]), (3, [0, 1, 2], [21, 22, 23, 24]), (4, [], [17, 18, 19, 20, 22]), (5, [], [17, 18, 19, 20, 21]), (6, [4, 5], [17, 18, 19, 20]), (7, [4, 5, 6], [17, 18, 19, 20]), (8, [0, 1, 2, 3, 4, 5, 6, 7], []), (9, [0, 1, 2, 3, 4, 5, 6, 7, 8], [])] mixed (by kernel_rfl) ?_
        repeat' first | refine stp lay_ok rfl ?_ | refine fin ?_ | refine n_thn ?_ | refine r_thn ?_ | refine r_blk ?_ | refine r_rr ?_ | refine .seq ?_ | refine reg ?_ | refine .ret ?_ | refine cndT rfl ?_ | refine dws lay_ok rfl rfl rfl rfl rfl rfl rfl ?_ | refine dw_end ?_ | refine dwb rfl rfl rfl rfl rfl (by (first | refine st_index (rowE a[k]) lay_ok rfl rfl rfl rfl (by omega) hat ?_ | refine st_index (rowE b[k]) lay_ok rfl rfl rfl rfl (by omega) hbt ?_ | refine st_pure (h1) b83 rfl rfl rfl rfl ?_); exact fin rfl) rfl rfl ?_ | fail
        refine f_r [] rfl trivial rfl ⟨?_, rfl⟩
        rw [decide_eq_false (fun e => he (by subst e; rfl))]; rfl
    · refine f_r [] rfl trivial rfl ⟨?_, rfl⟩
      rw [decide_eq_true (list_ext hl fun j h1 h2 => hall j h1 h2 (by omega))]; rfl
end Go.Proofs.YtohmbpcjapjkbaaGreatDoorFn
namespace Go.Proofs.YtohmbpcjapjkbaaGreatDoorFn
open Go.Proofs.YtohmbpcjapjkbaaGreatDoorAl Go.Proofs.Tryz
attribute [local irreducible] IntKind.wrap CodeOk OpsL OpG ACalls thn inBlk rndR cutR WkR Wk fnR DW ExtOk partsOf
theorem b18 : HasBody prog 18 := ⟨f18, func18, Option.some_ne_none _, by decide⟩
set_option maxHeartbeats 2000000 in
theorem same9_ok (a b : List NV) (ha : a.length ≤ 4000000000) (hb : b.length ≤ 4000000000) (ga : ∀ s ∈ a, s.fit) (gb : ∀ s ∈ b, s.fit) :
    ACalls prog 18 0 [.st (.sl 4 (a.map rowN)), .st (.sl 4 (b.map rowN))] [] fun r h => r = B (decide (a = b)) ∧ h = [] := by
  have hma : (List.map rowN a).length = a.length := List.length_map _
  have hmb : (List.map rowN b).length = b.length := List.length_map _
  refine fnC lay_ok func18 rfl rfl rfl rfl rfl ?_
  repeat' first | refine ln ?_ | refine stp lay_ok rfl ?_ | refine fin ?_ | refine n_thn ?_ | refine r_thn ?_ | refine .seq ?_ | refine reg ?_ | refine .block ?_ | refine .skip ?_ | refine .ret ?_ | refine c_dec rfl (fun hc => ?_) (fun hc => ?_) | fail
  · refine f_r [] rfl trivial rfl ⟨?_, rfl⟩
    rw [decide_eq_false (by rintro rfl; omega)]; rfl
  · have hl : a.length = b.length := by omega
    refine lpR (fun k => k ≤ a.length ∧ ∀ j (h1 : j < a.length) (h2 : j < b.length), j < k → a[j] = b[j]) (fun k => a.length - k) (fun k => [(5, I k)]) (fun k => []) (0) [0, 1] [] [] rfl rfl rfl (.of [] (by (repeat' first | exact trivial | refine And.intro ?_ ?_ | rfl); first | done | fail) (by (repeat' first | exact trivial | refine And.intro ?_ ?_ | rfl); first | done | fail) rfl) ?_ ?_
    · exact ⟨Nat.zero_le _, fun j h1 h2 h3 => by omega⟩
    rintro k ⟨hk, hall⟩
    refine nrm rfl rfl ?_
    repeat' first | refine ln ?_ | refine stp lay_ok rfl ?_ | refine fin ?_ | refine n_thn ?_ | refine e_thn ?_ | refine e_hit ?_ | refine e_rr ?_ | refine .seq ?_ | refine reg ?_ | refine .block ?_ | refine .skip ?_ | refine .ret ?_ | refine .exit ?_ | refine c_dec rfl (fun hc => ?_) (fun hc => ?_) | fail
    · have hka : k < a.length := by omega
      have hkb : k < b.length := by omega
      have hat : (a.map rowN)[((k : Nat) : Int).toNat]? = some (rowN a[k]) := by simp [hka]
      have hbt : (b.map rowN)[((k : Nat) : Int).toNat]? = some (rowN b[k]) := by simp [hkb]
      have f1 := ga _ (List.getElem_mem hka)
      have f2 := gb _ (List.getElem_mem hkb)
      have hs := sameAll_ok a[k].entries b[k].entries f1.2.1 f2.2.1 (fun e he => (f1.2.2 e he).2) (fun e he => (f2.2.2 e he).2)
      have hne : a[k] ≠ b[k] → a ≠ b := fun h e => h (by subst e; rfl)
      have hnx : a[k] = b[k] → ∀ j (h1 : j < a.length) (h2 : j < b.length), j < k + 1 → a[j] = b[j] := fun h j h1 h2 h3 => by
        by_cases hj : j = k
        · subst hj; exact h
        · exact hall j h1 h2 (by omega)
      generalize a[k] = x at *
      generalize b[k] = y at *
      obtain ⟨c, n, d, es⟩ := x
      obtain ⟨c', n', d', es'⟩ := y
      simp only at hs
      refine dreg [(0, [], [18, 22, 23, 24, 25, 26]), (1, [], [17, 22, 23, 24, 25, 26]), (2, [0, 1], [22, 23, 24, 25, 26]), (3, [0, 1, 2], [22, 23, 24, 25, 26]), (4, [0, 1, 2, 3], [22, 23, 24, 25, 26]), (5, [], [17, 18, 19, 20, 21, 23]), (6, [], [17, 18, 19, 20, 21, 22]), (7, [5, 6], [17, 18, 19, 20, 21]), (8, [5, 6, 7], [17, 18, 19, 20, 21]), (9, [5, 6, 7, 8], [17, 18, 19, 20, 21]), (10, [0, 1, 2, 3, 4, 5, 6, 7, 8, 9], []), (11, [0, 1, 2, 3, 4, 5, 6, 7, 8, 9, 10], []), (12, [0, 1, 2, 3, 4, 5, 6, 7, 8, 9, 10, 11], [30, 34, 35, 36, 37, 38]), (13, [0, 1, 2, 3, 4, 5, 6, 7, 8, 9, 10, 11], [29, 34, 35, 36, 37, 38]), (14, [0, 1, 2, 3, 4, 5, 6, 7, 8, 9, 10, 11, 12, 13], [34, 35, 36, 37, 38]), (15, [0, 1, 2, 3, 4, 5, 6, 7, 8, 9, 10, 11, 12, 13, 14], [34, 35, 36, 37, 38]), (16, [0, 1, 2, 3, 4, 5, 6, 7, 8, 9, 10, 11, 12, 13, 14, 15], [34, 35, 36, 37, 38]), (17, [0, 1, 2, 3, 4, 5, 6, 7, 8, 9, 10, 11], [29, 30, 31, 32, 33, 35]), (18, [0, 1, 2, 3, 4, 5, 6, 7, 8, 9, 10, 11], [29, 30, 31, 32, 33, 34]), (19, [0, 1, 2, 3, 4, 5, 6, 7, 8, 9, 10, 11, 17, 18], [29, 30, 31, 32, 33]), (20, [0, 1, 2, 3, 4, 5, 6, 7, 8, 9, 10, 11, 17, 18, 19], [29, 30, 31, 32, 33]), (21, [0, 1, 2, 3, 4, 5, 6, 7, 8, 9, 10, 11, 17, 18, 19, 20], [29, 30, 31, 32, 33]), (22, [0, 1, 2, 3, 4, 5, 6, 7, 8, 9, 10, 11, 12, 13, 14, 15, 16, 17, 18, 19, 20, 21], []), (23, [0, 1, 2, 3, 4, 5, 6, 7, 8, 9, 10, 11, 12, 13, 14, 15, 16, 17, 18, 19, 20, 21, 22], []), (24, [0, 1, 2, 3, 4, 5, 6, 7, 8, 9, 10, 11, 12, 13, 14, 15, 16, 17, 18, 19, 20, 21, 22, 23], []), (25, [0, 1, 2, 3, 4, 5, 6, 7, 8, 9, 10, 11, 12, 13, 14, 15, 16, 17, 18, 19, 20, 21, 22, 23, 24], [43, 47, 48, 49, 50, 51]), (26, [0, 1, 2, 3, 4, 5, 6, 7, 8, 9, 10, 11, 12, 13, 14, 15, 16, 17, 18, 19, 20, 21, 22, 23, 24], [42, 47, 48, 49, 50, 51]), (27, [0, 1, 2, 3, 4, 5, 6, 7, 8, 9, 10, 11, 12, 13, 14, 15, 16, 17, 18, 19, 20, 21, 22, 23, 24, 25, 26], [47, 48, 49, 50, 51]), (28, [0, 1, 2, 3, 4, 5, 6, 7, 8, 9, 10, 11, 12, 13, 14, 15, 16, 17, 18, 19, 20, 21, 22, 23, 24, 25, 26, 27], [47, 48, 49, 50, 51]), (29, [0, 1, 2, 3, 4, 5, 6, 7, 8, 9, 10, 11, 12, 13, 14, 15, 16, 17, 18, 19, 20, 21, 22, 23, 24, 25, 26, 27, 28], [47, 48, 49, 50, 51]), (30, [0, 1, 2, 3, 4, 5, 6, 7, 8, 9, 10, 11, 12, 13, 14, 15, 16, 17, 18, 19, 20, 21, 22, 23, 24], [42, 43, 44, 45, 46, 48]), (31, [0, 1, 2, 3, 4, 5, 6, 7, 8, 9, 10, 11, 12, 13, 14, 15, 16, 17, 18, 19, 20, 21, 22, 23, 24], [42, 43, 44, 45, 46, 47]), (32, [0, 1, 2, 3, 4, 5, 6, 7, 8, 9, 10, 11, 12, 13, 14, 15, 16, 17, 18, 19, 20, 21, 22, 23, 24, 30, 31], [42, 43, 44, 45, 46]), (33, [0, 1, 2, 3, 4, 5, 6, 7, 8, 9, 10, 11, 12, 13, 14, 15, 16, 17, 18, 19, 20, 21, 22, 23, 24, 30, 31, 32], [42, 43, 44, 45, 46]), (34, [0, 1, 2, 3, 4, 5, 6, 7, 8, 9, 10, 11, 12, 13, 14, 15, 16, 17, 18, 19, 20, 21, 22, 23, 24, 30, 31, 32, 33], [42, 43, 44, 45, 46]), (35, [0, 1, 2, 3, 4, 5, 6, 7, 8, 9, 10, 11, 12, 13, 14, 15, 16, 17, 18, 19, 20, 21, 22, 23, 24, 25, 26, 27, 28, 29, 30, 31, 32, 33, 34], []), (36, [0, 1, 2, 3, 4, 5, 6, 7, 8, 9, 10, 11, 12, 13, 14, 15, 16, 17, 18, 19, 20, 21, 22, 23, 24, 25, 26, 27, 28, 29, 30, 31, 32, 33, 34, 35], []), (37, [0, 1, 2, 3, 4, 5, 6, 7, 8, 9, 10, 11, 12, 13, 14, 15, 16, 17, 18, 19, 20, 21, 22, 23, 24, 25, 26, 27, 28, 29, 30, 31, 32, 33, 34, 35, 36], []), (38, [0, 1, 2, 3, 4, 5, 6, 7, 8, 9, 10, 11, 12, 13, 14, 15, 16, 17, 18, 19, 20, 21, 22, 23, 24, 25, 26, 27, 28, 29, 30, 31, 32, 33, 34, 35, 36, 37], [56, 60, 61, 62, 63, 64]), (39, [0, 1, 2, 3, 4, 5, 6, 7, 8, 9, 10, 11, 12, 13, 14, 15, 16, 17, 18, 19, 20, 21, 22, 23, 24, 25, 26, 27, 28, 29, 30, 31, 32, 33, 34, 35, 36, 37], [55, 60, 61, 62, 63, 64]), (40, [0, 1, 2, 3, 4, 5, 6, 7, 8, 9, 10, 11, 12, 13, 14, 15, 16, 17, 18, 19, 20, 21, 22, 23, 24, 25, 26, 27, 28, 29, 30, 31, 32, 33, 34, 35, 36, 37, 38, 39], [60, 61, 62, 63, 64]), (41, [0, 1, 2, 3, 4, 5, 6, 7, 8, 9, 10, 11, 12, 13, 14, 15, 16, 17, 18, 19, 20, 21, 22, 23, 24, 25, 26, 27, 28, 29, 30, 31, 32, 33, 34, 35, 36, 37, 38, 39, 40], [60, 61, 62, 63, 64]), (42, [0, 1, 2, 3, 4, 5, 6, 7, 8, 9, 10, 11, 12, 13, 14, 15, 16, 17, 18, 19, 20, 21, 22, 23, 24, 25, 26, 27, 28, 29, 30, 31, 32, 33, 34, 35, 36, 37, 38, 39, 40, 41], [60, 61, 62, 63, 64]), (43, [0, 1, 2, 3, 4, 5, 6, 7, 8, 9, 10, 11, 12, 13, 14, 15, 16, 17, 18, 19, 20, 21, 22, 23, 24, 25, 26, 27, 28, 29, 30, 31, 32, 33, 34, 35, 36, 37], [55, 56, 57, 58, 59, 61]), (44, [0, 1, 2, 3, 4, 5, 6, 7, 8, 9, 10, 11, 12, 13, 14, 15, 16, 17, 18, 19, 20, 21, 22, 23, 24, 25, 26, 27, 28, 29, 30, 31, 32, 33, 34, 35, 36, 37], [55, 56, 57, 58, 59, 60]), (45, [0, 1, 2, 3, 4, 5, 6, 7, 8, 9, 10, 11, 12, 13, 14, 15, 16, 17, 18, 19, 20, 21, 22, 23, 24, 25, 26, 27, 28, 29, 30, 31, 32, 33, 34, 35, 36, 37, 43, 44], [55, 56, 57, 58, 59]), (46, [0, 1, 2, 3, 4, 5, 6, 7, 8, 9, 10, 11, 12, 13, 14, 15, 16, 17, 18, 19, 20, 21, 22, 23, 24, 25, 26, 27, 28, 29, 30, 31, 32, 33, 34, 35, 36, 37, 43, 44, 45], [55, 56, 57, 58, 59]), (47, [0, 1, 2, 3, 4, 5, 6, 7, 8, 9, 10, 11, 12, 13, 14, 15, 16, 17, 18, 19, 20, 21, 22, 23, 24, 25, 26, 27, 28, 29, 30, 31, 32, 33, 34, 35, 36, 37, 43, 44, 45, 46], [55, 56, 57, 58, 59]), (48, [0, 1, 2, 3, 4, 5, 6, 7, 8, 9, 10, 11, 12, 13, 14, 15, 16, 17, 18, 19, 20, 21, 22, 23, 24, 25, 26, 27, 28, 29, 30, 31, 32, 33, 34, 35, 36, 37, 38, 39, 40, 41, 42, 43, 44, 45, 46, 47], []), (49, [0, 1, 2, 3, 4, 5, 6, 7, 8, 9, 10, 11, 12, 13, 14, 15, 16, 17, 18, 19, 20, 21, 22, 23, 24, 25, 26, 27, 28, 29, 30, 31, 32, 33, 34, 35, 36, 37, 38, 39, 40, 41, 42, 43, 44, 45, 46, 47, 48], []), (50, [0, 1, 2, 3, 4, 5, 6, 7, 8, 9, 10, 11, 12, 13, 14, 15, 16, 17, 18, 19, 20, 21, 22, 23, 24, 25, 26, 27, 28, 29, 30, 31, 32, 33, 34, 35, 36, 37, 38, 39, 40, 41, 42, 43, 44, 45, 46, 47, 48, 49], [])] mixed (by kernel_rfl) ?_
      repeat' first | refine wr (by omega) ?_ | refine stp lay_ok rfl ?_ | refine fin ?_ | refine n_thn ?_ | refine n_blk ?_ | refine r_thn ?_ | refine r_blk ?_ | refine r_rr ?_ | refine .seq ?_ | refine reg ?_ | refine .skip ?_ | refine .ret ?_ | refine cndT rfl ?_ | refine c_ndec rfl (fun hc => ?_) (fun hc => ?_) | refine dws lay_ok rfl rfl rfl rfl rfl rfl rfl ?_ | refine dw_end ?_ | refine dw_skip rfl rfl rfl ?_ | refine dwb rfl rfl rfl rfl rfl (by (first | refine st_index (rowN ⟨c, n, d, es⟩) lay_ok rfl rfl rfl rfl (by omega) hat ?_ | refine st_index (rowN ⟨c', n', d', es'⟩) lay_ok rfl rfl rfl rfl (by omega) hbt ?_ | refine st_pure (hs) b48 rfl rfl rfl rfl ?_); exact fin rfl) rfl rfl ?_ | refine dw_dec rfl rfl rfl (fun hg => ?_) (fun hg => ?_) | fail
      all_goals first
        | (refine f_r [] rfl trivial rfl ⟨?_, rfl⟩; rw [decide_eq_false (hne (by simp_all))]; rfl)
        | (refine n_rr (k + 1) ?_ (.of [] (by (repeat' first | exact trivial | refine And.intro ?_ ?_ | rfl); first | done | fail) (by (repeat' first | exact trivial | refine And.intro ?_ ?_ | rfl); first | done | fail) rfl) ?_
           · show a.length - (k + 1) < a.length - k; omega
           · exact ⟨by omega, hnx (by simp_all)⟩)
        | skip
    · refine f_r [] rfl trivial rfl ⟨?_, rfl⟩
      rw [decide_eq_true (list_ext hl fun j h1 h2 => hall j h1 h2 (by omega))]; rfl
end Go.Proofs.YtohmbpcjapjkbaaGreatDoorFn
namespace Go.Proofs.YtohmbpcjapjkbaaGreatDoorFn
open Go.Proofs.YtohmbpcjapjkbaaGreatDoorAl Go.Proofs.Tryz
attribute [local irreducible] IntKind.wrap CodeOk OpsL OpG ACalls thn inBlk rndR cutR WkR Wk fnR DW ExtOk partsOf
theorem b204 : HasBody prog 204 := ⟨f204, func204, Option.some_ne_none _, by decide⟩
theorem b205 : HasBody prog 205 := ⟨f205, func205, Option.some_ne_none _, by decide⟩
theorem b176 : HasBody prog 176 := ⟨f176, func176, Option.some_ne_none _, by decide⟩
theorem get_some {s : ByteArray} {p : Nat} (h : p < s.size) : s[p]? = some (s.get! p) := by
  rw [getElem?_pos s p h]; congr 1
  show s.get p h = s.get! p
  simp only [ByteArray.get, ByteArray.get!]
  exact (getElem!_pos s.data p h).symm
/-- The bytes behind the first one of a character. -/
def wLoop (s : ByteArray) (p : Nat) : Nat → Nat → Int → Option Int
  | 0, _, v => some v
  | f + 1, i, v => if (s.get! (p + i)).toNat < 128 ∨ 191 < (s.get! (p + i)).toNat then none else wLoop s p f (i + 1) (v * 64 + (s.get! (p + i)).toNat - 128)
def wEnd (s : ByteArray) (p n least : Nat) (v : Int) : Nat :=
  if s.size < p + n then 0 else match wLoop s p (n - 1) 1 v with
    | none => 0
    | some v => if v < (least : Int) ∨ 1114111 < v ∨ (55296 ≤ v ∧ v ≤ 57343) ∨ v = 65533 then 0 else n
def widthR (s : ByteArray) (p : Nat) : Nat :=
  if (s.get! p).toNat < 128 then 1
  else if 192 ≤ (s.get! p).toNat ∧ (s.get! p).toNat < 224 then wEnd s p 2 128 (((s.get! p).toNat : Int) - 192)
  else if 224 ≤ (s.get! p).toNat ∧ (s.get! p).toNat < 240 then wEnd s p 3 2048 (((s.get! p).toNat : Int) - 224)
  else if 240 ≤ (s.get! p).toNat ∧ (s.get! p).toNat < 248 then wEnd s p 4 65536 (((s.get! p).toNat : Int) - 240)
  else 0
set_option maxHeartbeats 4000000 in
set_option maxRecDepth 4000 in
theorem width_ok (s : ByteArray) (p : Nat) (hs : s.size ≤ 4000000000) (hp : p < s.size) : ACalls prog 204 0 [Sx s, I p] [] fun r h => r = I (widthR s p) ∧ h = [] := by
  have ha := get_some hp
  have hla := (s.get! p).toNat_lt
  have hw : widthR s p = if (s.get! p).toNat < 128 then 1
    else if 192 ≤ (s.get! p).toNat ∧ (s.get! p).toNat < 224 then wEnd s p 2 128 (((s.get! p).toNat : Int) - 192)
    else if 224 ≤ (s.get! p).toNat ∧ (s.get! p).toNat < 240 then wEnd s p 3 2048 (((s.get! p).toNat : Int) - 224)
    else if 240 ≤ (s.get! p).toNat ∧ (s.get! p).toNat < 248 then wEnd s p 4 65536 (((s.get! p).toNat : Int) - 240)
    else 0 := rfl
  generalize widthR s p = W at *
  generalize s.get! p = a at *
  refine fnC lay_ok func204 rfl rfl rfl rfl rfl ?_
  by_cases h1 : a.toNat < 128
  · rw [if_pos h1] at hw
    repeat' first | refine wr (by omega) ?_ | refine stp lay_ok rfl ?_ | refine fin ?_ | refine n_thn ?_ | refine n_blk ?_ | refine r_thn ?_ | refine r_blk ?_ | refine .seq ?_ | refine reg ?_ | refine .block ?_ | refine .skip ?_ | refine .ret ?_ | refine cndF rfl ?_ | refine c_dec rfl (fun hc => ?_) (fun hc => ?_) | (refine o_none rfl ?_; refine st_indexStr a lay_ok rfl rfl rfl rfl (by omega) ha ?_) | refine gd rfl rfl rfl (fun hg => ?_) (fun hg => ?_) | fail
    all_goals first
      | (exfalso; omega)
      | (refine f_r [] rfl trivial rfl ⟨?_, rfl⟩; rw [hw]; rfl)
  rw [if_neg h1] at hw
  by_cases h2 : 192 ≤ a.toNat ∧ a.toNat < 224
  · rw [if_pos h2] at hw
    repeat' first | refine wr (by omega) ?_ | refine stp lay_ok rfl ?_ | refine fin ?_ | refine n_thn ?_ | refine n_blk ?_ | refine r_thn ?_ | refine r_blk ?_ | refine .seq ?_ | refine reg ?_ | refine .block ?_ | refine .skip ?_ | refine .ret ?_ | refine cndF rfl ?_ | refine c_dec rfl (fun hc => ?_) (fun hc => ?_) | (refine o_none rfl ?_; refine st_indexStr a lay_ok rfl rfl rfl rfl (by omega) ha ?_) | refine gd rfl rfl rfl (fun hg => ?_) (fun hg => ?_) | fail
    all_goals first
      | (exfalso; omega)
      | (refine f_r [] rfl trivial rfl ⟨?_, rfl⟩; rw [hw, wEnd, if_pos (by omega)]; rfl)
      | skip
    have hsz : ¬ s.size < p + 2 := by omega
    rw [wEnd, if_neg hsz] at hw
    generalize hK : wLoop s p (2 - 1) 1 ((a.toNat : Int) - 192) = K at hw
    refine lpR (fun (i, v) => K = wLoop s p (2 - i) i v ∧ (i = 1 ∧ v < 32 ∨ i = 2 ∧ v < 2048 ∨ i = 3 ∧ v < 131072 ∨ i = 4 ∧ v < 8388608) ∧ 0 ≤ v ∧ i ≤ 2) (fun (i, v) => 2 - i) (fun (i, v) => [(9, I i), (8, .st (.int .i64 v))]) (fun (i, v) => []) ((1, (a.toNat : Int) - 192)) [0, 1, 6, 7] [] [] rfl rfl rfl (.of [] (by (repeat' first | exact trivial | refine And.intro ?_ ?_ | rfl); first | done | fail) (by (repeat' first | exact trivial | refine And.intro ?_ ?_ | rfl); first | done | fail) rfl) ?_ ?_
    · exact ⟨hK.symm, by omega, by omega, by decide⟩
    rintro ⟨i, v⟩ ⟨g1, g2, g3, g4⟩
    refine nrm rfl rfl ?_
    rw [g1] at hw
    by_cases hi : i < 2
    · have hx := get_some (show p + i < s.size by omega)
      have hxl := (s.get! (p + i)).toNat_lt
      have hx' : s[((p : Int) + (i : Int)).toNat]? = some (s.get! (p + i)) := by rw [← hx]; congr 1
      rw [show 2 - i = (2 - (i + 1)) + 1 by omega, wLoop] at hw
      have hws := g1
      rw [show 2 - i = (2 - (i + 1)) + 1 by omega, wLoop] at hws
      generalize s.get! (p + i) = x at *
      by_cases hxx : x.toNat < 128 ∨ 191 < x.toNat
      · rw [if_pos hxx] at hw
        repeat' first | refine wr (by omega) ?_ | refine stp lay_ok rfl ?_ | refine fin ?_ | refine n_thn ?_ | refine n_blk ?_ | refine e_thn ?_ | refine e_hit ?_ | refine r_thn ?_ | refine r_blk ?_ | refine e_rr ?_ | refine r_rr ?_ | refine .seq ?_ | refine reg ?_ | refine .block ?_ | refine .skip ?_ | refine .ret ?_ | refine .exit ?_ | refine cndT rfl ?_ | refine c_dec rfl (fun hc => ?_) (fun hc => ?_) | (refine o_none rfl ?_; refine st_indexStr x lay_ok rfl rfl rfl rfl (by omega) hx' ?_) | refine gd rfl rfl rfl (fun hg => ?_) (fun hg => ?_) | fail
        all_goals first
          | (exfalso; omega)
          | (refine f_r [] rfl trivial rfl ⟨?_, rfl⟩; rw [hw]; rfl)
      · rw [if_neg hxx] at hw hws
        repeat' first | refine wr (by omega) ?_ | refine stp lay_ok rfl ?_ | refine fin ?_ | refine n_thn ?_ | refine n_blk ?_ | refine e_thn ?_ | refine e_hit ?_ | refine r_thn ?_ | refine r_blk ?_ | refine e_rr ?_ | refine r_rr ?_ | refine .seq ?_ | refine reg ?_ | refine .block ?_ | refine .skip ?_ | refine .ret ?_ | refine .exit ?_ | refine cndT rfl ?_ | refine c_dec rfl (fun hc => ?_) (fun hc => ?_) | (refine o_none rfl ?_; refine st_indexStr x lay_ok rfl rfl rfl rfl (by omega) hx' ?_) | refine gd rfl rfl rfl (fun hg => ?_) (fun hg => ?_) | fail
        all_goals first
          | (exfalso; omega)
          | skip
        refine n_rr ((i + 1, v * 64 + (x.toNat : Int) - 128)) ?_ (.of [] (by (repeat' first | exact trivial | refine And.intro ?_ ?_ | rfl); first | done | fail) (by (repeat' first | exact trivial | refine And.intro ?_ ?_ | rfl); first | done | fail) rfl) ?_
        · show 2 - (i + 1) < 2 - i; omega
        · exact ⟨hws, by omega, by omega, by omega⟩
    · have hi' : i = 2 := by omega
      subst hi'
      rw [Nat.sub_self, wLoop] at hw
      simp only at hw
      by_cases hv : v < ((128 : Nat) : Int) ∨ 1114111 < v ∨ (55296 ≤ v ∧ v ≤ 57343) ∨ v = 65533
      · rw [if_pos hv] at hw
        repeat' first | refine stp lay_ok rfl ?_ | refine fin ?_ | refine n_thn ?_ | refine e_thn ?_ | refine e_hit ?_ | refine r_thn ?_ | refine e_rr ?_ | refine .seq ?_ | refine reg ?_ | refine .skip ?_ | refine .ret ?_ | refine .exit ?_ | refine cndT rfl ?_ | refine cndF rfl ?_ | refine c_dec rfl (fun hc => ?_) (fun hc => ?_) | refine gd rfl rfl rfl (fun hg => ?_) (fun hg => ?_) | fail
        all_goals first
          | (exfalso; omega)
          | (refine f_r [] rfl trivial rfl ⟨?_, rfl⟩; rw [hw]; rfl)
      · rw [if_neg hv] at hw
        repeat' first | refine stp lay_ok rfl ?_ | refine fin ?_ | refine n_thn ?_ | refine e_thn ?_ | refine e_hit ?_ | refine r_thn ?_ | refine e_rr ?_ | refine .seq ?_ | refine reg ?_ | refine .skip ?_ | refine .ret ?_ | refine .exit ?_ | refine cndT rfl ?_ | refine cndF rfl ?_ | refine c_dec rfl (fun hc => ?_) (fun hc => ?_) | refine gd rfl rfl rfl (fun hg => ?_) (fun hg => ?_) | fail
        all_goals first
          | (exfalso; omega)
          | (refine f_r [] rfl trivial rfl ⟨?_, rfl⟩; rw [hw]; rfl)
  rw [if_neg h2] at hw
  by_cases h3 : 224 ≤ a.toNat ∧ a.toNat < 240
  · rw [if_pos h3] at hw
    repeat' first | refine wr (by omega) ?_ | refine stp lay_ok rfl ?_ | refine fin ?_ | refine n_thn ?_ | refine n_blk ?_ | refine r_thn ?_ | refine r_blk ?_ | refine .seq ?_ | refine reg ?_ | refine .block ?_ | refine .skip ?_ | refine .ret ?_ | refine cndF rfl ?_ | refine c_dec rfl (fun hc => ?_) (fun hc => ?_) | (refine o_none rfl ?_; refine st_indexStr a lay_ok rfl rfl rfl rfl (by omega) ha ?_) | refine gd rfl rfl rfl (fun hg => ?_) (fun hg => ?_) | fail
    all_goals first
      | (exfalso; omega)
      | (refine f_r [] rfl trivial rfl ⟨?_, rfl⟩; rw [hw, wEnd, if_pos (by omega)]; rfl)
      | skip
    have hsz : ¬ s.size < p + 3 := by omega
    rw [wEnd, if_neg hsz] at hw
    generalize hK : wLoop s p (3 - 1) 1 ((a.toNat : Int) - 224) = K at hw
    refine lpR (fun (i, v) => K = wLoop s p (3 - i) i v ∧ (i = 1 ∧ v < 32 ∨ i = 2 ∧ v < 2048 ∨ i = 3 ∧ v < 131072 ∨ i = 4 ∧ v < 8388608) ∧ 0 ≤ v ∧ i ≤ 3) (fun (i, v) => 3 - i) (fun (i, v) => [(9, I i), (8, .st (.int .i64 v))]) (fun (i, v) => []) ((1, (a.toNat : Int) - 224)) [0, 1, 6, 7] [] [] rfl rfl rfl (.of [] (by (repeat' first | exact trivial | refine And.intro ?_ ?_ | rfl); first | done | fail) (by (repeat' first | exact trivial | refine And.intro ?_ ?_ | rfl); first | done | fail) rfl) ?_ ?_
    · exact ⟨hK.symm, by omega, by omega, by decide⟩
    rintro ⟨i, v⟩ ⟨g1, g2, g3, g4⟩
    refine nrm rfl rfl ?_
    rw [g1] at hw
    by_cases hi : i < 3
    · have hx := get_some (show p + i < s.size by omega)
      have hxl := (s.get! (p + i)).toNat_lt
      have hx' : s[((p : Int) + (i : Int)).toNat]? = some (s.get! (p + i)) := by rw [← hx]; congr 1
      rw [show 3 - i = (3 - (i + 1)) + 1 by omega, wLoop] at hw
      have hws := g1
      rw [show 3 - i = (3 - (i + 1)) + 1 by omega, wLoop] at hws
      generalize s.get! (p + i) = x at *
      by_cases hxx : x.toNat < 128 ∨ 191 < x.toNat
      · rw [if_pos hxx] at hw
        repeat' first | refine wr (by omega) ?_ | refine stp lay_ok rfl ?_ | refine fin ?_ | refine n_thn ?_ | refine n_blk ?_ | refine e_thn ?_ | refine e_hit ?_ | refine r_thn ?_ | refine r_blk ?_ | refine e_rr ?_ | refine r_rr ?_ | refine .seq ?_ | refine reg ?_ | refine .block ?_ | refine .skip ?_ | refine .ret ?_ | refine .exit ?_ | refine cndT rfl ?_ | refine c_dec rfl (fun hc => ?_) (fun hc => ?_) | (refine o_none rfl ?_; refine st_indexStr x lay_ok rfl rfl rfl rfl (by omega) hx' ?_) | refine gd rfl rfl rfl (fun hg => ?_) (fun hg => ?_) | fail
        all_goals first
          | (exfalso; omega)
          | (refine f_r [] rfl trivial rfl ⟨?_, rfl⟩; rw [hw]; rfl)
      · rw [if_neg hxx] at hw hws
        repeat' first | refine wr (by omega) ?_ | refine stp lay_ok rfl ?_ | refine fin ?_ | refine n_thn ?_ | refine n_blk ?_ | refine e_thn ?_ | refine e_hit ?_ | refine r_thn ?_ | refine r_blk ?_ | refine e_rr ?_ | refine r_rr ?_ | refine .seq ?_ | refine reg ?_ | refine .block ?_ | refine .skip ?_ | refine .ret ?_ | refine .exit ?_ | refine cndT rfl ?_ | refine c_dec rfl (fun hc => ?_) (fun hc => ?_) | (refine o_none rfl ?_; refine st_indexStr x lay_ok rfl rfl rfl rfl (by omega) hx' ?_) | refine gd rfl rfl rfl (fun hg => ?_) (fun hg => ?_) | fail
        all_goals first
          | (exfalso; omega)
          | skip
        refine n_rr ((i + 1, v * 64 + (x.toNat : Int) - 128)) ?_ (.of [] (by (repeat' first | exact trivial | refine And.intro ?_ ?_ | rfl); first | done | fail) (by (repeat' first | exact trivial | refine And.intro ?_ ?_ | rfl); first | done | fail) rfl) ?_
        · show 3 - (i + 1) < 3 - i; omega
        · exact ⟨hws, by omega, by omega, by omega⟩
    · have hi' : i = 3 := by omega
      subst hi'
      rw [Nat.sub_self, wLoop] at hw
      simp only at hw
      by_cases hv : v < ((2048 : Nat) : Int) ∨ 1114111 < v ∨ (55296 ≤ v ∧ v ≤ 57343) ∨ v = 65533
      · rw [if_pos hv] at hw
        repeat' first | refine stp lay_ok rfl ?_ | refine fin ?_ | refine n_thn ?_ | refine e_thn ?_ | refine e_hit ?_ | refine r_thn ?_ | refine e_rr ?_ | refine .seq ?_ | refine reg ?_ | refine .skip ?_ | refine .ret ?_ | refine .exit ?_ | refine cndT rfl ?_ | refine cndF rfl ?_ | refine c_dec rfl (fun hc => ?_) (fun hc => ?_) | refine gd rfl rfl rfl (fun hg => ?_) (fun hg => ?_) | fail
        all_goals first
          | (exfalso; omega)
          | (refine f_r [] rfl trivial rfl ⟨?_, rfl⟩; rw [hw]; rfl)
      · rw [if_neg hv] at hw
        repeat' first | refine stp lay_ok rfl ?_ | refine fin ?_ | refine n_thn ?_ | refine e_thn ?_ | refine e_hit ?_ | refine r_thn ?_ | refine e_rr ?_ | refine .seq ?_ | refine reg ?_ | refine .skip ?_ | refine .ret ?_ | refine .exit ?_ | refine cndT rfl ?_ | refine cndF rfl ?_ | refine c_dec rfl (fun hc => ?_) (fun hc => ?_) | refine gd rfl rfl rfl (fun hg => ?_) (fun hg => ?_) | fail
        all_goals first
          | (exfalso; omega)
          | (refine f_r [] rfl trivial rfl ⟨?_, rfl⟩; rw [hw]; rfl)
  rw [if_neg h3] at hw
  by_cases h4 : 240 ≤ a.toNat ∧ a.toNat < 248
  · rw [if_pos h4] at hw
    repeat' first | refine wr (by omega) ?_ | refine stp lay_ok rfl ?_ | refine fin ?_ | refine n_thn ?_ | refine n_blk ?_ | refine r_thn ?_ | refine r_blk ?_ | refine .seq ?_ | refine reg ?_ | refine .block ?_ | refine .skip ?_ | refine .ret ?_ | refine cndF rfl ?_ | refine c_dec rfl (fun hc => ?_) (fun hc => ?_) | (refine o_none rfl ?_; refine st_indexStr a lay_ok rfl rfl rfl rfl (by omega) ha ?_) | refine gd rfl rfl rfl (fun hg => ?_) (fun hg => ?_) | fail
    all_goals first
      | (exfalso; omega)
      | (refine f_r [] rfl trivial rfl ⟨?_, rfl⟩; rw [hw, wEnd, if_pos (by omega)]; rfl)
      | skip
    have hsz : ¬ s.size < p + 4 := by omega
    rw [wEnd, if_neg hsz] at hw
    generalize hK : wLoop s p (4 - 1) 1 ((a.toNat : Int) - 240) = K at hw
    refine lpR (fun (i, v) => K = wLoop s p (4 - i) i v ∧ (i = 1 ∧ v < 32 ∨ i = 2 ∧ v < 2048 ∨ i = 3 ∧ v < 131072 ∨ i = 4 ∧ v < 8388608) ∧ 0 ≤ v ∧ i ≤ 4) (fun (i, v) => 4 - i) (fun (i, v) => [(9, I i), (8, .st (.int .i64 v))]) (fun (i, v) => []) ((1, (a.toNat : Int) - 240)) [0, 1, 6, 7] [] [] rfl rfl rfl (.of [] (by (repeat' first | exact trivial | refine And.intro ?_ ?_ | rfl); first | done | fail) (by (repeat' first | exact trivial | refine And.intro ?_ ?_ | rfl); first | done | fail) rfl) ?_ ?_
    · exact ⟨hK.symm, by omega, by omega, by decide⟩
    rintro ⟨i, v⟩ ⟨g1, g2, g3, g4⟩
    refine nrm rfl rfl ?_
    rw [g1] at hw
    by_cases hi : i < 4
    · have hx := get_some (show p + i < s.size by omega)
      have hxl := (s.get! (p + i)).toNat_lt
      have hx' : s[((p : Int) + (i : Int)).toNat]? = some (s.get! (p + i)) := by rw [← hx]; congr 1
      rw [show 4 - i = (4 - (i + 1)) + 1 by omega, wLoop] at hw
      have hws := g1
      rw [show 4 - i = (4 - (i + 1)) + 1 by omega, wLoop] at hws
      generalize s.get! (p + i) = x at *
      by_cases hxx : x.toNat < 128 ∨ 191 < x.toNat
      · rw [if_pos hxx] at hw
        repeat' first | refine wr (by omega) ?_ | refine stp lay_ok rfl ?_ | refine fin ?_ | refine n_thn ?_ | refine n_blk ?_ | refine e_thn ?_ | refine e_hit ?_ | refine r_thn ?_ | refine r_blk ?_ | refine e_rr ?_ | refine r_rr ?_ | refine .seq ?_ | refine reg ?_ | refine .block ?_ | refine .skip ?_ | refine .ret ?_ | refine .exit ?_ | refine cndT rfl ?_ | refine c_dec rfl (fun hc => ?_) (fun hc => ?_) | (refine o_none rfl ?_; refine st_indexStr x lay_ok rfl rfl rfl rfl (by omega) hx' ?_) | refine gd rfl rfl rfl (fun hg => ?_) (fun hg => ?_) | fail
        all_goals first
          | (exfalso; omega)
          | (refine f_r [] rfl trivial rfl ⟨?_, rfl⟩; rw [hw]; rfl)
      · rw [if_neg hxx] at hw hws
        repeat' first | refine wr (by omega) ?_ | refine stp lay_ok rfl ?_ | refine fin ?_ | refine n_thn ?_ | refine n_blk ?_ | refine e_thn ?_ | refine e_hit ?_ | refine r_thn ?_ | refine r_blk ?_ | refine e_rr ?_ | refine r_rr ?_ | refine .seq ?_ | refine reg ?_ | refine .block ?_ | refine .skip ?_ | refine .ret ?_ | refine .exit ?_ | refine cndT rfl ?_ | refine c_dec rfl (fun hc => ?_) (fun hc => ?_) | (refine o_none rfl ?_; refine st_indexStr x lay_ok rfl rfl rfl rfl (by omega) hx' ?_) | refine gd rfl rfl rfl (fun hg => ?_) (fun hg => ?_) | fail
        all_goals first
          | (exfalso; omega)
          | skip
        refine n_rr ((i + 1, v * 64 + (x.toNat : Int) - 128)) ?_ (.of [] (by (repeat' first | exact trivial | refine And.intro ?_ ?_ | rfl); first | done | fail) (by (repeat' first | exact trivial | refine And.intro ?_ ?_ | rfl); first | done | fail) rfl) ?_
        · show 4 - (i + 1) < 4 - i; omega
        · exact ⟨hws, by omega, by omega, by omega⟩
    · have hi' : i = 4 := by omega
      subst hi'
      rw [Nat.sub_self, wLoop] at hw
      simp only at hw
      by_cases hv : v < ((65536 : Nat) : Int) ∨ 1114111 < v ∨ (55296 ≤ v ∧ v ≤ 57343) ∨ v = 65533
      · rw [if_pos hv] at hw
        repeat' first | refine stp lay_ok rfl ?_ | refine fin ?_ | refine n_thn ?_ | refine e_thn ?_ | refine e_hit ?_ | refine r_thn ?_ | refine e_rr ?_ | refine .seq ?_ | refine reg ?_ | refine .skip ?_ | refine .ret ?_ | refine .exit ?_ | refine cndT rfl ?_ | refine cndF rfl ?_ | refine c_dec rfl (fun hc => ?_) (fun hc => ?_) | refine gd rfl rfl rfl (fun hg => ?_) (fun hg => ?_) | fail
        all_goals first
          | (exfalso; omega)
          | (refine f_r [] rfl trivial rfl ⟨?_, rfl⟩; rw [hw]; rfl)
      · rw [if_neg hv] at hw
        repeat' first | refine stp lay_ok rfl ?_ | refine fin ?_ | refine n_thn ?_ | refine e_thn ?_ | refine e_hit ?_ | refine r_thn ?_ | refine e_rr ?_ | refine .seq ?_ | refine reg ?_ | refine .skip ?_ | refine .ret ?_ | refine .exit ?_ | refine cndT rfl ?_ | refine cndF rfl ?_ | refine c_dec rfl (fun hc => ?_) (fun hc => ?_) | refine gd rfl rfl rfl (fun hg => ?_) (fun hg => ?_) | fail
        all_goals first
          | (exfalso; omega)
          | (refine f_r [] rfl trivial rfl ⟨?_, rfl⟩; rw [hw]; rfl)
  rw [if_neg h4] at hw
  repeat' first | refine wr (by omega) ?_ | refine stp lay_ok rfl ?_ | refine fin ?_ | refine n_thn ?_ | refine n_blk ?_ | refine r_thn ?_ | refine r_blk ?_ | refine .seq ?_ | refine reg ?_ | refine .block ?_ | refine .skip ?_ | refine .ret ?_ | refine cndF rfl ?_ | refine c_dec rfl (fun hc => ?_) (fun hc => ?_) | (refine o_none rfl ?_; refine st_indexStr a lay_ok rfl rfl rfl rfl (by omega) ha ?_) | refine gd rfl rfl rfl (fun hg => ?_) (fun hg => ?_) | fail
  all_goals first
    | (exfalso; omega)
    | (refine f_r [] rfl trivial rfl ⟨?_, rfl⟩; rw [hw]; rfl)
end Go.Proofs.YtohmbpcjapjkbaaGreatDoorFn
namespace Go.Proofs.YtohmbpcjapjkbaaGreatDoorFn
open Go.Proofs.YtohmbpcjapjkbaaGreatDoorAl Go.Proofs.Tryz
/-! ### a character's bytes, read in two ways -/
def plainB (c : Nat) : Bool := decide (97 ≤ c ∧ c ≤ 122) || decide (48 ≤ c ∧ c ≤ 57) || decide (c = 95) || decide (c = 45) || decide (c = 46)
def okW (s : ByteArray) (p : Nat) : Bool := decide (1 < widthR s p) || (decide (widthR s p = 1) && plainB (s.get! p).toNat)
theorem mayR_hi {c : Nat} (h : 128 ≤ c) : mayR c = decide (c ≠ 65533) := by
  rw [Bool.eq_iff_iff]; simp only [mayR, Bool.or_eq_true, decide_eq_true_eq]; omega
theorem mayR_lo {c : Nat} (h : c < 128) : mayR c = plainB c := by
  rw [Bool.eq_iff_iff]; simp only [mayR, plainB, Bool.or_eq_true, decide_eq_true_eq]; omega
theorem dec_eq (s : ByteArray) (p : Nat) : Utf8.decode s p =
    if (s.get! p).toNat < 128 then ((s.get! p).toNat, 1)
    else if (s.get! p).toNat / 32 = 6 ∧ p + 1 < s.size ∧ (s.get! (p + 1)).toNat / 64 = 2 then
      if 128 ≤ ((s.get! p).toNat % 32) * 64 + (s.get! (p + 1)).toNat % 64 then (((s.get! p).toNat % 32) * 64 + (s.get! (p + 1)).toNat % 64, 2) else (65533, 1)
    else if (s.get! p).toNat / 16 = 14 ∧ (p + 1 < s.size ∧ (s.get! (p + 1)).toNat / 64 = 2) ∧ p + 2 < s.size ∧ (s.get! (p + 2)).toNat / 64 = 2 then
      if 2048 ≤ ((s.get! p).toNat % 16) * 4096 + ((s.get! (p + 1)).toNat % 64) * 64 + (s.get! (p + 2)).toNat % 64 ∧ Utf8.valid (((s.get! p).toNat % 16) * 4096 + ((s.get! (p + 1)).toNat % 64) * 64 + (s.get! (p + 2)).toNat % 64 : Nat) = true then (((s.get! p).toNat % 16) * 4096 + ((s.get! (p + 1)).toNat % 64) * 64 + (s.get! (p + 2)).toNat % 64, 3) else (65533, 1)
    else if (s.get! p).toNat / 8 = 30 ∧ (p + 1 < s.size ∧ (s.get! (p + 1)).toNat / 64 = 2) ∧ (p + 2 < s.size ∧ (s.get! (p + 2)).toNat / 64 = 2) ∧ p + 3 < s.size ∧ (s.get! (p + 3)).toNat / 64 = 2 then
      if 65536 ≤ ((s.get! p).toNat % 8) * 262144 + ((s.get! (p + 1)).toNat % 64) * 4096 + ((s.get! (p + 2)).toNat % 64) * 64 + (s.get! (p + 3)).toNat % 64 ∧ Utf8.valid (((s.get! p).toNat % 8) * 262144 + ((s.get! (p + 1)).toNat % 64) * 4096 + ((s.get! (p + 2)).toNat % 64) * 64 + (s.get! (p + 3)).toNat % 64 : Nat) = true then (((s.get! p).toNat % 8) * 262144 + ((s.get! (p + 1)).toNat % 64) * 4096 + ((s.get! (p + 2)).toNat % 64) * 64 + (s.get! (p + 3)).toNat % 64, 4) else (65533, 1)
    else (65533, 1) := by
  unfold Utf8.decode
  simp only [Bool.and_eq_true, decide_eq_true_eq, beq_iff_eq, Nat.add_zero, ge_iff_le, and_assoc]
  rfl
theorem valid_iff (c : Nat) : Utf8.valid (c : Int) = true ↔ c < 55296 ∨ (57344 ≤ c ∧ c ≤ 1114111) := by
  simp only [Utf8.valid, Bool.or_eq_true, Bool.and_eq_true, decide_eq_true_eq]; omega
theorem wid_law (s : ByteArray) (p : Nat) (hp : p < s.size) :
    (mayR (Utf8.decode s p).1 = true ∧ okW s p = true ∧ widthR s p = (Utf8.decode s p).2) ∨ (mayR (Utf8.decode s p).1 = false ∧ okW s p = false) := by
  have hd := dec_eq s p
  simp only [valid_iff] at hd
  have hw : widthR s p = if (s.get! p).toNat < 128 then 1
    else if 192 ≤ (s.get! p).toNat ∧ (s.get! p).toNat < 224 then wEnd s p 2 128 (((s.get! p).toNat : Int) - 192)
    else if 224 ≤ (s.get! p).toNat ∧ (s.get! p).toNat < 240 then wEnd s p 3 2048 (((s.get! p).toNat : Int) - 224)
    else if 240 ≤ (s.get! p).toNat ∧ (s.get! p).toNat < 248 then wEnd s p 4 65536 (((s.get! p).toNat : Int) - 240)
    else 0 := rfl
  have ho : okW s p = (decide (1 < widthR s p) || (decide (widthR s p = 1) && plainB (s.get! p).toNat)) := rfl
  have e2 : ∀ v, wEnd s p 2 128 v = if s.size < p + 2 then 0 else match wLoop s p 1 1 v with
    | none => 0
    | some v => if v < ((128 : Nat) : Int) ∨ 1114111 < v ∨ (55296 ≤ v ∧ v ≤ 57343) ∨ v = 65533 then 0 else 2 := fun v => rfl
  have e3 : ∀ v, wEnd s p 3 2048 v = if s.size < p + 3 then 0 else match wLoop s p 2 1 v with
    | none => 0
    | some v => if v < ((2048 : Nat) : Int) ∨ 1114111 < v ∨ (55296 ≤ v ∧ v ≤ 57343) ∨ v = 65533 then 0 else 3 := fun v => rfl
  have e4 : ∀ v, wEnd s p 4 65536 v = if s.size < p + 4 then 0 else match wLoop s p 3 1 v with
    | none => 0
    | some v => if v < ((65536 : Nat) : Int) ∨ 1114111 < v ∨ (55296 ≤ v ∧ v ≤ 57343) ∨ v = 65533 then 0 else 4 := fun v => rfl
  simp only [wLoop] at e2 e3 e4
  simp only [e2, e3, e4] at hw
  clear e2 e3 e4
  have b0 := (s.get! p).toNat_lt
  have b1 := (s.get! (p + 1)).toNat_lt
  have b2 := (s.get! (p + 2)).toNat_lt
  have b3 := (s.get! (p + 3)).toNat_lt
  simp only [show p + (1 + 1) = p + 2 from rfl, show p + (1 + 1 + 1) = p + 3 from rfl] at hw
  generalize (s.get! p).toNat = x0 at *
  generalize (s.get! (p + 1)).toNat = x1 at *
  generalize (s.get! (p + 2)).toNat = x2 at *
  generalize (s.get! (p + 3)).toNat = x3 at *
  generalize Utf8.decode s p = D at *
  generalize widthR s p = W at *
  generalize okW s p = O at *
  have hm : mayR 65533 = false := by decide
  by_cases h1 : x0 < 128
  · rw [if_pos h1] at hd hw
    subst hd; subst hw; subst ho
    simp only [mayR_lo h1]
    cases plainB x0 <;> simp
  rw [if_neg h1] at hd hw
  by_cases h2 : 192 ≤ x0 ∧ x0 < 224
  · rw [if_pos h2] at hw
    rw [if_neg (show ¬ (x0 / 16 = 14 ∧ _) by omega), if_neg (show ¬ (x0 / 8 = 30 ∧ _) by omega)] at hd
    by_cases hs : s.size < p + 2
    · rw [if_neg (by omega)] at hd
      rw [if_pos hs] at hw
      subst hd; subst hw; subst ho; right; exact ⟨hm, by simp⟩
    · rw [if_neg hs] at hw
      by_cases hx : x1 < 128 ∨ 191 < x1
      · rw [if_neg (by omega)] at hd
        rw [if_pos hx] at hw
        subst hd; subst hw; subst ho; right; exact ⟨hm, by simp⟩
      · rw [if_pos (by omega)] at hd
        rw [if_neg hx] at hw
        simp only at hw
        by_cases hv : 128 ≤ x0 % 32 * 64 + x1 % 64
        · rw [if_pos hv] at hd
          rw [if_neg (by omega)] at hw
          subst hd; subst hw; subst ho; left
          refine ⟨?_, by simp, rfl⟩
          rw [mayR_hi hv, decide_eq_true_eq]; omega
        · rw [if_neg hv] at hd
          rw [if_pos (by omega)] at hw
          subst hd; subst hw; subst ho; right; exact ⟨hm, by simp⟩
  rw [if_neg h2] at hw
  rw [if_neg (show ¬ (x0 / 32 = 6 ∧ _) by omega)] at hd
  by_cases h3 : 224 ≤ x0 ∧ x0 < 240
  · rw [if_pos h3] at hw
    rw [if_neg (show ¬ (x0 / 8 = 30 ∧ _) by omega)] at hd
    by_cases hs : s.size < p + 3
    · rw [if_neg (by omega)] at hd
      rw [if_pos hs] at hw
      subst hd; subst hw; subst ho; right; exact ⟨hm, by simp⟩
    · rw [if_neg hs] at hw
      by_cases hx : x1 < 128 ∨ 191 < x1
      · rw [if_neg (by omega)] at hd
        rw [if_pos hx] at hw
        subst hd; subst hw; subst ho; right; exact ⟨hm, by simp⟩
      rw [if_neg hx] at hw
      by_cases hy : x2 < 128 ∨ 191 < x2
      · rw [if_neg (by omega)] at hd
        rw [if_pos hy] at hw
        subst hd; subst hw; subst ho; right; exact ⟨hm, by simp⟩
      · rw [if_pos (by omega)] at hd
        rw [if_neg hy] at hw
        simp only at hw
        by_cases hv : 2048 ≤ x0 % 16 * 4096 + x1 % 64 * 64 + x2 % 64 ∧ (x0 % 16 * 4096 + x1 % 64 * 64 + x2 % 64 < 55296 ∨ 57344 ≤ x0 % 16 * 4096 + x1 % 64 * 64 + x2 % 64 ∧ x0 % 16 * 4096 + x1 % 64 * 64 + x2 % 64 ≤ 1114111)
        · rw [if_pos hv] at hd
          by_cases hf : x0 % 16 * 4096 + x1 % 64 * 64 + x2 % 64 = 65533
          · rw [if_pos (by omega)] at hw
            subst hd; subst hw; subst ho; right
            exact ⟨by rw [hf]; exact hm, by simp⟩
          · rw [if_neg (by omega)] at hw
            subst hd; subst hw; subst ho; left
            refine ⟨?_, by simp, rfl⟩
            rw [mayR_hi (by omega), decide_eq_true_eq]; exact hf
        · rw [if_neg hv] at hd
          rw [if_pos (by omega)] at hw
          subst hd; subst hw; subst ho; right; exact ⟨hm, by simp⟩
  rw [if_neg h3] at hw
  rw [if_neg (show ¬ (x0 / 16 = 14 ∧ _) by omega)] at hd
  by_cases h4 : 240 ≤ x0 ∧ x0 < 248
  · rw [if_pos h4] at hw
    by_cases hs : s.size < p + 4
    · rw [if_neg (by omega)] at hd
      rw [if_pos hs] at hw
      subst hd; subst hw; subst ho; right; exact ⟨hm, by simp⟩
    · rw [if_neg hs] at hw
      by_cases hx : x1 < 128 ∨ 191 < x1
      · rw [if_neg (by omega)] at hd
        rw [if_pos hx] at hw
        subst hd; subst hw; subst ho; right; exact ⟨hm, by simp⟩
      rw [if_neg hx] at hw
      by_cases hy : x2 < 128 ∨ 191 < x2
      · rw [if_neg (by omega)] at hd
        rw [if_pos hy] at hw
        subst hd; subst hw; subst ho; right; exact ⟨hm, by simp⟩
      rw [if_neg hy] at hw
      by_cases hz : x3 < 128 ∨ 191 < x3
      · rw [if_neg (by omega)] at hd
        rw [if_pos hz] at hw
        subst hd; subst hw; subst ho; right; exact ⟨hm, by simp⟩
      · rw [if_pos (by omega)] at hd
        rw [if_neg hz] at hw
        simp only at hw
        by_cases hv : 65536 ≤ x0 % 8 * 262144 + x1 % 64 * 4096 + x2 % 64 * 64 + x3 % 64 ∧ (x0 % 8 * 262144 + x1 % 64 * 4096 + x2 % 64 * 64 + x3 % 64 < 55296 ∨ 57344 ≤ x0 % 8 * 262144 + x1 % 64 * 4096 + x2 % 64 * 64 + x3 % 64 ∧ x0 % 8 * 262144 + x1 % 64 * 4096 + x2 % 64 * 64 + x3 % 64 ≤ 1114111)
        · rw [if_pos hv] at hd
          rw [if_neg (by omega)] at hw
          subst hd; subst hw; subst ho; left
          refine ⟨?_, by simp, rfl⟩
          rw [mayR_hi (by omega), decide_eq_true_eq]; omega
        · rw [if_neg hv] at hd
          rw [if_pos (by omega)] at hw
          subst hd; subst hw; subst ho; right; exact ⟨hm, by simp⟩
  · rw [if_neg h4] at hw
    rw [if_neg (by omega)] at hd
    subst hd; subst hw; subst ho; right; exact ⟨hm, by simp⟩
end Go.Proofs.YtohmbpcjapjkbaaGreatDoorFn
namespace Go.Proofs.YtohmbpcjapjkbaaGreatDoorFn
open Go.Proofs.YtohmbpcjapjkbaaGreatDoorAl Go.Proofs.Tryz
attribute [local irreducible] IntKind.wrap CodeOk OpsL OpG ACalls thn inBlk rndR cutR WkR Wk fnR DW ExtOk partsOf
theorem b178 : HasBody prog 178 := ⟨f178, func178, Option.some_ne_none _, by decide⟩
theorem b177 : HasBody prog 177 := ⟨f177, func177, Option.some_ne_none _, by decide⟩
theorem b148 : HasBody prog 148 := ⟨f148, func148, Option.some_ne_none _, by decide⟩
theorem b186 : HasBody prog 186 := ⟨f186, func186, Option.some_ne_none _, by decide⟩
set_option maxRecDepth 4000 in
theorem plain_ok (c : UInt8) : ACalls prog 205 0 [.st (.int .u8 (c.toNat : Int))] [] fun r h => r = B (plainB c.toNat) ∧ h = [] := by
  refine fnC lay_ok func205 rfl rfl rfl rfl rfl ?_
  repeat' first | refine stp lay_ok rfl ?_ | refine fin ?_ | refine n_thn ?_ | refine .seq ?_ | refine reg ?_ | refine .ret ?_ | refine gd rfl rfl rfl (fun hg => ?_) (fun hg => ?_) | fail
  all_goals
    refine f_r [] rfl trivial rfl ⟨?_, rfl⟩
    simp only [retOf, B, AV.st.injEq, SV.bool.injEq, plainB]
    first
      | (symm; simp; omega)
      | (rw [Bool.eq_iff_iff]; simp; omega)
set_option maxHeartbeats 4000000 in
set_option maxRecDepth 4000 in
theorem refPart_ok (s : ByteArray) (hs : s.size ≤ 4000000000) : ACalls prog 176 0 [Sx s] [] fun r h => r = B (partOk s) ∧ h = [] := by
  refine fnC lay_ok func176 rfl rfl rfl rfl rfl ?_
  repeat' first | refine stp lay_ok rfl ?_ | refine fin ?_ | refine n_thn ?_ | refine .seq ?_ | refine reg ?_ | refine .block ?_ | fail
  refine lpR (fun (p, n, f) => n + f = s.size + 1 ∧ s.size + 1 ≤ p + f ∧ n ≤ p ∧ p ≤ s.size ∧ runs s (s.size + 1) 0 = (runs s f p).map (· + n)) (fun (p, n, f) => f) (fun (p, n, f) => [(3, I (n : Int)), (4, I (p : Int))]) (fun (p, n, f) => []) ((0, 0, s.size + 1)) [0] [] [] rfl rfl rfl (.of [] (by (repeat' first | exact trivial | refine And.intro ?_ ?_ | rfl); first | done | fail) (by (repeat' first | exact trivial | refine And.intro ?_ ?_ | rfl); first | done | fail) rfl) ?_ ?_
  · refine ⟨by omega, by omega, Nat.le_refl _, Nat.zero_le _, ?_⟩
    simp
  · rintro ⟨p, n, f⟩ ⟨hf, hpf, hnp, hps, hr⟩
    refine nrm rfl rfl ?_
    by_cases hp : p < s.size
    · obtain ⟨f', rfl⟩ : ∃ f', f = f' + 1 := ⟨f - 1, by omega⟩
      have hw := width_ok s p hs hp
      have hrun : runs s (f' + 1) p = if mayR (Utf8.decode s p).1 then (runs s f' (p + (Utf8.decode s p).2)).map (· + 1) else none := by rw [runs, if_pos hp]
      have hx := get_some hp
      have hpl := plain_ok (s.get! p)
      have hl := wid_law s p hp
      have hle : p + widthR s p ≤ s.size := by
        have : ∀ n l v, wEnd s p n l v = 0 ∨ p + wEnd s p n l v ≤ s.size := by
          intro n l v
          unfold wEnd
          split
          · exact .inl rfl
          · split
            · exact .inl rfl
            · split
              · exact .inl rfl
              · right; omega
        unfold widthR
        split
        · omega
        split
        · rcases this 2 128 (((s.get! p).toNat : Int) - 192) with h | h <;> omega
        split
        · rcases this 3 2048 (((s.get! p).toNat : Int) - 224) with h | h <;> omega
        split
        · rcases this 4 65536 (((s.get! p).toNat : Int) - 240) with h | h <;> omega
        · omega
      have ho : okW s p = (decide (1 < widthR s p) || (decide (widthR s p = 1) && plainB (s.get! p).toNat)) := rfl
      have hw1 := decode_pos s p
      generalize okW s p = O at *
      generalize widthR s p = w at *
      generalize s.get! p = x at *
      generalize (Utf8.decode s p).1 = c at *
      generalize (Utf8.decode s p).2 = w' at *
      rcases hl with ⟨h1, rfl, rfl⟩ | ⟨h1, rfl⟩
      · rw [h1, if_pos rfl] at hrun
        cases hb : plainB x.toNat <;> rw [hb] at hpl ho
        all_goals
          have ho2 : 1 < w ∨ (w = 1 ∧ plainB x.toNat = true) := by
            rw [hb]; simpa using ho
          repeat' first | refine wr (by omega) ?_ | refine stp lay_ok rfl ?_ | refine fin ?_ | refine n_thn ?_ | refine n_blk ?_ | refine e_thn ?_ | refine e_hit ?_ | refine r_thn ?_ | refine r_blk ?_ | refine e_rr ?_ | refine r_rr ?_ | refine .seq ?_ | refine reg ?_ | refine .block ?_ | refine .skip ?_ | refine .ret ?_ | refine .exit ?_ | refine cndT rfl ?_ | refine cndF rfl ?_ | refine c_dec rfl (fun hc => ?_) (fun hc => ?_) | ((first | refine o_none rfl ?_ | refine o_yes rfl rfl rfl ?_); (first | refine st_pure (hw) b204 rfl rfl rfl rfl ?_ | refine st_indexStr x lay_ok rfl rfl rfl rfl (by omega) hx ?_ | refine st_pure (hpl) b205 rfl rfl rfl rfl ?_)) | refine gd rfl rfl rfl (fun hg => ?_) (fun hg => ?_) | fail
          all_goals first
            | (exfalso; omega)
            | (exfalso; rw [hb] at ho2; simp at ho2; omega)
            | (refine n_rr ((p + w, n + 1, f')) ?_ (.of [] (by (repeat' first | exact trivial | refine And.intro ?_ ?_ | rfl); first | done | fail) (by (repeat' first | exact trivial | refine And.intro ?_ ?_ | rfl); first | done | fail) rfl) ?_
               · exact Nat.lt_succ_self _
               · refine ⟨by omega, by omega, by omega, by omega, ?_⟩
                 rw [hr, hrun]
                 cases runs s f' (p + w) with
                 | none => rfl
                 | some k => simp only [Option.map_some]; congr 1; omega)
      · have hrun2 : runs s (f' + 1) p = none := by rw [hrun, h1, if_neg (by simp)]
        have hpo : partOk s = false := by unfold partOk; rw [hr, hrun2]; rfl
        cases hb : plainB x.toNat <;> rw [hb] at hpl ho
        all_goals
          have ho2 : ¬ 1 < w ∧ ¬ (w = 1 ∧ plainB x.toNat = true) := by
            rw [hb]
            have := ho.symm
            simp only [Bool.or_eq_false_iff, Bool.and_eq_false_iff, decide_eq_false_iff_not] at this
            refine ⟨this.1, fun h => ?_⟩
            rcases this.2 with h3 | h3
            · exact h3 h.1
            · first
              | (cases h3; done)
              | (exact absurd h.2 (by decide))
              | simp_all
          rw [hb] at ho2
          repeat' first | refine wr (by omega) ?_ | refine stp lay_ok rfl ?_ | refine fin ?_ | refine n_thn ?_ | refine n_blk ?_ | refine e_thn ?_ | refine e_hit ?_ | refine r_thn ?_ | refine r_blk ?_ | refine e_rr ?_ | refine r_rr ?_ | refine .seq ?_ | refine reg ?_ | refine .block ?_ | refine .skip ?_ | refine .ret ?_ | refine .exit ?_ | refine cndT rfl ?_ | refine cndF rfl ?_ | refine c_dec rfl (fun hc => ?_) (fun hc => ?_) | ((first | refine o_none rfl ?_ | refine o_yes rfl rfl rfl ?_); (first | refine st_pure (hw) b204 rfl rfl rfl rfl ?_ | refine st_indexStr x lay_ok rfl rfl rfl rfl (by omega) hx ?_ | refine st_pure (hpl) b205 rfl rfl rfl rfl ?_)) | refine gd rfl rfl rfl (fun hg => ?_) (fun hg => ?_) | fail
          all_goals first
            | (exfalso; omega)
            | (refine f_r [] rfl trivial rfl ⟨?_, rfl⟩; rw [hpo]; rfl)
            | (exfalso; simp at ho2; omega)
    · have hpe : p = s.size := by omega
      have hend : partOk s = (decide (1 ≤ n ∧ n ≤ 16) && decide (s ≠ ⟨#[46]⟩) && decide (s ≠ ⟨#[46, 46]⟩)) := by
        have : runs s f p = some 0 := by
          cases f with
          | zero => rfl
          | succ f => rw [runs, if_neg hp]
        unfold partOk
        rw [hr, this]
        simp only [Option.map_some, Nat.zero_add]
      repeat' first | refine stp lay_ok rfl ?_ | refine fin ?_ | refine n_thn ?_ | refine e_thn ?_ | refine e_hit ?_ | refine e_rr ?_ | refine .seq ?_ | refine reg ?_ | refine .block ?_ | refine .skip ?_ | refine .ret ?_ | refine .exit ?_ | refine c_dec rfl (fun hc => ?_) (fun hc => ?_) | refine gd rfl rfl rfl (fun hg => ?_) (fun hg => ?_) | fail
      all_goals first
        | (exfalso; omega)
        | (refine f_r [] rfl trivial rfl ⟨?_, rfl⟩
           rw [hend]
           simp only [retOf, B, AV.st.injEq, SV.bool.injEq]
           first
             | (rw [decide_eq_true (p := 1 ≤ n ∧ n ≤ 16) (by omega), decide_eq_true (p := s ≠ ⟨#[46]⟩) (by assumption)]; rfl)
             | (rw [decide_eq_true (p := 1 ≤ n ∧ n ≤ 16) (by omega), decide_eq_false (p := s ≠ ⟨#[46]⟩) (by assumption)]; rfl)
             | (rw [decide_eq_false (p := 1 ≤ n ∧ n ≤ 16) (by omega)]; rfl))
end Go.Proofs.YtohmbpcjapjkbaaGreatDoorFn
namespace Go.Proofs.YtohmbpcjapjkbaaGreatDoorFn
open Go.Proofs.YtohmbpcjapjkbaaGreatDoorAl Go.Proofs.Tryz
theorem ext_drop (s : ByteArray) (a : Nat) : (s.extract a s.size).data.toList = s.data.toList.drop a := by
  rw [ext_list, List.take_of_length_le (by rw [Array.length_toList]; exact Nat.le_refl _)]
end Go.Proofs.YtohmbpcjapjkbaaGreatDoorFn
namespace Go.Proofs.YtohmbpcjapjkbaaGreatDoorFn
open Go.Proofs.YtohmbpcjapjkbaaGreatDoorAl Go.Proofs.Tryz
attribute [local irreducible] IntKind.wrap CodeOk OpsL OpG ACalls thn inBlk rndR cutR WkR Wk fnR DW ExtOk partsOf
theorem spl_step : ∀ (l : List UInt8) (m : Nat), (∀ j, j < m → l[j]? ≠ some 47) → l[m]? = some 47 → spl l = l.take m :: spl (l.drop (m + 1))
  | [], m, _, h => by simp at h
  | b :: r, 0, _, h => by
    simp at h; subst h
    simp [spl]
  | b :: r, m + 1, h1, h => by
    have hb : b ≠ 47 := by
      have := h1 0 (by omega); simpa using this
    have ih := spl_step r m (fun j hj => by have := h1 (j + 1) (by omega); simpa using this) (by simpa using h)
    simp only [spl, hb, if_false, ih, List.take_succ_cons, List.drop_succ_cons]
theorem spl_end : ∀ (l : List UInt8), (∀ j : Nat, l[j]? ≠ some 47) → spl l = [l]
  | [], _ => rfl
  | b :: r, h => by
    have hb : b ≠ 47 := by have := h 0; simpa using this
    have ih := spl_end r (fun j => by have := h (j + 1); simpa using this)
    simp only [spl, hb, if_false, ih]
theorem data_get (s : ByteArray) (j : Nat) : s.data.toList[j]? = s[j]? := by
  by_cases h : j < s.size
  · rw [getElem?_pos s j h, List.getElem?_eq_getElem (by rw [Array.length_toList]; exact h)]
    simp; rfl
  · rw [getElem?_neg s j h, List.getElem?_eq_none (by rw [Array.length_toList]; show s.size ≤ j; omega)]
theorem partsOf_step {s : ByteArray} {a i : Nat} (hai : a ≤ i) (hn : ∀ j, a ≤ j → j < i → s[j]? ≠ some 47) (h : s[i]? = some 47) :
    partsOf (s.extract a s.size) = s.extract a i :: partsOf (s.extract (i + 1) s.size) := by
  unfold partsOf
  rw [ext_drop, ext_drop]
  have h1 := spl_step (s.data.toList.drop a) (i - a) (fun j hj => by
    rw [List.getElem?_drop, data_get]; exact hn _ (by omega) (by omega)) (by
    rw [List.getElem?_drop, data_get, show a + (i - a) = i by omega]; exact h)
  rw [h1, List.map_cons, List.drop_drop, show a + (i - a + 1) = i + 1 by omega]
  congr 1
  have := ext_list s a i
  rw [List.drop_take] at this
  rw [← this, Array.toArray_toList]
theorem partsOf_end {s : ByteArray} {a : Nat} (hn : ∀ j, a ≤ j → j < s.size → s[j]? ≠ some 47) : partsOf (s.extract a s.size) = [s.extract a s.size] := by
  have h1 := spl_end (s.extract a s.size).data.toList (fun j => by
    rw [ext_drop, List.getElem?_drop, data_get]
    by_cases h : a + j < s.size
    · exact hn _ (by omega) h
    · rw [getElem?_neg s _ h]; simp)
  unfold partsOf
  rw [h1, List.map_cons, List.map_nil, Array.toArray_toList]
set_option maxHeartbeats 4000000 in
set_option maxRecDepth 4000 in
theorem refSplit_ok (s : ByteArray) (hs : s.size ≤ 4000000000 - 1) : ACalls prog 178 0 [Sx s] [] fun r h => r = .st (.sl 1 ((partsOf s).map rowS)) ∧ h = [] := by
  refine fnC lay_ok func178 rfl rfl rfl rfl rfl ?_
  repeat' first | refine stp lay_ok rfl ?_ | refine fin ?_ | refine n_thn ?_ | refine .seq ?_ | refine reg ?_ | refine .block ?_ | fail
  refine CodeOk.wk (Wk.nilT 1 3 rfl rfl) (Nat.le_succ _) ?_
  refine nrm rfl rfl ?_
  refine lpR (fun (out, a, i) => (i ≤ s.size ∧ a ≤ i ∧ out.length ≤ a ∧ partsOf s = out ++ partsOf (s.extract a s.size) ∧ ∀ j, a ≤ j → j < i → s[j]? ≠ some 47) ∨ (i = s.size + 1 ∧ partsOf s = out)) (fun (out, a, i) => s.size + 1 - i) (fun (out, a, i) => [(3, .lsl 1 1 0 (out.map rowS).length), (4, I (a : Int)), (5, I (i : Int))]) (fun (out, a, i) => [(1, .arr 1 (out.map rowS))]) (([], 0, 0)) [0] [] [0] rfl rfl rfl (.of [0] (by (repeat' first | exact trivial | refine And.intro ?_ ?_ | rfl); first | done | fail) (by (repeat' first | exact trivial | refine And.intro ?_ ?_ | rfl); first | done | fail) rfl) ?_ ?_
  · left
    refine ⟨Nat.zero_le _, Nat.le_refl _, Nat.le_refl _, ?_, fun j h1 h2 => by omega⟩
    rw [List.nil_append, ByteArray.extract_zero_size]
  rintro ⟨out, a, i⟩ hinv
  refine nrm rfl rfl ?_
  have hm : (List.map rowS out).length = out.length := List.length_map _
  have hr : ∀ x : ByteArray, List.map rowS out ++ [[SV.str x]] = List.map rowS (out ++ [x]) := fun x => by rw [List.map_append]; rfl
  rcases hinv with ⟨h1, h2, h3, h4, h5⟩ | ⟨h1, h2⟩
  · by_cases hi : i < s.size
    · have hx := get_some hi
      generalize s.get! i = x at *
      by_cases h47 : x = 47
      · subst h47
        have hp := partsOf_step h2 h5 hx
        repeat' first | refine wr (by omega) ?_ | refine stp lay_ok rfl ?_ | refine fin ?_ | refine n_thn ?_ | refine n_blk ?_ | refine e_thn ?_ | refine e_hit ?_ | refine e_rr ?_ | refine .seq ?_ | refine reg ?_ | refine .block ?_ | refine .skip ?_ | refine .ret ?_ | refine .exit ?_ | refine cndT rfl ?_ | refine c_dec rfl (fun hc => ?_) (fun hc => ?_) | ((first | refine o_none rfl ?_ | refine o_yes rfl rfl rfl ?_); (first | refine st_indexStr 47 lay_ok rfl rfl rfl rfl (by omega) hx ?_ | refine st_subS a i lay_ok rfl rfl rfl ⟨_, _, rfl, rfl⟩ ⟨_, _, rfl, rfl⟩ h2 (by omega) ?_ | refine st_append lay_ok rfl rfl rfl rfl rfl rfl rfl rfl (.lsl rfl rfl) .sl rfl (one_s (s.extract a i)) (by simp only [List.length_cons, List.length_nil]; omega) (by simp only [List.length_cons, List.length_nil]; omega) ?_)) | refine gd rfl rfl rfl (fun hg => ?_) (fun hg => ?_) | fail
        all_goals first
          | (exfalso; omega)
          | (exfalso; simp_all; done)
          | skip
        rw [hr]
        refine n_rr ((out ++ [s.extract a i], i + 1, i + 1)) ?_ (.of [2] (by (repeat' first | exact trivial | refine And.intro ?_ ?_ | rfl); first | done | fail) (by (repeat' first | exact trivial | refine And.intro ?_ ?_ | rfl); first | done | fail) rfl) ?_
        · show s.size + 1 - (i + 1) < s.size + 1 - i; omega
        · left
          exact ⟨hi, Nat.le_refl _, by simp; omega, by rw [h4, hp]; simp, fun j g1 g2 => by omega⟩
      · have hxn : x.toNat ≠ 47 := fun e => h47 (UInt8.toNat.inj (by rw [e]; rfl))
        repeat' first | refine wr (by omega) ?_ | refine stp lay_ok rfl ?_ | refine fin ?_ | refine n_thn ?_ | refine n_blk ?_ | refine e_thn ?_ | refine e_hit ?_ | refine e_rr ?_ | refine .seq ?_ | refine reg ?_ | refine .block ?_ | refine .skip ?_ | refine .ret ?_ | refine .exit ?_ | refine cndT rfl ?_ | refine c_dec rfl (fun hc => ?_) (fun hc => ?_) | ((first | refine o_none rfl ?_ | refine o_yes rfl rfl rfl ?_); refine st_indexStr x lay_ok rfl rfl rfl rfl (by omega) hx ?_) | refine gd rfl rfl rfl (fun hg => ?_) (fun hg => ?_) | fail
        all_goals first
          | (exfalso; omega)
          | skip
        refine n_rr ((out, a, i + 1)) ?_ (.of [1] (by (repeat' first | exact trivial | refine And.intro ?_ ?_ | rfl); first | done | fail) (by (repeat' first | exact trivial | refine And.intro ?_ ?_ | rfl); first | done | fail) rfl) ?_
        · show s.size + 1 - (i + 1) < s.size + 1 - i; omega
        · left
          refine ⟨hi, by omega, h3, h4, fun j g1 g2 => ?_⟩
          by_cases hj : j = i
          · subst hj; rw [hx]; intro e; exact h47 (Option.some.inj e)
          · exact h5 j g1 (by omega)
    · have hie : i = s.size := by omega
      subst hie
      have hp := partsOf_end h5
      repeat' first | refine wr (by omega) ?_ | refine stp lay_ok rfl ?_ | refine fin ?_ | refine n_thn ?_ | refine n_blk ?_ | refine e_thn ?_ | refine e_hit ?_ | refine e_rr ?_ | refine .seq ?_ | refine reg ?_ | refine .block ?_ | refine .skip ?_ | refine .ret ?_ | refine .exit ?_ | refine cndT rfl ?_ | refine c_dec rfl (fun hc => ?_) (fun hc => ?_) | ((first | refine o_none rfl ?_ | refine o_yes rfl rfl rfl ?_); (first | refine st_subS a s.size lay_ok rfl rfl rfl ⟨_, _, rfl, rfl⟩ ⟨_, _, rfl, rfl⟩ h2 (Nat.le_refl _) ?_ | refine st_append lay_ok rfl rfl rfl rfl rfl rfl rfl rfl (.lsl rfl rfl) .sl rfl (one_s (s.extract a s.size)) (by simp only [List.length_cons, List.length_nil]; omega) (by simp only [List.length_cons, List.length_nil]; omega) ?_)) | refine gd rfl rfl rfl (fun hg => ?_) (fun hg => ?_) | fail
      all_goals first
        | (exfalso; omega)
        | skip
      rw [hr]
      refine n_rr ((out ++ [s.extract a s.size], s.size + 1, s.size + 1)) ?_ (.of [2] (by (repeat' first | exact trivial | refine And.intro ?_ ?_ | rfl); first | done | fail) (by (repeat' first | exact trivial | refine And.intro ?_ ?_ | rfl); first | done | fail) rfl) ?_
      · show s.size + 1 - (s.size + 1) < s.size + 1 - s.size; omega
      · right
        exact ⟨rfl, by rw [h4, hp]⟩
  · subst h1
    repeat' first | refine stp lay_ok rfl ?_ | refine fin ?_ | refine n_thn ?_ | refine e_thn ?_ | refine e_hit ?_ | refine e_rr ?_ | refine .seq ?_ | refine reg ?_ | refine .block ?_ | refine .skip ?_ | refine .ret ?_ | refine .exit ?_ | refine cndT rfl ?_ | refine c_dec rfl (fun hc => ?_) (fun hc => ?_) | refine gd rfl rfl rfl (fun hg => ?_) (fun hg => ?_) | fail
    all_goals first
      | (exfalso; omega)
      | skip
    refine f_end (n0 := 0) (t'' := [(2, .st (.sl 1 (out.map rowS)))]) (h'' := []) (Wk.then (Wk.frz 1 [2] rfl rfl rfl (by (repeat' first | exact trivial | refine And.intro ?_ ?_ | rfl); first | done | fail) (by (repeat' first | exact trivial | refine And.intro ?_ ?_ | rfl); first | done | fail) rfl rfl) (WkR.of [] (by (repeat' first | exact trivial | refine And.intro ?_ ?_ | rfl); first | done | fail) (by (repeat' first | exact trivial | refine And.intro ?_ ?_ | rfl); first | done | fail) rfl)) rfl rfl ⟨?_, rfl⟩
    rw [h2]; rfl
end Go.Proofs.YtohmbpcjapjkbaaGreatDoorFn
namespace Go.Proofs.YtohmbpcjapjkbaaGreatDoorFn
open Go.Proofs.YtohmbpcjapjkbaaGreatDoorAl Go.Proofs.Tryz
attribute [local irreducible] IntKind.wrap CodeOk OpsL OpG ACalls thn inBlk rndR cutR WkR Wk fnR DW ExtOk partsOf
def partsB (l : List ByteArray) : Bool := decide (1 ≤ l.length ∧ l.length ≤ 8) && l.all partOk
theorem refParts_ok (l : List ByteArray) (hl : l.length ≤ 4000000000) (hs : ∀ s ∈ l, s.size ≤ 4000000000) : ACalls prog 177 0 [.st (.sl 1 (l.map rowS))] [] fun r h => r = B (partsB l) ∧ h = [] := by
  have hm : (List.map rowS l).length = l.length := List.length_map _
  have hpb : partsB l = (decide (1 ≤ l.length ∧ l.length ≤ 8) && l.all partOk) := rfl
  generalize partsB l = W at *
  refine fnC lay_ok func177 rfl rfl rfl rfl rfl ?_
  repeat' first | refine ln ?_ | refine stp lay_ok rfl ?_ | refine fin ?_ | refine n_thn ?_ | refine r_thn ?_ | refine .seq ?_ | refine reg ?_ | refine .block ?_ | refine .skip ?_ | refine .ret ?_ | refine cndT rfl ?_ | refine c_dec rfl (fun hc => ?_) (fun hc => ?_) | refine gd rfl rfl rfl (fun hg => ?_) (fun hg => ?_) | fail
  · refine f_r [] rfl trivial rfl ⟨?_, rfl⟩
    rw [hpb, decide_eq_false (by omega)]; rfl
  · refine f_r [] rfl trivial rfl ⟨?_, rfl⟩
    rw [hpb, decide_eq_false (by omega)]; rfl
  · rw [decide_eq_true (by omega), Bool.true_and] at hpb
    refine lpR (fun k => k ≤ l.length ∧ (l.take k).all partOk = true) (fun k => l.length - k) (fun k => [(3, I k)]) (fun k => []) (0) [0] [] [] rfl rfl rfl (.of [] (by (repeat' first | exact trivial | refine And.intro ?_ ?_ | rfl); first | done | fail) (by (repeat' first | exact trivial | refine And.intro ?_ ?_ | rfl); first | done | fail) rfl) ?_ ?_
    · exact ⟨Nat.zero_le _, rfl⟩
    rintro k ⟨h1, h2⟩
    refine nrm rfl rfl ?_
    repeat' first | refine ln ?_ | refine stp lay_ok rfl ?_ | refine fin ?_ | refine n_thn ?_ | refine e_thn ?_ | refine e_hit ?_ | refine e_rr ?_ | refine .seq ?_ | refine reg ?_ | refine .block ?_ | refine .skip ?_ | refine .ret ?_ | refine .exit ?_ | refine c_dec rfl (fun hc => ?_) (fun hc => ?_) | fail
    · have hk : k < l.length := by omega
      have hat := at_rowS hk
      have hp := refPart_ok l[k] (hs _ (List.getElem_mem hk))
      have ha := all_take (p := partOk) hk
      have hna := all_not (p := partOk) hk
      generalize l[k] = x at *
      cases hb : partOk x <;> rw [hb] at hp ha hna
      · repeat' first | refine stp lay_ok rfl ?_ | refine fin ?_ | refine n_thn ?_ | refine r_thn ?_ | refine r_blk ?_ | refine r_rr ?_ | refine .seq ?_ | refine reg ?_ | refine .ret ?_ | refine cndT rfl ?_ | (refine o_none rfl ?_; (first | refine st_index (rowS x) lay_ok rfl rfl rfl rfl (by omega) hat ?_ | refine st_pure (hp) b176 rfl rfl rfl rfl ?_)) | fail
        refine f_r [] rfl trivial rfl ⟨?_, rfl⟩
        rw [hpb, hna rfl]; rfl
      · repeat' first | refine wr (by omega) ?_ | refine stp lay_ok rfl ?_ | refine fin ?_ | refine n_thn ?_ | refine n_blk ?_ | refine .seq ?_ | refine reg ?_ | refine .skip ?_ | refine cndF rfl ?_ | (refine o_none rfl ?_; (first | refine st_index (rowS x) lay_ok rfl rfl rfl rfl (by omega) hat ?_ | refine st_pure (hp) b176 rfl rfl rfl rfl ?_)) | fail
        refine n_rr (k + 1) ?_ (.of [] (by (repeat' first | exact trivial | refine And.intro ?_ ?_ | rfl); first | done | fail) (by (repeat' first | exact trivial | refine And.intro ?_ ?_ | rfl); first | done | fail) rfl) ?_
        · omega
        · exact ⟨hk, by rw [ha, h2]; rfl⟩
    · have hk : k = l.length := by omega
      subst hk
      rw [List.take_length] at h2
      refine f_r [] rfl trivial rfl ⟨?_, rfl⟩
      rw [hpb, h2]; rfl
theorem parts_le (s : ByteArray) : (partsOf s).length ≤ s.size + 1 := by
  rw [parts_len]
  have := List.count_le_length (a := (47 : UInt8)) (l := s.data.toList)
  rw [Array.length_toList] at this
  have e : s.data.size = s.size := rfl
  omega
theorem parts_pos1 (s : ByteArray) : 1 ≤ (partsOf s).length := by rw [parts_len]; omega
theorem partsB_path (s : ByteArray) : partsB (partsOf s) = pathOk s := by
  have := parts_pos1 s
  unfold partsB pathOk
  congr 1
  rw [Bool.eq_iff_iff, decide_eq_true_eq, decide_eq_true_eq]; omega
theorem refPartsOf_ok (s : ByteArray) (hs : s.size ≤ 4000000000 - 1) : ACalls prog 177 0 [.st (.sl 1 ((partsOf s).map rowS))] [] fun r h => r = B (pathOk s) ∧ h = [] := by
  have := parts_le s
  have h2 := refParts_ok (partsOf s) (by omega) (fun x hx => by have := parts_size s x hx; omega)
  rw [partsB_path] at h2
  exact h2
theorem refPath_ok (s : ByteArray) (hs : s.size ≤ 4000000000 - 1) : ACalls prog 148 0 [Sx s] [] fun r h => r = B (pathOk s) ∧ h = [] := by
  have h1 := refSplit_ok s hs
  have h2 := refPartsOf_ok s hs
  refine fnC lay_ok func148 rfl rfl rfl rfl rfl ?_
  repeat' first | refine stp lay_ok rfl ?_ | refine fin ?_ | refine n_thn ?_ | refine .seq ?_ | refine reg ?_ | refine .ret ?_ | (refine o_none rfl ?_; (first | refine st_pure (h1) b178 rfl rfl rfl rfl ?_ | refine st_pure (h2) b177 rfl rfl rfl rfl ?_)) | fail
  refine f_r [] rfl trivial rfl ⟨?_, rfl⟩; rfl
/-! ### under: by parts, and by the text ahead -/
def joi : List (List UInt8) → List UInt8
  | [] => []
  | [x] => x
  | x :: y :: r => x ++ 47 :: joi (y :: r)
theorem joi_spl : ∀ l : List UInt8, joi (spl l) = l
  | [] => rfl
  | b :: r => by
    have ih := joi_spl r
    have hne := spl_ne r
    by_cases hb : b = 47
    · subst hb
      simp only [spl, if_true]
      cases h : spl r with
      | nil => exact absurd h hne
      | cons x xs =>
        rw [h] at ih
        simp only [joi, List.nil_append, ih]
    · simp only [spl, hb, if_false]
      cases h : spl r with
      | nil => exact absurd h hne
      | cons x xs =>
        rw [h] at ih
        cases xs with
        | nil => simp only [joi] at ih ⊢; rw [ih]
        | cons y ys => simp only [joi, List.cons_append] at ih ⊢; rw [ih]
theorem spl_app : ∀ (a b : List UInt8), spl (a ++ 47 :: b) = spl a ++ spl b
  | [], b => by simp [spl]
  | x :: a, b => by
    have ih := spl_app a b
    have hne := spl_ne a
    by_cases hx : x = 47
    · subst hx; simp only [List.cons_append, spl, if_true, ih]
    · simp only [List.cons_append, spl, hx, if_false, ih]
      cases h : spl a with
      | nil => exact absurd h hne
      | cons y ys => rfl
theorem joi_app : ∀ (a b : List (List UInt8)), a ≠ [] → b ≠ [] → joi (a ++ b) = joi a ++ 47 :: joi b
  | [], b, h, _ => absurd rfl h
  | [x], b, _, hb => by
    cases b with
    | nil => exact absurd rfl hb
    | cons y r => rfl
  | x :: y :: r, b, _, hb => by
    have ih := joi_app (y :: r) b (by simp) hb
    simp only [List.cons_append, joi] at ih ⊢
    rw [ih, List.append_assoc]; rfl
theorem pre_list (d s : ByteArray) : ((d ++ slash).size ≤ s.size ∧ s.extract 0 (d ++ slash).size = d ++ slash) ↔ ∃ t, s.data.toList = d.data.toList ++ 47 :: t := by
  have hds : (d ++ slash).data.toList = d.data.toList ++ [47] := by simp [ByteArray.data_append]
  have hsz : (d ++ slash).size = d.data.toList.length + 1 := by
    rw [ByteArray.size_append, Array.length_toList]; rfl
  have hss : s.size = s.data.toList.length := by rw [Array.length_toList]; rfl
  constructor
  · rintro ⟨h1, h2⟩
    have h3 := congrArg (fun b : ByteArray => b.data.toList) h2
    rw [ext_list, List.drop_zero, hds] at h3
    refine ⟨s.data.toList.drop (d ++ slash).size, ?_⟩
    conv => lhs; rw [← List.take_append_drop (d ++ slash).size s.data.toList, h3]
    simp
  · rintro ⟨t, h⟩
    refine ⟨by rw [hsz, hss, h]; simp, ?_⟩
    apply ByteArray.ext
    apply Array.toList_inj.1
    rw [ext_list, List.drop_zero, hds, h, hsz, show d.data.toList ++ 47 :: t = (d.data.toList ++ [47]) ++ t by simp]
    exact List.take_left' (by simp)
theorem under_law (d s : ByteArray) : (∃ t, s.data.toList = d.data.toList ++ 47 :: t) ↔ (partsOf d).length < (partsOf s).length ∧ partsOf d = (partsOf s).take (partsOf d).length := by
  unfold partsOf
  rw [List.length_map, List.length_map, ← List.map_take]
  have hinj : ∀ a b : List (List UInt8), a.map (fun l => (⟨l.toArray⟩ : ByteArray)) = b.map (fun l => (⟨l.toArray⟩ : ByteArray)) → a = b := by
    intro a b h
    have := congrArg (List.map fun b : ByteArray => b.data.toList) h
    simpa [List.map_map, Function.comp_def] using this
  constructor
  · rintro ⟨t, h⟩
    rw [h, spl_app]
    have hne := spl_ne t
    have hpos : 0 < (spl t).length := List.length_pos_iff.2 hne
    refine ⟨by rw [List.length_append]; omega, ?_⟩
    rw [List.take_left']; rfl
  · rintro ⟨h1, h2⟩
    have h3 := hinj _ _ h2
    have h4 : spl s.data.toList = spl d.data.toList ++ (spl s.data.toList).drop (spl d.data.toList).length := by
      conv => lhs; rw [← List.take_append_drop (spl d.data.toList).length (spl s.data.toList), ← h3]
    have h5 : (spl s.data.toList).drop (spl d.data.toList).length ≠ [] := by
      intro e
      have := List.drop_eq_nil_iff.1 e; omega
    refine ⟨joi ((spl s.data.toList).drop (spl d.data.toList).length), ?_⟩
    conv => lhs; rw [← joi_spl s.data.toList, h4]
    rw [joi_app _ _ (spl_ne _) h5, joi_spl]
def underP (d s : ByteArray) : Bool := pathOk d && pathOk s && decide ((partsOf d).length < (partsOf s).length) && decide (partsOf d = (partsOf s).take (partsOf d).length)
theorem underP_eq (d s : ByteArray) : underP d s = under d s := by
  unfold underP under
  rw [Bool.and_assoc]
  congr 1
  rw [Bool.eq_iff_iff, Bool.and_eq_true, decide_eq_true_eq, decide_eq_true_eq, decide_eq_true_eq, pre_list, under_law]
set_option maxRecDepth 4000 in
theorem refUnder_ok (d s : ByteArray) (hd : d.size ≤ 4000000000 - 1) (hs : s.size ≤ 4000000000 - 1) : ACalls prog 186 0 [Sx d, Sx s] [] fun r h => r = B (under d s) ∧ h = [] := by
  rw [← underP_eq]
  have h1 := refSplit_ok d hd
  have h2 := refSplit_ok s hs
  have h3 := refPartsOf_ok d hd
  have h4 := refPartsOf_ok s hs
  have l1 := parts_le d
  have l2 := parts_le s
  have hu : underP d s = (pathOk d && pathOk s && decide ((partsOf d).length < (partsOf s).length) && decide (partsOf d = (partsOf s).take (partsOf d).length)) := rfl
  generalize underP d s = W at *
  generalize partsOf d = a at *
  generalize partsOf s = b at *
  have hma : (List.map rowS a).length = a.length := List.length_map _
  have hmb : (List.map rowS b).length = b.length := List.length_map _
  refine fnC lay_ok func186 rfl rfl rfl rfl rfl ?_
  cases hpd : pathOk d <;> rw [hpd] at h3 hu
  · repeat' first | refine stp lay_ok rfl ?_ | refine fin ?_ | refine n_thn ?_ | refine r_thn ?_ | refine .seq ?_ | refine reg ?_ | refine .ret ?_ | refine cndT rfl ?_ | (refine o_none rfl ?_; (first | refine st_pure (h1) b178 rfl rfl rfl rfl ?_ | refine st_pure (h2) b178 rfl rfl rfl rfl ?_ | refine st_pure (h3) b177 rfl rfl rfl rfl ?_)) | fail
    refine f_r [] rfl trivial rfl ⟨?_, rfl⟩; rw [hu]; rfl
  cases hps : pathOk s <;> rw [hps] at h4 hu
  · repeat' first | refine stp lay_ok rfl ?_ | refine fin ?_ | refine n_thn ?_ | refine r_thn ?_ | refine .seq ?_ | refine reg ?_ | refine .ret ?_ | refine cndT rfl ?_ | ((first | refine o_none rfl ?_ | refine o_yes rfl rfl rfl ?_); (first | refine st_pure (h1) b178 rfl rfl rfl rfl ?_ | refine st_pure (h2) b178 rfl rfl rfl rfl ?_ | refine st_pure (h3) b177 rfl rfl rfl rfl ?_ | refine st_pure (h4) b177 rfl rfl rfl rfl ?_)) | fail
    refine f_r [] rfl trivial rfl ⟨?_, rfl⟩; rw [hu]; rfl
  simp only [Bool.true_and] at hu
  repeat' first | refine ln ?_ | refine stp lay_ok rfl ?_ | refine fin ?_ | refine n_thn ?_ | refine r_thn ?_ | refine .seq ?_ | refine reg ?_ | refine .block ?_ | refine .skip ?_ | refine .ret ?_ | refine c_dec rfl (fun hc => ?_) (fun hc => ?_) | ((first | refine o_none rfl ?_ | refine o_yes rfl rfl rfl ?_); (first | refine st_pure (h1) b178 rfl rfl rfl rfl ?_ | refine st_pure (h2) b178 rfl rfl rfl rfl ?_ | refine st_pure (h3) b177 rfl rfl rfl rfl ?_ | refine st_pure (h4) b177 rfl rfl rfl rfl ?_)) | fail
  · refine f_r [] rfl trivial rfl ⟨?_, rfl⟩; rw [hu, decide_eq_false (by omega)]; rfl
  · rw [decide_eq_true (by omega), Bool.true_and] at hu
    refine lpR (fun k => k ≤ a.length ∧ ∀ j (h1 : j < a.length) (h2 : j < b.length), j < k → a[j] = b[j]) (fun k => a.length - k) (fun k => [(7, I k)]) (fun k => []) (0) [5, 6] [] [] rfl rfl rfl (.of [] (by (repeat' first | exact trivial | refine And.intro ?_ ?_ | rfl); first | done | fail) (by (repeat' first | exact trivial | refine And.intro ?_ ?_ | rfl); first | done | fail) rfl) ?_ ?_
    · exact ⟨Nat.zero_le _, fun j h1 h2 h3 => by omega⟩
    rintro k ⟨hk, hall⟩
    refine nrm rfl rfl ?_
    repeat' first | refine ln ?_ | refine stp lay_ok rfl ?_ | refine fin ?_ | refine n_thn ?_ | refine e_thn ?_ | refine e_hit ?_ | refine e_rr ?_ | refine .seq ?_ | refine reg ?_ | refine .block ?_ | refine .skip ?_ | refine .ret ?_ | refine .exit ?_ | refine c_dec rfl (fun hc => ?_) (fun hc => ?_) | fail
    · have hka : k < a.length := by omega
      have hkb : k < b.length := by omega
      have hat := at_rowS hka
      have hbt := at_rowS hkb
      refine dreg [(0, [], [34, 37, 38, 39, 40]), (1, [], [33, 37, 38, 39, 40]), (2, [0, 1], [37, 38, 39, 40]), (3, [0, 1, 2], [37, 38, 39, 40]), (4, [], [33, 34, 35, 36, 38]), (5, [], [33, 34, 35, 36, 37]), (6, [4, 5], [33, 34, 35, 36]), (7, [4, 5, 6], [33, 34, 35, 36]), (8, [0, 1, 2, 3, 4, 5, 6, 7], [])] mixed (by kernel_rfl) ?_
      repeat' first | refine wr (by omega) ?_ | refine stp lay_ok rfl ?_ | refine fin ?_ | refine n_thn ?_ | refine n_blk ?_ | refine r_thn ?_ | refine r_blk ?_ | refine r_rr ?_ | refine .seq ?_ | refine reg ?_ | refine .skip ?_ | refine .ret ?_ | refine c_dec rfl (fun hc => ?_) (fun hc => ?_) | refine dws lay_ok rfl rfl rfl rfl rfl rfl rfl ?_ | refine dw_end ?_ | refine dwb rfl rfl rfl rfl rfl (by (first | refine st_index (rowS a[k]) lay_ok rfl rfl rfl rfl (by omega) hat ?_ | refine st_index (rowS b[k]) lay_ok rfl rfl rfl rfl (by omega) hbt ?_); exact fin rfl) rfl rfl ?_ | fail
      · refine f_r [] rfl trivial rfl ⟨?_, rfl⟩
        rw [hu, decide_eq_false (fun e => hc (by
          have e2 := congrArg (fun l => l[k]?) e
          simp only [List.getElem?_take, hka, if_true] at e2
          rw [List.getElem?_eq_getElem hka, List.getElem?_eq_getElem hkb] at e2
          exact Option.some.inj e2))]; rfl
      · refine n_rr (k + 1) ?_ (.of [] (by (repeat' first | exact trivial | refine And.intro ?_ ?_ | rfl); first | done | fail) (by (repeat' first | exact trivial | refine And.intro ?_ ?_ | rfl); first | done | fail) rfl) ?_
        · omega
        · refine ⟨hka, fun j h1 h2 h3 => ?_⟩
          by_cases hj : j = k
          · subst hj; exact Decidable.not_not.1 hc
          · exact hall j h1 h2 (by omega)
    · refine f_r [] rfl trivial rfl ⟨?_, rfl⟩
      rw [hu, decide_eq_true (List.ext_getElem (by rw [List.length_take]; omega) fun j h1 h2 => by
        rw [List.getElem_take]; exact hall j h1 (by rw [List.length_take] at h2; omega) (by omega))]; rfl
end Go.Proofs.YtohmbpcjapjkbaaGreatDoorFn
namespace Go.Proofs.YtohmbpcjapjkbaaGreatDoorFn
open Go.Proofs.YtohmbpcjapjkbaaGreatDoorAl Go.Proofs.Tryz
/-! ### a catalog stays a catalog -/
theorem lt_app (t : List UInt8) (ht : t ≠ []) : ∀ a : List UInt8, a < a ++ t
  | [] => by
    cases t with
    | nil => exact absurd rfl ht
    | cons x r => exact List.nil_lt_cons x r
  | x :: a => by
    rw [List.cons_append, List.cons_lt_cons_iff]
    exact .inr ⟨rfl, lt_app t ht a⟩
theorem under_lt {x y : ByteArray} (h : under x y = true) : strLt x y = true := by
  unfold under at h
  simp only [Bool.and_eq_true, decide_eq_true_eq] at h
  obtain ⟨t, ht⟩ := (pre_list x y).1 h.2
  rw [strLt_iff, ht]
  exact lt_app _ (by simp) _
theorem strLt_irrefl (x : ByteArray) : strLt x x = false := by
  cases h : strLt x x with
  | false => rfl
  | true => exact absurd ((strLt_iff x x).1 h) (List.lt_irrefl _)
theorem strLt_trans {x y z : ByteArray} (h1 : strLt x y = true) (h2 : strLt y z = true) : strLt x z = true :=
  (strLt_iff x z).2 (List.lt_trans ((strLt_iff x y).1 h1) ((strLt_iff y z).1 h2))
theorem strLt_tri {x y : ByteArray} (h1 : strLt x y = false) (h2 : strLt y x = false) : x = y := by
  have e1 : ¬ x.data.toList < y.data.toList := fun h => by rw [(strLt_iff x y).2 h] at h1; cases h1
  have e2 : ¬ y.data.toList < x.data.toList := fun h => by rw [(strLt_iff y x).2 h] at h2; cases h2
  have := List.le_antisymm (List.not_lt.1 e2) (List.not_lt.1 e1)
  exact ByteArray.ext (Array.toList_inj.1 this)
/-- What a tree's entries are. -/
structure TreeP (l : List EV) : Prop where
  len : l.length ≤ 32
  ok : ∀ e ∈ l, pathOk e.path = true ∧ wholeB e = true
  up : l.Pairwise fun x y => strLt x.path y.path = true
  und : ∀ x ∈ l, ∀ y ∈ l, under x.path y.path = false
theorem badFrom_of (l : List EV) : ∀ f i, (∀ j, i ≤ j → ∀ h : j < l.length, entryC l j l[j] = none) → badFrom l f i = none
  | 0, _, _ => rfl
  | f + 1, i, h => by
    unfold badFrom
    by_cases hi : i < l.length
    · rw [List.getElem?_eq_getElem hi]
      simp only [h i (Nat.le_refl _) hi]
      exact badFrom_of l f (i + 1) fun j hj h2 => h j (by omega) h2
    · rw [List.getElem?_eq_none (by omega)]
def upC (l : List EV) (i : Nat) (e : EV) : Bool := (decide (0 < i) && (match l[i - 1]? with | some x => !strLt x.path e.path | none => false)) || (l.take i).any (fun x => under x.path e.path)
theorem entryC_none (l : List EV) (i : Nat) (e : EV) : entryC l i e = none ↔ pathOk e.path = true ∧ upC l i e = false ∧ wholeB e = true := by
  have h : entryC l i e = if pathOk e.path then if upC l i e then some 4 else if wholeB e then none else some 1 else some 2 := rfl
  rw [h]
  cases pathOk e.path <;> cases upC l i e <;> cases wholeB e <;> simp
theorem treeOk_iff (l : List EV) : treeOk l = true ↔ TreeP l := by
  unfold treeOk
  rw [Bool.and_eq_true, decide_eq_true_eq, Option.isNone_iff_eq_none]
  constructor
  · rintro ⟨h1, h2⟩
    have hs := tree_sorted h2
    have hc := fun j (h : j < l.length) => badFrom_none l l.length 0 h2 j (Nat.zero_le _) (by omega) h
    refine ⟨h1, fun e he => ?_, ?_, fun x hx y hy => ?_⟩
    · obtain ⟨j, hj, rfl⟩ := List.getElem_of_mem he
      obtain ⟨k1, _, k3⟩ := (entryC_none _ _ _).1 (hc j hj)
      exact ⟨k1, k3⟩
    · rw [List.pairwise_iff_getElem]
      exact fun i j hi hj hij => hs i j hij hj
    · cases hu : under x.path y.path with
      | false => rfl
      | true =>
        exfalso
        obtain ⟨i, hi, rfl⟩ := List.getElem_of_mem hx
        obtain ⟨j, hj, rfl⟩ := List.getElem_of_mem hy
        have hlt := under_lt hu
        rcases Nat.lt_trichotomy i j with h | h | h
        · obtain ⟨_, k2, _⟩ := (entryC_none _ _ _).1 (hc j hj)
          unfold upC at k2
          rw [Bool.or_eq_false_iff] at k2
          have := List.any_eq_false.1 k2.2 l[i] (by rw [List.mem_take_iff_getElem]; exact ⟨i, by omega, rfl⟩)
          rw [hu] at this
          exact this rfl
        · subst h
          rw [strLt_irrefl] at hlt; cases hlt
        · have := strLt_trans hlt (hs j i h hi)
          rw [strLt_irrefl] at this; cases this
  · rintro ⟨h1, h2, h3, h4⟩
    refine ⟨h1, badFrom_of l _ _ fun j _ hj => ?_⟩
    obtain ⟨k1, k2⟩ := h2 l[j] (List.getElem_mem hj)
    refine (entryC_none _ _ _).2 ⟨k1, ?_, k2⟩
    unfold upC
    rw [Bool.or_eq_false_iff]
    refine ⟨?_, List.any_eq_false.2 fun x hx => by rw [h4 x (List.mem_of_mem_take hx) _ (List.getElem_mem hj)]; simp⟩
    by_cases h0 : 0 < j
    · have e2 : l[j - 1]? = some l[j - 1] := List.getElem?_eq_getElem (by omega)
      have := (List.pairwise_iff_getElem.1 h3) (j - 1) j (by omega) hj (by omega)
      rw [e2]
      simp only [this, Bool.not_true, Bool.and_false]
    · rw [decide_eq_false h0, Bool.false_and]
theorem treeP_nil : TreeP [] := ⟨by simp, by simp, .nil, by simp⟩
theorem ltC_str (x y : EV) : ltC cmE x y = strLt x.path y.path := by
  rw [cmE_lt]
  show decide (x.path.data.toList < y.path.data.toList) = _
  rw [← Go.Proofs.bytesLess_eq]; rfl
/-- A tree with one entry more that clashes with none. -/
theorem treeP_add {l : List EV} {e : EV} (h : TreeP l) (hl : l.length < 32) (hp : pathOk e.path = true) (hw : wholeB e = true) (hc : ∀ x ∈ l, clashB x.path e.path = false) : TreeP (srtE (l ++ [e])) := by
  obtain ⟨p1, p2⟩ := srtE_facts (l ++ [e])
  have hm : ∀ x, x ∈ srtE (l ++ [e]) ↔ x ∈ l ∨ x = e := fun x => by rw [p1.mem_iff]; simp
  have hcl : ∀ x ∈ l, x.path ≠ e.path ∧ under x.path e.path = false ∧ under e.path x.path = false := fun x hx => by
    have := hc x hx
    unfold clashB at this
    simp only [Bool.or_eq_false_iff, decide_eq_false_iff_not] at this
    exact ⟨this.1.1, this.1.2, this.2⟩
  refine ⟨by rw [p1.length_eq, List.length_append]; show l.length + 1 ≤ 32; omega, fun x hx => ?_, ?_, fun x hx y hy => ?_⟩
  · rcases (hm x).1 hx with hx | rfl
    · exact h.ok x hx
    · exact ⟨hp, hw⟩
  · have hne : (srtE (l ++ [e])).Pairwise fun x y => x.path ≠ y.path := by
      refine (p1.pairwise_iff fun h => Ne.symm h).2 ?_
      rw [List.pairwise_append]
      refine ⟨h.up.imp fun {a b} hab he => ?_, by simp, fun a ha b hb => ?_⟩
      · rw [he, strLt_irrefl] at hab; cases hab
      · rw [List.mem_singleton] at hb; subst hb
        exact (hcl a ha).1
    refine (p2.and hne).imp fun {a b} ⟨h1, h2⟩ => ?_
    rw [ltC_str] at h1
    cases hab : strLt a.path b.path with
    | true => rfl
    | false => exact absurd (strLt_tri hab h1) h2
  · rcases (hm x).1 hx with hx' | hx' <;> rcases (hm y).1 hy with hy' | hy'
    · exact h.und x hx' y hy'
    · rw [hy']; exact (hcl x hx').2.1
    · rw [hx']; exact (hcl y hy').2.2
    · rw [hx', hy']
      cases hu : under e.path e.path with
      | false => rfl
      | true => have := under_lt hu; rw [strLt_irrefl] at this; cases this
/-- What a catalog's snapshots are. -/
structure SnapP (s : NV) : Prop where
  cl : 0 ≤ s.client ∧ s.client < 8
  nm : nameOk s.name = true
  tr : TreeP s.entries
  ks : ∀ e ∈ s.entries, e.keys.length ≤ 16
def keyN (s : NV) : Int × ByteArray := (s.client, s.name)
structure CatP (l : List NV) : Prop where
  one : ∀ s ∈ l, SnapP s
  apart : (l.map keyN).Nodup
  few : ∀ c, many c l ≤ 8
theorem catP_nil : CatP [] := ⟨by simp, by simp, fun _ => by simp [many]⟩
theorem catP_sub {a b : List NV} (h : CatP b) (hs : a.Sublist b) : CatP a :=
  ⟨fun s hm => h.one s (hs.mem hm), h.apart.sublist (hs.map _), fun c => Nat.le_trans (hs.countP_le) (h.few c)⟩
theorem many_app (c : Int) (a : List NV) (s : NV) : many c (a ++ [s]) = many c a + if s.client = c then 1 else 0 := by
  unfold many
  rw [List.countP_append, List.countP_cons]
  simp
theorem catP_snoc {a : List NV} {s : NV} (h : CatP a) : mayN a s = true ↔ CatP (a ++ [s]) := by
  have hany : (a.any fun x => decide (x.client = s.client) && decide (x.name = s.name)) = true ↔ keyN s ∈ a.map keyN := by
    simp only [List.any_eq_true, Bool.and_eq_true, decide_eq_true_eq, List.mem_map, keyN, Prod.mk.injEq]
  unfold mayN
  simp only [Bool.and_eq_true, decide_eq_true_eq, Bool.not_eq_true', treeOk_iff]
  constructor
  · rintro ⟨⟨⟨⟨⟨h1, h2⟩, h3⟩, h4⟩, h5⟩, h6⟩
    refine ⟨fun x hx => ?_, ?_, fun c => ?_⟩
    · rcases List.mem_append.1 hx with hx | hx
      · exact h.one x hx
      · rw [List.mem_singleton] at hx; subst hx
        exact ⟨h1, h3, h5, fun e he => by
          have := List.any_eq_false.1 h6 e he
          simp at this; exact this⟩
    · rw [List.map_append, List.nodup_append]
      refine ⟨h.apart, by simp, fun x hx y hy hxy => ?_⟩
      simp only [List.map_cons, List.map_nil, List.mem_singleton] at hy
      rw [hxy, hy] at hx
      have := hany.2 hx
      rw [h4] at this; cases this
    · rw [many_app]
      have := h.few c
      split
      · rename_i hc; subst hc; omega
      · omega
  · intro hc
    have hs := hc.one s (by simp)
    refine ⟨⟨⟨⟨⟨hs.cl, ?_⟩, hs.nm⟩, ?_⟩, hs.tr⟩, ?_⟩
    · have := hc.few s.client
      rw [many_app, if_pos rfl] at this; omega
    · cases hA : (a.any fun x => decide (x.client = s.client) && decide (x.name = s.name)) with
      | false => rfl
      | true =>
        have h1 := hany.1 hA
        have h2 := hc.apart
        rw [List.map_append, List.nodup_append] at h2
        exact absurd rfl (h2.2.2 _ h1 _ (by simp))
    · refine List.any_eq_false.2 fun e he => ?_
      have := hs.ks e he
      simp; exact this
theorem fromF_iff : ∀ (l a : List NV), CatP a → (fromF a l = true ↔ CatP (a ++ l))
  | [], a, h => by simp [fromF, h]
  | s :: r, a, h => by
    have e : a ++ s :: r = (a ++ [s]) ++ r := by simp
    rw [fromF, Bool.and_eq_true, catP_snoc h, e]
    constructor
    · rintro ⟨h1, h2⟩
      exact (fromF_iff r _ h1).1 h2
    · intro h1
      have h2 : CatP (a ++ [s]) := catP_sub h1 (List.sublist_append_left _ _)
      exact ⟨h2, (fromF_iff r _ h2).2 h1⟩
theorem fromB_iff (l : List NV) : fromB l = true ↔ CatP l := fromF_iff l [] catP_nil
theorem many_cons (c : Int) (s : NV) (l : List NV) : many c (s :: l) = many c l + if s.client = c then 1 else 0 := by
  unfold many
  rw [List.countP_cons]
  simp
theorem len_many : ∀ l : List NV, (∀ s ∈ l, 0 ≤ s.client ∧ s.client < 8) → l.length = many 0 l + many 1 l + many 2 l + many 3 l + many 4 l + many 5 l + many 6 l + many 7 l
  | [], _ => rfl
  | s :: r, h => by
    have ih := len_many r fun x hx => h x (.tail _ hx)
    obtain ⟨h1, h2⟩ := h s (.head _)
    simp only [many_cons, List.length_cons]
    have : s.client = 0 ∨ s.client = 1 ∨ s.client = 2 ∨ s.client = 3 ∨ s.client = 4 ∨ s.client = 5 ∨ s.client = 6 ∨ s.client = 7 := by omega
    rcases this with e | e | e | e | e | e | e | e <;> rw [e] <;> simp <;> omega
theorem catP_len {l : List NV} (h : CatP l) : l.length ≤ 64 := by
  have := len_many l fun s hs => (h.one s hs).cl
  have h0 := h.few 0; have h1 := h.few 1; have h2 := h.few 2; have h3 := h.few 3; have h4 := h.few 4; have h5 := h.few 5; have h6 := h.few 6; have h7 := h.few 7
  omega
theorem catP_set {l : List NV} {i : Nat} {s : NV} (h : CatP l) (hi : i < l.length) (hk : keyN s = keyN l[i]) (hs : SnapP s) : CatP (l.set i s) := by
  have hm : (l.set i s).map keyN = l.map keyN := by
    rw [List.map_set, hk]
    apply List.ext_getElem?
    intro j
    rw [List.getElem?_set]
    split
    · rename_i hij; subst hij
      simp [hi]
    · rfl
  have hc : ∀ c (m : List NV), many c m = (m.map keyN).countP fun k => decide (k.1 = c) := fun c m => by
    rw [List.countP_map]; rfl
  refine ⟨fun x hx => ?_, by rw [hm]; exact h.apart, fun c => by rw [hc, hm, ← hc]; exact h.few c⟩
  rcases List.mem_or_eq_of_mem_set hx with hx | rfl
  · exact h.one x hx
  · exact hs
theorem remK_sub (p : NV → Bool) : ∀ (g : Nat) (l : List NV), (remK p g l).Sublist l
  | 0, l => by rw [show remK p 0 l = l from by cases l <;> rfl]; exact List.Sublist.refl _
  | _ + 1, [] => List.Sublist.refl _
  | g + 1, x :: r => by
    unfold remK
    split
    · exact (remK_sub p g r).cons _
    · exact (remK_sub p (g + 1) r).cons₂ _
theorem addP_fst (s : NV) (o : OV) : keyN (addP s o).1 = keyN s := by
  unfold addP
  repeat' split
  all_goals rfl
/-- What may be: the parts of it that a catalog needs. -/
theorem reqOk_parts {c : Int} {o : OV} (h : reqOk c o = true) : (0 ≤ c ∧ c < 8) ∧ (1 ≤ o.kind ∧ o.kind ≤ 9) ∧ o.keys.length ≤ 16 ∧ o.keys.all keyOk = true ∧ (0 ≤ o.n ∧ o.n ≤ 100) ∧ (namedK o.kind = true → nameOk o.name = true) ∧ (pathedK o.kind = true → pathOk o.path = true) := by
  unfold reqOk opOk at h
  simp only [Bool.and_eq_true, decide_eq_true_eq] at h
  obtain ⟨h0, ⟨⟨⟨⟨⟨h1, h2, h3⟩, h4⟩, h5⟩, h6⟩, _⟩, _⟩ := h
  refine ⟨h0, h1, h2, h3, h4, fun h => ?_, fun h => ?_⟩
  · rw [if_pos h] at h5; exact h5
  · rw [if_pos h] at h6; exact h6
theorem addP_snap {s : NV} {c : Int} {o : OV} (hs : SnapP s) (hr : reqOk c o = true) (hk : o.kind = 2) : SnapP (addP s o).1 := by
  obtain ⟨_, _, r1, r2, _, _, r3⟩ := reqOk_parts hr
  have hp := r3 (by rw [hk]; rfl)
  unfold addP
  split
  · exact hs
  split
  · exact hs
  split
  · exact hs
  split
  · exact hs
  rename_i h1 h2 h3 h4
  refine ⟨hs.cl, hs.nm, treeP_add hs.tr (by omega) hp ?_ fun x hx => ?_, fun e he => ?_⟩
  · unfold wholeB
    simp only [Bool.and_eq_true, decide_eq_true_eq]
    exact ⟨⟨r2, trivial⟩, by omega⟩
  · have := List.any_eq_false.1 (by simpa using h2) x hx
    simpa using this
  · rcases List.mem_append.1 ((srtE_facts _).1.mem_iff.1 he) with he | he
    · exact hs.ks e he
    · rw [List.mem_singleton] at he; subst he; exact r1
theorem doP_cat {l : List NV} (c : Int) (o : OV) (h : CatP l) : CatP (doP l c o).1 := by
  unfold doP
  split
  · exact h
  rename_i hr
  have hr : reqOk c o = true := by simpa using hr
  obtain ⟨r0, r1, _, _, _, r2, _⟩ := reqOk_parts hr
  split
  · rename_i hk
    split
    · exact h
    split
    · exact h
    rename_i h1 h2
    refine (catP_snoc h).1 ?_
    unfold mayN
    simp only [Bool.and_eq_true, decide_eq_true_eq, Bool.not_eq_true']
    refine ⟨⟨⟨⟨⟨r0, by omega⟩, r2 (by rw [hk]; rfl)⟩, ?_⟩, by first | exact (treeOk_iff _).2 treeP_nil | exact treeP_nil⟩, by first | trivial | rfl⟩
    cases hA : l.any (isS c o.name) with
    | false => exact hA
    | true => exact absurd hA h1
  split
  · exact h
  split
  · exact catP_sub h (remK_sub _ _ _)
  split
  · exact h
  split
  · exact h
  rename_i i hi
  split
  · rename_i s hs
    obtain ⟨hil, hs⟩ := List.getElem?_eq_some_iff.1 hs
    have hS : SnapP s := h.one s (hs ▸ List.getElem_mem hil)
    unfold oneP
    split
    · rename_i hk
      exact catP_set h hil (by rw [addP_fst, hs]) (addP_snap hS hr hk)
    split
    · split
      · exact h
      · exact catP_set h hil (by rw [hs]; rfl) ⟨hS.cl, hS.nm, hS.tr, hS.ks⟩
    split
    · split
      · exact h
      · exact catP_sub h (List.eraseIdx_sublist _ _)
    split
    · exact h
    split
    · exact h
    · exact h
  · exact h
end Go.Proofs.YtohmbpcjapjkbaaGreatDoorFn
namespace Go.Proofs.YtohmbpcjapjkbaaGreatDoorFn
open Go.Proofs.YtohmbpcjapjkbaaGreatDoorAl Go.Proofs.Tryz
/-! ### what may be is short -/
theorem decode_four (s : ByteArray) (p : Nat) : (Utf8.decode s p).2 ≤ 4 := by
  unfold Utf8.decode
  simp only
  repeat' split
  all_goals simp
theorem runs_size (s : ByteArray) : ∀ f p n, s.size + 1 ≤ p + f → runs s f p = some n → s.size ≤ p + 4 * n
  | 0, p, n, h, _ => by omega
  | f + 1, p, n, h, hr => by
    unfold runs at hr
    by_cases hp : p < s.size
    · rw [if_pos hp] at hr
      split at hr
      · cases hm : runs s f (p + (Utf8.decode s p).2) with
        | none => rw [hm] at hr; cases hr
        | some m =>
          rw [hm] at hr
          simp only [Option.map_some, Option.some.injEq] at hr
          have h1 := decode_pos s p
          have h4 := decode_four s p
          have := runs_size s f _ m (by omega) hm
          omega
      · cases hr
    · omega
theorem partOk_size {s : ByteArray} (h : partOk s = true) : s.size ≤ 64 := by
  unfold partOk at h
  cases hr : runs s (s.size + 1) 0 with
  | none => rw [hr] at h; cases h
  | some n =>
    rw [hr] at h
    simp only [Bool.and_eq_true, decide_eq_true_eq] at h
    have := runs_size s _ 0 n (by omega) hr
    omega
theorem spl_sum : ∀ l : List UInt8, ((spl l).map List.length).sum + (spl l).length = l.length + 1
  | [] => rfl
  | b :: r => by
    have ih := spl_sum r
    have hne := spl_ne r
    simp only [spl]
    split
    · simp only [List.map_cons, List.sum_cons, List.length_cons, List.length_nil]; omega
    · cases hs : spl r with
      | nil => exact absurd hs hne
      | cons h t =>
        rw [hs] at ih
        simp only [List.map_cons, List.sum_cons, List.length_cons] at ih ⊢; omega
theorem sum_le {l : List Nat} {k : Nat} (h : ∀ x ∈ l, x ≤ k) : l.sum ≤ l.length * k := by
  induction l with
  | nil => simp
  | cons x r ih =>
    have := ih fun y hy => h y (.tail _ hy)
    have := h x (.head _)
    rw [List.sum_cons, List.length_cons, Nat.succ_mul]; omega
theorem pathOk_size {s : ByteArray} (h : pathOk s = true) : s.size ≤ 600 := by
  unfold pathOk at h
  rw [Bool.and_eq_true, decide_eq_true_eq] at h
  obtain ⟨h1, h2⟩ := h
  unfold partsOf at h1 h2
  rw [List.length_map] at h1
  have hs := spl_sum s.data.toList
  have hsz : s.data.toList.length = s.size := by rw [Array.length_toList]; rfl
  have hle := sum_le (l := (spl s.data.toList).map List.length) (k := 64) fun x hx => by
    obtain ⟨y, hy, rfl⟩ := List.mem_map.1 hx
    have := partOk_size (List.all_eq_true.1 h2 _ (List.mem_map.2 ⟨y, hy, rfl⟩))
    have e : (⟨y.toArray⟩ : ByteArray).size = y.length := by
      show y.toArray.size = _
      rw [List.size_toArray]
    omega
  rw [List.length_map] at hle
  have : (spl s.data.toList).length * 64 ≤ 8 * 64 := Nat.mul_le_mul_right _ h1
  omega
theorem wholeB_parts {e : EV} (h : wholeB e = true) : (∀ k ∈ e.keys, 1 ≤ k.size ∧ k.size ≤ 64) ∧ (tot e.keys : Int) = e.size ∧ tot e.keys ≤ 1024 := by
  unfold wholeB at h
  simp only [Bool.and_eq_true, decide_eq_true_eq] at h
  refine ⟨fun k hk => ?_, h.1.2, h.2⟩
  have := List.all_eq_true.1 h.1.1 k hk
  unfold keyOk at this
  simpa using this
theorem TreeP.distinct {es : List EV} (hT : TreeP es) : ∀ x ∈ es, ∀ y ∈ es, x.path = y.path → x = y := fun x hx y hy hxy => by
  obtain ⟨i, hi, rfl⟩ := List.getElem_of_mem hx
  obtain ⟨j, hj, rfl⟩ := List.getElem_of_mem hy
  rcases Nat.lt_trichotomy i j with h | h | h
  · have := (List.pairwise_iff_getElem.1 hT.up) i j hi hj h
    rw [hxy, strLt_irrefl] at this; cases this
  · subst h; rfl
  · have := (List.pairwise_iff_getElem.1 hT.up) j i hj hi h
    rw [hxy, strLt_irrefl] at this; cases this
/-- What a catalog's snapshots come to in size. -/
theorem SnapP.small {s : NV} (h : SnapP s) : s.name.size ≤ 600 ∧ s.entries.length ≤ 32 ∧ ∀ e ∈ s.entries, e.path.size ≤ 600 ∧ e.keys.length ≤ 16 ∧ (∀ k ∈ e.keys, k.size ≤ 64) ∧ tot e.keys ≤ 1024 ∧ (tot e.keys : Int) = e.size := by
  have hn := h.nm
  unfold nameOk at hn
  rw [Bool.and_eq_true] at hn
  refine ⟨pathOk_size hn.1, h.tr.len, fun e he => ?_⟩
  obtain ⟨k1, k2⟩ := h.tr.ok e he
  obtain ⟨w1, w2, w3⟩ := wholeB_parts k2
  exact ⟨pathOk_size k1, h.ks e he, fun k hk => (w1 k hk).2, w3, w2⟩
theorem SnapP.fit {s : NV} (h : SnapP s) : s.fit := by
  obtain ⟨h1, h2, h3⟩ := h.small
  exact ⟨by omega, by omega, fun e he => ⟨by have := (h3 e he).1; omega, by have := (h3 e he).2.1; omega⟩⟩
theorem flatMap_le {α β : Type} {f : α → List β} {k : Nat} : ∀ {l : List α}, (∀ x ∈ l, (f x).length ≤ k) → (l.flatMap f).length ≤ l.length * k
  | [], _ => by simp
  | x :: r, h => by
    have := flatMap_le (l := r) fun y hy => h y (.tail _ hy)
    have := h x (.head _)
    rw [List.flatMap_cons, List.length_append, List.length_cons, Nat.succ_mul]; omega
theorem allS_len {l : List NV} (h : CatP l) : (allS l).length ≤ 32768 := by
  have hl := catP_len h
  have := flatMap_le (f := fun s : NV => s.entries.flatMap (·.keys)) (k := 512) (l := l) fun s hs => by
    obtain ⟨_, h2, h3⟩ := (h.one s hs).small
    have := flatMap_le (f := fun e : EV => e.keys) (k := 16) (l := s.entries) fun e he => (h3 e he).2.1
    have : s.entries.length * 16 ≤ 32 * 16 := Nat.mul_le_mul_right _ h2
    omega
  have h64 : l.length * 512 ≤ 64 * 512 := Nat.mul_le_mul_right _ hl
  unfold allS
  omega
theorem allS_mem {l : List NV} (h : CatP l) : ∀ k ∈ allS l, k.size ≤ 64 := fun k hk => by
  obtain ⟨s, hs, hk⟩ := List.mem_flatMap.1 hk
  obtain ⟨e, he, hk⟩ := List.mem_flatMap.1 hk
  exact ((h.one s hs).small.2.2 e he).2.2.1 k hk
/-! ### where a snapshot is -/
theorem findS_none {l : List NV} {c : Int} {nm : ByteArray} (h : l.findIdx? (isS c nm) = none) : findS l c nm = -1 :=
  fidx_none _ l fun j hj => by
    have := List.findIdx?_eq_none_iff.1 h l[j] (List.getElem_mem hj)
    exact this
theorem findS_some {l : List NV} {c : Int} {nm : ByteArray} {i : Nat} (h : l.findIdx? (isS c nm) = some i) : ∃ hi : i < l.length, findS l c nm = i ∧ isS c nm l[i] = true := by
  obtain ⟨hi, h1, h2⟩ := List.findIdx?_eq_some_iff_getElem.1 h
  refine ⟨hi, fidx_step _ l i hi (fun j hj => ?_) h1, h1⟩
  have := h2 j hj
  simpa using this
end Go.Proofs.YtohmbpcjapjkbaaGreatDoorFn
namespace Go.Proofs.YtohmbpcjapjkbaaGreatDoorFn
open Go.Proofs.YtohmbpcjapjkbaaGreatDoorAl Go.Proofs.Tryz
attribute [local irreducible] IntKind.wrap CodeOk OpsL OpG ACalls thn inBlk rndR cutR WkR Wk fnR DW ExtOk partsOf
theorem b27 : HasBody prog 27 := ⟨f27, func27, Option.some_ne_none _, by decide⟩
/-! ### an operation, by its kind -/
abbrev ansS (a : NS) : AV := .st (.agg [.int .i64 a.code, .int .i64 a.n, .sl 1 (a.names.map rowS), .sl 1 (a.keys.map rowS), .sl 3 (a.entries.map rowE)])
abbrev ansB (a : NS) : AO := .cells [.st (.int .i64 a.code), .st (.int .i64 a.n), .st (.sl 1 (a.names.map rowS)), .st (.sl 1 (a.keys.map rowS)), .st (.sl 3 (a.entries.map rowE))]
set_option maxHeartbeats 2000000 in
theorem do_no (l : List NV) (b : Bool) (c : Int) (o : OV) (hr : reqOk c o = false) (ho : o.fit) : ACalls prog 27 2 [.ptr 0 0, I c, .st (.agg (rowO o))] (catX 1 l b) fun r h => r = ansC 1 ∧ h = catX 2 l b := by
  have hq := req_ok c o ho
  rw [hr] at hq
  simp only [Bool.false_eq_true, if_false] at hq
  have hrf := refused_ok 1
  obtain ⟨k, nm, p, ks, n⟩ := o
  refine ACalls.drop1 (h1 := catX 2 l b ++ [(3, ansX 1)]) ⟨rfl, rfl, trivial⟩ ?_
  refine fnC lay_ok func27 rfl rfl rfl rfl rfl ?_
  repeat' first | refine stp lay_ok rfl ?_ | refine fin ?_ | refine n_thn ?_ | refine r_thn ?_ | refine .seq ?_ | refine reg ?_ | refine .ret ?_ | refine cndT rfl ?_ | (refine o_none rfl ?_; (first | refine st_pure (hq) b52 rfl rfl rfl rfl ?_ | refine st_pure (hrf) b53 rfl rfl rfl rfl ?_)) | fail
  refine f_end (n0 := 4) (t'' := [(6, .ptr 3 0)]) (h'' := [(0, .cells [.lsl 2 4 (gN b) (l.map rowN).length]), (2, .arr 4 (l.map rowN ++ gR b)), (3, ansX 1)]) (WkR.of [1, 3] (by (repeat' first | exact trivial | refine And.intro ?_ ?_ | rfl); first | done | fail) (by (repeat' first | exact trivial | refine And.intro ?_ ?_ | rfl); first | done | fail) rfl) rfl rfl ⟨?_, rfl⟩
  rfl
set_option maxHeartbeats 2000000 in
theorem do_1 (l L : List NV) (b b' : Bool) (c : Int) (o : OV) (A : NS) (hk : o.kind = 1) (hr : reqOk c o = true) (ho : o.fit) (hB : ACalls prog 54 2 [.ptr 0 0, I c, Sx o.name] (catX 1 l b) fun r h => r = ansS A ∧ h = catX 2 L b') :
    ACalls prog 27 2 [.ptr 0 0, I c, .st (.agg (rowO o))] (catX 1 l b) fun r h => r = ansS A ∧ h = catX 2 L b' := by
  have hq := req_ok c o ho
  rw [hr] at hq
  simp only [if_true] at hq
  obtain ⟨k, nm, p, ks, n⟩ := o
  simp only at hk hB
  subst hk
  refine ACalls.drop1 (h1 := catX 2 L b' ++ [(3, ansB A)]) ⟨rfl, rfl, trivial⟩ ?_
  refine fnC lay_ok func27 rfl rfl rfl rfl rfl ?_
  repeat' first | refine stp lay_ok rfl ?_ | refine fin ?_ | refine n_thn ?_ | refine r_thn ?_ | refine r_blk ?_ | refine .seq ?_ | refine reg ?_ | refine .block ?_ | refine .skip ?_ | refine .ret ?_ | refine cndT rfl ?_ | refine cndF rfl ?_ | (refine o_none rfl ?_; (first | refine st_pure (hq) b52 rfl rfl rfl rfl ?_ | refine st_callG [0,1] 1 (hB) b54 rfl rfl rfl rfl rfl (by (repeat' first | exact trivial | refine And.intro ?_ ?_ | rfl); first | done | fail) rfl ?_)) | fail
  refine f_end (n0 := 4) (t'' := [(6, .ptr 3 0)]) (h'' := [(0, .cells [.lsl 2 4 (gN b') (L.map rowN).length]), (2, .arr 4 (L.map rowN ++ gR b')), (3, ansB A)]) (WkR.of [4, 3] (by (repeat' first | exact trivial | refine And.intro ?_ ?_ | rfl); first | done | fail) (by (repeat' first | exact trivial | refine And.intro ?_ ?_ | rfl); first | done | fail) rfl) rfl rfl ⟨?_, rfl⟩
  rfl
set_option maxHeartbeats 2000000 in
theorem do_5 (l L : List NV) (b b' : Bool) (c : Int) (o : OV) (A : NS) (hk : o.kind = 5) (hr : reqOk c o = true) (ho : o.fit) (hB : ACalls prog 55 2 [.ptr 0 0, I c] (catX 1 l b) fun r h => r = ansS A ∧ h = catX 2 L b') :
    ACalls prog 27 2 [.ptr 0 0, I c, .st (.agg (rowO o))] (catX 1 l b) fun r h => r = ansS A ∧ h = catX 2 L b' := by
  have hq := req_ok c o ho
  rw [hr] at hq
  simp only [if_true] at hq
  obtain ⟨k, nm, p, ks, n⟩ := o
  simp only at hk hB
  subst hk
  refine ACalls.drop1 (h1 := catX 2 L b' ++ [(3, ansB A)]) ⟨rfl, rfl, trivial⟩ ?_
  refine fnC lay_ok func27 rfl rfl rfl rfl rfl ?_
  repeat' first | refine stp lay_ok rfl ?_ | refine fin ?_ | refine n_thn ?_ | refine r_thn ?_ | refine r_blk ?_ | refine .seq ?_ | refine reg ?_ | refine .block ?_ | refine .skip ?_ | refine .ret ?_ | refine cndT rfl ?_ | refine cndF rfl ?_ | (refine o_none rfl ?_; (first | refine st_pure (hq) b52 rfl rfl rfl rfl ?_ | refine st_callG [0,1] 1 (hB) b55 rfl rfl rfl rfl rfl (by (repeat' first | exact trivial | refine And.intro ?_ ?_ | rfl); first | done | fail) rfl ?_)) | fail
  refine f_end (n0 := 4) (t'' := [(6, .ptr 3 0)]) (h'' := [(0, .cells [.lsl 2 4 (gN b') (L.map rowN).length]), (2, .arr 4 (L.map rowN ++ gR b')), (3, ansB A)]) (WkR.of [4, 3] (by (repeat' first | exact trivial | refine And.intro ?_ ?_ | rfl); first | done | fail) (by (repeat' first | exact trivial | refine And.intro ?_ ?_ | rfl); first | done | fail) rfl) rfl rfl ⟨?_, rfl⟩
  rfl
set_option maxHeartbeats 2000000 in
theorem do_8 (l L : List NV) (b b' : Bool) (c : Int) (o : OV) (A : NS) (hk : o.kind = 8) (hr : reqOk c o = true) (ho : o.fit) (hB : ACalls prog 56 2 [.ptr 0 0, I c, I o.n] (catX 1 l b) fun r h => r = ansS A ∧ h = catX 2 L b') :
    ACalls prog 27 2 [.ptr 0 0, I c, .st (.agg (rowO o))] (catX 1 l b) fun r h => r = ansS A ∧ h = catX 2 L b' := by
  have hq := req_ok c o ho
  rw [hr] at hq
  simp only [if_true] at hq
  obtain ⟨k, nm, p, ks, n⟩ := o
  simp only at hk hB
  subst hk
  refine ACalls.drop1 (h1 := catX 2 L b' ++ [(3, ansB A)]) ⟨rfl, rfl, trivial⟩ ?_
  refine fnC lay_ok func27 rfl rfl rfl rfl rfl ?_
  repeat' first | refine stp lay_ok rfl ?_ | refine fin ?_ | refine n_thn ?_ | refine r_thn ?_ | refine r_blk ?_ | refine .seq ?_ | refine reg ?_ | refine .block ?_ | refine .skip ?_ | refine .ret ?_ | refine cndT rfl ?_ | refine cndF rfl ?_ | (refine o_none rfl ?_; (first | refine st_pure (hq) b52 rfl rfl rfl rfl ?_ | refine st_callG [0,1] 1 (hB) b56 rfl rfl rfl rfl rfl (by (repeat' first | exact trivial | refine And.intro ?_ ?_ | rfl); first | done | fail) rfl ?_)) | fail
  refine f_end (n0 := 4) (t'' := [(6, .ptr 3 0)]) (h'' := [(0, .cells [.lsl 2 4 (gN b') (L.map rowN).length]), (2, .arr 4 (L.map rowN ++ gR b')), (3, ansB A)]) (WkR.of [4, 3] (by (repeat' first | exact trivial | refine And.intro ?_ ?_ | rfl); first | done | fail) (by (repeat' first | exact trivial | refine And.intro ?_ ?_ | rfl); first | done | fail) rfl) rfl rfl ⟨?_, rfl⟩
  rfl
set_option maxHeartbeats 2000000 in
theorem do_9 (l L : List NV) (b b' : Bool) (c : Int) (o : OV) (A : NS) (hk : o.kind = 9) (hr : reqOk c o = true) (ho : o.fit) (hB : ACalls prog 57 2 [.ptr 0 0] (catX 1 l b) fun r h => r = ansS A ∧ h = catX 2 L b') :
    ACalls prog 27 2 [.ptr 0 0, I c, .st (.agg (rowO o))] (catX 1 l b) fun r h => r = ansS A ∧ h = catX 2 L b' := by
  have hq := req_ok c o ho
  rw [hr] at hq
  simp only [if_true] at hq
  obtain ⟨k, nm, p, ks, n⟩ := o
  simp only at hk hB
  subst hk
  refine ACalls.drop1 (h1 := catX 2 L b' ++ [(3, ansB A)]) ⟨rfl, rfl, trivial⟩ ?_
  refine fnC lay_ok func27 rfl rfl rfl rfl rfl ?_
  repeat' first | refine stp lay_ok rfl ?_ | refine fin ?_ | refine n_thn ?_ | refine r_thn ?_ | refine r_blk ?_ | refine .seq ?_ | refine reg ?_ | refine .block ?_ | refine .skip ?_ | refine .ret ?_ | refine cndT rfl ?_ | refine cndF rfl ?_ | (refine o_none rfl ?_; (first | refine st_pure (hq) b52 rfl rfl rfl rfl ?_ | refine st_callG [0,1] 1 (hB) b57 rfl rfl rfl rfl rfl (by (repeat' first | exact trivial | refine And.intro ?_ ?_ | rfl); first | done | fail) rfl ?_)) | fail
  refine f_end (n0 := 4) (t'' := [(6, .ptr 3 0)]) (h'' := [(0, .cells [.lsl 2 4 (gN b') (L.map rowN).length]), (2, .arr 4 (L.map rowN ++ gR b')), (3, ansB A)]) (WkR.of [4, 3] (by (repeat' first | exact trivial | refine And.intro ?_ ?_ | rfl); first | done | fail) (by (repeat' first | exact trivial | refine And.intro ?_ ?_ | rfl); first | done | fail) rfl) rfl rfl ⟨?_, rfl⟩
  rfl
set_option maxHeartbeats 2000000 in
theorem do_none2 (l : List NV) (b : Bool) (c : Int) (o : OV) (hk : o.kind = 2) (hr : reqOk c o = true) (ho : o.fit) (hF : ACalls prog 58 2 [.ptr 0 0, I c, Sx o.name] (catX 1 l b) fun r h => r = I (-1) ∧ h = catX 1 l b) :
    ACalls prog 27 2 [.ptr 0 0, I c, .st (.agg (rowO o))] (catX 1 l b) fun r h => r = ansC 3 ∧ h = catX 2 l b := by
  have hq := req_ok c o ho
  rw [hr] at hq
  simp only [if_true] at hq
  have hrf := refused_ok 3
  obtain ⟨k, nm, p, ks, n⟩ := o
  simp only at hk hF
  subst hk
  refine ACalls.drop1 (h1 := catX 2 l b ++ [(3, ansX 3)]) ⟨rfl, rfl, trivial⟩ ?_
  refine fnC lay_ok func27 rfl rfl rfl rfl rfl ?_
  repeat' first | refine stp lay_ok rfl ?_ | refine fin ?_ | refine n_thn ?_ | refine n_blk ?_ | refine r_thn ?_ | refine .seq ?_ | refine reg ?_ | refine .block ?_ | refine .skip ?_ | refine .ret ?_ | refine cndT rfl ?_ | refine cndF rfl ?_ | (refine o_none rfl ?_; (first | refine st_pure (hq) b52 rfl rfl rfl rfl ?_ | refine st_callK [0,1] (hF) b58 rfl rfl rfl rfl rfl (by (repeat' first | exact trivial | refine And.intro ?_ ?_ | rfl); first | done | fail) ?_ | refine st_pure (hrf) b53 rfl rfl rfl rfl ?_)) | fail
  all_goals first
    | (exfalso; omega)
    | skip
  refine f_end (n0 := 4) (t'' := [(6, .ptr 3 0)]) (h'' := [(0, .cells [.lsl 2 4 (gN b) (l.map rowN).length]), (2, .arr 4 (l.map rowN ++ gR b)), (3, ansX 3)]) (WkR.of [1, 3] (by (repeat' first | exact trivial | refine And.intro ?_ ?_ | rfl); first | done | fail) (by (repeat' first | exact trivial | refine And.intro ?_ ?_ | rfl); first | done | fail) rfl) rfl rfl ⟨?_, rfl⟩
  rfl
set_option maxHeartbeats 2000000 in
theorem do_none3 (l : List NV) (b : Bool) (c : Int) (o : OV) (hk : o.kind = 3) (hr : reqOk c o = true) (ho : o.fit) (hF : ACalls prog 58 2 [.ptr 0 0, I c, Sx o.name] (catX 1 l b) fun r h => r = I (-1) ∧ h = catX 1 l b) :
    ACalls prog 27 2 [.ptr 0 0, I c, .st (.agg (rowO o))] (catX 1 l b) fun r h => r = ansC 3 ∧ h = catX 2 l b := by
  have hq := req_ok c o ho
  rw [hr] at hq
  simp only [if_true] at hq
  have hrf := refused_ok 3
  obtain ⟨k, nm, p, ks, n⟩ := o
  simp only at hk hF
  subst hk
  refine ACalls.drop1 (h1 := catX 2 l b ++ [(3, ansX 3)]) ⟨rfl, rfl, trivial⟩ ?_
  refine fnC lay_ok func27 rfl rfl rfl rfl rfl ?_
  repeat' first | refine stp lay_ok rfl ?_ | refine fin ?_ | refine n_thn ?_ | refine n_blk ?_ | refine r_thn ?_ | refine .seq ?_ | refine reg ?_ | refine .block ?_ | refine .skip ?_ | refine .ret ?_ | refine cndT rfl ?_ | refine cndF rfl ?_ | (refine o_none rfl ?_; (first | refine st_pure (hq) b52 rfl rfl rfl rfl ?_ | refine st_callK [0,1] (hF) b58 rfl rfl rfl rfl rfl (by (repeat' first | exact trivial | refine And.intro ?_ ?_ | rfl); first | done | fail) ?_ | refine st_pure (hrf) b53 rfl rfl rfl rfl ?_)) | fail
  all_goals first
    | (exfalso; omega)
    | skip
  refine f_end (n0 := 4) (t'' := [(6, .ptr 3 0)]) (h'' := [(0, .cells [.lsl 2 4 (gN b) (l.map rowN).length]), (2, .arr 4 (l.map rowN ++ gR b)), (3, ansX 3)]) (WkR.of [1, 3] (by (repeat' first | exact trivial | refine And.intro ?_ ?_ | rfl); first | done | fail) (by (repeat' first | exact trivial | refine And.intro ?_ ?_ | rfl); first | done | fail) rfl) rfl rfl ⟨?_, rfl⟩
  rfl
set_option maxHeartbeats 2000000 in
theorem do_none4 (l : List NV) (b : Bool) (c : Int) (o : OV) (hk : o.kind = 4) (hr : reqOk c o = true) (ho : o.fit) (hF : ACalls prog 58 2 [.ptr 0 0, I c, Sx o.name] (catX 1 l b) fun r h => r = I (-1) ∧ h = catX 1 l b) :
    ACalls prog 27 2 [.ptr 0 0, I c, .st (.agg (rowO o))] (catX 1 l b) fun r h => r = ansC 3 ∧ h = catX 2 l b := by
  have hq := req_ok c o ho
  rw [hr] at hq
  simp only [if_true] at hq
  have hrf := refused_ok 3
  obtain ⟨k, nm, p, ks, n⟩ := o
  simp only at hk hF
  subst hk
  refine ACalls.drop1 (h1 := catX 2 l b ++ [(3, ansX 3)]) ⟨rfl, rfl, trivial⟩ ?_
  refine fnC lay_ok func27 rfl rfl rfl rfl rfl ?_
  repeat' first | refine stp lay_ok rfl ?_ | refine fin ?_ | refine n_thn ?_ | refine n_blk ?_ | refine r_thn ?_ | refine .seq ?_ | refine reg ?_ | refine .block ?_ | refine .skip ?_ | refine .ret ?_ | refine cndT rfl ?_ | refine cndF rfl ?_ | (refine o_none rfl ?_; (first | refine st_pure (hq) b52 rfl rfl rfl rfl ?_ | refine st_callK [0,1] (hF) b58 rfl rfl rfl rfl rfl (by (repeat' first | exact trivial | refine And.intro ?_ ?_ | rfl); first | done | fail) ?_ | refine st_pure (hrf) b53 rfl rfl rfl rfl ?_)) | fail
  all_goals first
    | (exfalso; omega)
    | skip
  refine f_end (n0 := 4) (t'' := [(6, .ptr 3 0)]) (h'' := [(0, .cells [.lsl 2 4 (gN b) (l.map rowN).length]), (2, .arr 4 (l.map rowN ++ gR b)), (3, ansX 3)]) (WkR.of [1, 3] (by (repeat' first | exact trivial | refine And.intro ?_ ?_ | rfl); first | done | fail) (by (repeat' first | exact trivial | refine And.intro ?_ ?_ | rfl); first | done | fail) rfl) rfl rfl ⟨?_, rfl⟩
  rfl
set_option maxHeartbeats 2000000 in
theorem do_none6 (l : List NV) (b : Bool) (c : Int) (o : OV) (hk : o.kind = 6) (hr : reqOk c o = true) (ho : o.fit) (hF : ACalls prog 58 2 [.ptr 0 0, I c, Sx o.name] (catX 1 l b) fun r h => r = I (-1) ∧ h = catX 1 l b) :
    ACalls prog 27 2 [.ptr 0 0, I c, .st (.agg (rowO o))] (catX 1 l b) fun r h => r = ansC 3 ∧ h = catX 2 l b := by
  have hq := req_ok c o ho
  rw [hr] at hq
  simp only [if_true] at hq
  have hrf := refused_ok 3
  obtain ⟨k, nm, p, ks, n⟩ := o
  simp only at hk hF
  subst hk
  refine ACalls.drop1 (h1 := catX 2 l b ++ [(3, ansX 3)]) ⟨rfl, rfl, trivial⟩ ?_
  refine fnC lay_ok func27 rfl rfl rfl rfl rfl ?_
  repeat' first | refine stp lay_ok rfl ?_ | refine fin ?_ | refine n_thn ?_ | refine n_blk ?_ | refine r_thn ?_ | refine .seq ?_ | refine reg ?_ | refine .block ?_ | refine .skip ?_ | refine .ret ?_ | refine cndT rfl ?_ | refine cndF rfl ?_ | (refine o_none rfl ?_; (first | refine st_pure (hq) b52 rfl rfl rfl rfl ?_ | refine st_callK [0,1] (hF) b58 rfl rfl rfl rfl rfl (by (repeat' first | exact trivial | refine And.intro ?_ ?_ | rfl); first | done | fail) ?_ | refine st_pure (hrf) b53 rfl rfl rfl rfl ?_)) | fail
  all_goals first
    | (exfalso; omega)
    | skip
  refine f_end (n0 := 4) (t'' := [(6, .ptr 3 0)]) (h'' := [(0, .cells [.lsl 2 4 (gN b) (l.map rowN).length]), (2, .arr 4 (l.map rowN ++ gR b)), (3, ansX 3)]) (WkR.of [1, 3] (by (repeat' first | exact trivial | refine And.intro ?_ ?_ | rfl); first | done | fail) (by (repeat' first | exact trivial | refine And.intro ?_ ?_ | rfl); first | done | fail) rfl) rfl rfl ⟨?_, rfl⟩
  rfl
set_option maxHeartbeats 2000000 in
theorem do_none7 (l : List NV) (b : Bool) (c : Int) (o : OV) (hk : o.kind = 7) (hr : reqOk c o = true) (ho : o.fit) (hF : ACalls prog 58 2 [.ptr 0 0, I c, Sx o.name] (catX 1 l b) fun r h => r = I (-1) ∧ h = catX 1 l b) :
    ACalls prog 27 2 [.ptr 0 0, I c, .st (.agg (rowO o))] (catX 1 l b) fun r h => r = ansC 3 ∧ h = catX 2 l b := by
  have hq := req_ok c o ho
  rw [hr] at hq
  simp only [if_true] at hq
  have hrf := refused_ok 3
  obtain ⟨k, nm, p, ks, n⟩ := o
  simp only at hk hF
  subst hk
  refine ACalls.drop1 (h1 := catX 2 l b ++ [(3, ansX 3)]) ⟨rfl, rfl, trivial⟩ ?_
  refine fnC lay_ok func27 rfl rfl rfl rfl rfl ?_
  repeat' first | refine stp lay_ok rfl ?_ | refine fin ?_ | refine n_thn ?_ | refine n_blk ?_ | refine r_thn ?_ | refine .seq ?_ | refine reg ?_ | refine .block ?_ | refine .skip ?_ | refine .ret ?_ | refine cndT rfl ?_ | refine cndF rfl ?_ | (refine o_none rfl ?_; (first | refine st_pure (hq) b52 rfl rfl rfl rfl ?_ | refine st_callK [0,1] (hF) b58 rfl rfl rfl rfl rfl (by (repeat' first | exact trivial | refine And.intro ?_ ?_ | rfl); first | done | fail) ?_ | refine st_pure (hrf) b53 rfl rfl rfl rfl ?_)) | fail
  all_goals first
    | (exfalso; omega)
    | skip
  refine f_end (n0 := 4) (t'' := [(6, .ptr 3 0)]) (h'' := [(0, .cells [.lsl 2 4 (gN b) (l.map rowN).length]), (2, .arr 4 (l.map rowN ++ gR b)), (3, ansX 3)]) (WkR.of [1, 3] (by (repeat' first | exact trivial | refine And.intro ?_ ?_ | rfl); first | done | fail) (by (repeat' first | exact trivial | refine And.intro ?_ ?_ | rfl); first | done | fail) rfl) rfl rfl ⟨?_, rfl⟩
  rfl
set_option maxHeartbeats 2000000 in
theorem do_2 (l L : List NV) (b b' : Bool) (c : Int) (o : OV) (A : NS) (i : Nat) (hk : o.kind = 2) (hr : reqOk c o = true) (ho : o.fit) (hF : ACalls prog 58 2 [.ptr 0 0, I c, Sx o.name] (catX 1 l b) fun r h => r = I i ∧ h = catX 1 l b)
    (hB : ACalls prog 59 2 [.ptr 0 0, I i, .st (.agg (rowO o))] (catX 1 l b) fun r h => r = ansS A ∧ h = catX 2 L b') :
    ACalls prog 27 2 [.ptr 0 0, I c, .st (.agg (rowO o))] (catX 1 l b) fun r h => r = ansS A ∧ h = catX 2 L b' := by
  have hq := req_ok c o ho
  rw [hr] at hq
  simp only [if_true] at hq
  obtain ⟨k, nm, p, ks, n⟩ := o
  simp only at hk hB hF
  subst hk
  refine ACalls.drop1 (h1 := catX 2 L b' ++ [(3, ansB A)]) ⟨rfl, rfl, trivial⟩ ?_
  refine fnC lay_ok func27 rfl rfl rfl rfl rfl ?_
  repeat' first | refine stp lay_ok rfl ?_ | refine fin ?_ | refine n_thn ?_ | refine n_blk ?_ | refine r_thn ?_ | refine r_blk ?_ | refine .seq ?_ | refine reg ?_ | refine .block ?_ | refine .skip ?_ | refine .ret ?_ | refine cndT rfl ?_ | refine cndF rfl ?_ | (refine o_none rfl ?_; (first | refine st_pure (hq) b52 rfl rfl rfl rfl ?_ | refine st_callK [0,1] (hF) b58 rfl rfl rfl rfl rfl (by (repeat' first | exact trivial | refine And.intro ?_ ?_ | rfl); first | done | fail) ?_ | refine st_callG [0,1] 1 (hB) b59 rfl rfl rfl rfl rfl (by (repeat' first | exact trivial | refine And.intro ?_ ?_ | rfl); first | done | fail) rfl ?_)) | fail
  all_goals first
    | (exfalso; omega)
    | skip
  refine f_end (n0 := 4) (t'' := [(6, .ptr 3 0)]) (h'' := [(0, .cells [.lsl 2 4 (gN b') (L.map rowN).length]), (2, .arr 4 (L.map rowN ++ gR b')), (3, ansB A)]) (WkR.of [4, 3] (by (repeat' first | exact trivial | refine And.intro ?_ ?_ | rfl); first | done | fail) (by (repeat' first | exact trivial | refine And.intro ?_ ?_ | rfl); first | done | fail) rfl) rfl rfl ⟨?_, rfl⟩
  rfl
set_option maxHeartbeats 2000000 in
theorem do_3 (l L : List NV) (b b' : Bool) (c : Int) (o : OV) (A : NS) (i : Nat) (hk : o.kind = 3) (hr : reqOk c o = true) (ho : o.fit) (hF : ACalls prog 58 2 [.ptr 0 0, I c, Sx o.name] (catX 1 l b) fun r h => r = I i ∧ h = catX 1 l b)
    (hB : ACalls prog 60 2 [.ptr 0 0, I i, B true] (catX 1 l b) fun r h => r = ansS A ∧ h = catX 2 L b') :
    ACalls prog 27 2 [.ptr 0 0, I c, .st (.agg (rowO o))] (catX 1 l b) fun r h => r = ansS A ∧ h = catX 2 L b' := by
  have hq := req_ok c o ho
  rw [hr] at hq
  simp only [if_true] at hq
  obtain ⟨k, nm, p, ks, n⟩ := o
  simp only at hk hB hF
  subst hk
  refine ACalls.drop1 (h1 := catX 2 L b' ++ [(3, ansB A)]) ⟨rfl, rfl, trivial⟩ ?_
  refine fnC lay_ok func27 rfl rfl rfl rfl rfl ?_
  repeat' first | refine stp lay_ok rfl ?_ | refine fin ?_ | refine n_thn ?_ | refine n_blk ?_ | refine r_thn ?_ | refine r_blk ?_ | refine .seq ?_ | refine reg ?_ | refine .block ?_ | refine .skip ?_ | refine .ret ?_ | refine cndT rfl ?_ | refine cndF rfl ?_ | (refine o_none rfl ?_; (first | refine st_pure (hq) b52 rfl rfl rfl rfl ?_ | refine st_callK [0,1] (hF) b58 rfl rfl rfl rfl rfl (by (repeat' first | exact trivial | refine And.intro ?_ ?_ | rfl); first | done | fail) ?_ | refine st_callG [0,1] 1 (hB) b60 rfl rfl rfl rfl rfl (by (repeat' first | exact trivial | refine And.intro ?_ ?_ | rfl); first | done | fail) rfl ?_)) | fail
  all_goals first
    | (exfalso; omega)
    | skip
  refine f_end (n0 := 4) (t'' := [(6, .ptr 3 0)]) (h'' := [(0, .cells [.lsl 2 4 (gN b') (L.map rowN).length]), (2, .arr 4 (L.map rowN ++ gR b')), (3, ansB A)]) (WkR.of [4, 3] (by (repeat' first | exact trivial | refine And.intro ?_ ?_ | rfl); first | done | fail) (by (repeat' first | exact trivial | refine And.intro ?_ ?_ | rfl); first | done | fail) rfl) rfl rfl ⟨?_, rfl⟩
  rfl
set_option maxHeartbeats 2000000 in
theorem do_4 (l L : List NV) (b b' : Bool) (c : Int) (o : OV) (A : NS) (i : Nat) (hk : o.kind = 4) (hr : reqOk c o = true) (ho : o.fit) (hF : ACalls prog 58 2 [.ptr 0 0, I c, Sx o.name] (catX 1 l b) fun r h => r = I i ∧ h = catX 1 l b)
    (hB : ACalls prog 60 2 [.ptr 0 0, I i, B false] (catX 1 l b) fun r h => r = ansS A ∧ h = catX 2 L b') :
    ACalls prog 27 2 [.ptr 0 0, I c, .st (.agg (rowO o))] (catX 1 l b) fun r h => r = ansS A ∧ h = catX 2 L b' := by
  have hq := req_ok c o ho
  rw [hr] at hq
  simp only [if_true] at hq
  obtain ⟨k, nm, p, ks, n⟩ := o
  simp only at hk hB hF
  subst hk
  refine ACalls.drop1 (h1 := catX 2 L b' ++ [(3, ansB A)]) ⟨rfl, rfl, trivial⟩ ?_
  refine fnC lay_ok func27 rfl rfl rfl rfl rfl ?_
  repeat' first | refine stp lay_ok rfl ?_ | refine fin ?_ | refine n_thn ?_ | refine n_blk ?_ | refine r_thn ?_ | refine r_blk ?_ | refine .seq ?_ | refine reg ?_ | refine .block ?_ | refine .skip ?_ | refine .ret ?_ | refine cndT rfl ?_ | refine cndF rfl ?_ | (refine o_none rfl ?_; (first | refine st_pure (hq) b52 rfl rfl rfl rfl ?_ | refine st_callK [0,1] (hF) b58 rfl rfl rfl rfl rfl (by (repeat' first | exact trivial | refine And.intro ?_ ?_ | rfl); first | done | fail) ?_ | refine st_callG [0,1] 1 (hB) b60 rfl rfl rfl rfl rfl (by (repeat' first | exact trivial | refine And.intro ?_ ?_ | rfl); first | done | fail) rfl ?_)) | fail
  all_goals first
    | (exfalso; omega)
    | skip
  refine f_end (n0 := 4) (t'' := [(6, .ptr 3 0)]) (h'' := [(0, .cells [.lsl 2 4 (gN b') (L.map rowN).length]), (2, .arr 4 (L.map rowN ++ gR b')), (3, ansB A)]) (WkR.of [4, 3] (by (repeat' first | exact trivial | refine And.intro ?_ ?_ | rfl); first | done | fail) (by (repeat' first | exact trivial | refine And.intro ?_ ?_ | rfl); first | done | fail) rfl) rfl rfl ⟨?_, rfl⟩
  rfl
set_option maxHeartbeats 2000000 in
theorem do_6 (l L : List NV) (b b' : Bool) (c : Int) (o : OV) (A : NS) (i : Nat) (hk : o.kind = 6) (hr : reqOk c o = true) (ho : o.fit) (hF : ACalls prog 58 2 [.ptr 0 0, I c, Sx o.name] (catX 1 l b) fun r h => r = I i ∧ h = catX 1 l b)
    (hB : ACalls prog 61 2 [.ptr 0 0, I i, Sx o.path] (catX 1 l b) fun r h => r = ansS A ∧ h = catX 2 L b') :
    ACalls prog 27 2 [.ptr 0 0, I c, .st (.agg (rowO o))] (catX 1 l b) fun r h => r = ansS A ∧ h = catX 2 L b' := by
  have hq := req_ok c o ho
  rw [hr] at hq
  simp only [if_true] at hq
  obtain ⟨k, nm, p, ks, n⟩ := o
  simp only at hk hB hF
  subst hk
  refine ACalls.drop1 (h1 := catX 2 L b' ++ [(3, ansB A)]) ⟨rfl, rfl, trivial⟩ ?_
  refine fnC lay_ok func27 rfl rfl rfl rfl rfl ?_
  repeat' first | refine stp lay_ok rfl ?_ | refine fin ?_ | refine n_thn ?_ | refine n_blk ?_ | refine r_thn ?_ | refine r_blk ?_ | refine .seq ?_ | refine reg ?_ | refine .block ?_ | refine .skip ?_ | refine .ret ?_ | refine cndT rfl ?_ | refine cndF rfl ?_ | (refine o_none rfl ?_; (first | refine st_pure (hq) b52 rfl rfl rfl rfl ?_ | refine st_callK [0,1] (hF) b58 rfl rfl rfl rfl rfl (by (repeat' first | exact trivial | refine And.intro ?_ ?_ | rfl); first | done | fail) ?_ | refine st_callG [0,1] 1 (hB) b61 rfl rfl rfl rfl rfl (by (repeat' first | exact trivial | refine And.intro ?_ ?_ | rfl); first | done | fail) rfl ?_)) | fail
  all_goals first
    | (exfalso; omega)
    | skip
  refine f_end (n0 := 4) (t'' := [(6, .ptr 3 0)]) (h'' := [(0, .cells [.lsl 2 4 (gN b') (L.map rowN).length]), (2, .arr 4 (L.map rowN ++ gR b')), (3, ansB A)]) (WkR.of [4, 3] (by (repeat' first | exact trivial | refine And.intro ?_ ?_ | rfl); first | done | fail) (by (repeat' first | exact trivial | refine And.intro ?_ ?_ | rfl); first | done | fail) rfl) rfl rfl ⟨?_, rfl⟩
  rfl
set_option maxHeartbeats 2000000 in
theorem do_plan0 (l : List NV) (c : Int) (o : OV) (i : Nat) (hi : i < l.length) (hl : l.length ≤ 4000000) (hd : l[i].done = false) (hk : o.kind = 7) (hr : reqOk c o = true) (ho : o.fit) (hF : ACalls prog 58 2 [.ptr 0 0, I c, Sx o.name] (catH l) fun r h => r = I i ∧ h = catH l) :
    ACalls prog 27 2 [.ptr 0 0, I c, .st (.agg (rowO o))] (catH l) fun r h => r = ansC 6 ∧ h = catO l := by
  have hq := req_ok c o ho
  rw [hr] at hq
  simp only [if_true] at hq
  have hm : (List.map rowN l).length = l.length := List.length_map _
  have hat : (List.map rowN l)[0 + ((i : Nat) : Int).toNat]? = some (rowN l[i]) := by simp [hi]
  have hrf := refused_ok 6
  obtain ⟨k, nm, p, ks, n⟩ := o
  simp only at hk hF
  subst hk
  generalize l[i] = s at *
  obtain ⟨c', n', d', es⟩ := s
  simp only at hd
  subst hd
  refine ACalls.drop1 (h1 := catO l ++ [(3, ansX 6)]) ⟨rfl, rfl, trivial⟩ ?_
  refine fnC lay_ok func27 rfl rfl rfl rfl rfl ?_
  repeat' first | refine stp lay_ok rfl ?_ | refine fin ?_ | refine n_thn ?_ | refine n_blk ?_ | refine r_thn ?_ | refine .seq ?_ | refine reg ?_ | refine .block ?_ | refine .skip ?_ | refine .ret ?_ | refine cndT rfl ?_ | refine cndF rfl ?_ | (refine o_none rfl ?_; (first | refine st_pure (hq) b52 rfl rfl rfl rfl ?_ | refine st_callK [0,1] (hF) b58 rfl rfl rfl rfl rfl (by (repeat' first | exact trivial | refine And.intro ?_ ?_ | rfl); first | done | fail) ?_ | refine st_indexL lay_ok rfl rfl rfl rfl (by omega) (by omega) ?_ | refine st_loadE [SV.int .i64 c', .str n', .bool false, .sl 3 (es.map rowE)] lay_ok rfl rfl rfl hat rfl rfl rfl ?_ | refine st_pure (hrf) b53 rfl rfl rfl rfl ?_)) | fail
  all_goals first
    | (exfalso; omega)
    | skip
  refine f_end (n0 := 4) (t'' := [(6, .ptr 3 0)]) (h'' := [(0, .cells [.lsl 2 4 0 (l.map rowN).length]), (2, .arr 4 (l.map rowN)), (3, ansX 6)]) (WkR.of [1, 3] (by (repeat' first | exact trivial | refine And.intro ?_ ?_ | rfl); first | done | fail) (by (repeat' first | exact trivial | refine And.intro ?_ ?_ | rfl); first | done | fail) rfl) rfl rfl ⟨?_, rfl⟩
  rfl
abbrev ansP (es : List EV) : AV := .st (.agg [.int .i64 0, .int .i64 0, .nilsl, .nilsl, .sl 3 (es.map rowE)])
set_option maxHeartbeats 2000000 in
theorem do_plan1 (l : List NV) (c : Int) (o : OV) (i : Nat) (hi : i < l.length) (hl : l.length ≤ 4000000) (hd : l[i].done = true) (hlen : l[i].entries.length ≤ 4000000000) (hks : ∀ e ∈ l[i].entries, e.keys.length ≤ 4000000000) (hk : o.kind = 7) (hr : reqOk c o = true) (ho : o.fit) (hF : ACalls prog 58 2 [.ptr 0 0, I c, Sx o.name] (catH l) fun r h => r = I i ∧ h = catH l) :
    ACalls prog 27 2 [.ptr 0 0, I c, .st (.agg (rowO o))] (catH l) fun r h => r = ansP l[i].entries ∧ h = catO l := by
  have hq := req_ok c o ho
  rw [hr] at hq
  simp only [if_true] at hq
  have hm : (List.map rowN l).length = l.length := List.length_map _
  have hat : (List.map rowN l)[0 + ((i : Nat) : Int).toNat]? = some (rowN l[i]) := by simp [hi]
  have hen := entries_ok l[i].entries hlen hks
  obtain ⟨k, nm, p, ks, n⟩ := o
  simp only at hk hF
  subst hk
  generalize l[i] = s at *
  obtain ⟨c', n', d', es⟩ := s
  simp only at hd hen ⊢
  subst hd
  refine ACalls.drop1 (h1 := catO l ++ [(3, .cells [.st (.int .i64 0), .st (.int .i64 0), .st .nilsl, .st .nilsl, .st (.sl 3 (es.map rowE))])]) ⟨rfl, rfl, trivial⟩ ?_
  refine fnC lay_ok func27 rfl rfl rfl rfl rfl ?_
  repeat' first | refine stp lay_ok rfl ?_ | refine fin ?_ | refine n_thn ?_ | refine n_blk ?_ | refine .seq ?_ | refine reg ?_ | refine .block ?_ | refine .skip ?_ | refine .ret ?_ | refine cndF rfl ?_ | (refine o_none rfl ?_; (first | refine st_pure (hq) b52 rfl rfl rfl rfl ?_ | refine st_callK [0,1] (hF) b58 rfl rfl rfl rfl rfl (by (repeat' first | exact trivial | refine And.intro ?_ ?_ | rfl); first | done | fail) ?_ | refine st_indexL lay_ok rfl rfl rfl rfl (by omega) (by omega) ?_ | refine st_loadE [SV.int .i64 c', .str n', .bool true, .sl 3 (es.map rowE)] lay_ok rfl rfl rfl hat rfl rfl rfl ?_ | refine st_pure (hen) b62 rfl rfl rfl rfl ?_)) | fail
  all_goals first
    | (exfalso; omega)
    | skip
  refine f_end (n0 := 4) (t'' := [(6, .ptr 3 0)]) (h'' := [(0, .cells [.lsl 2 4 0 (l.map rowN).length]), (2, .arr 4 (l.map rowN)), (3, .cells [.st (.int .i64 0), .st (.int .i64 0), .st .nilsl, .st .nilsl, .st (.sl 3 (es.map rowE))])]) (WkR.of [1, 3] (by (repeat' first | exact trivial | refine And.intro ?_ ?_ | rfl); first | done | fail) (by (repeat' first | exact trivial | refine And.intro ?_ ?_ | rfl); first | done | fail) rfl) rfl rfl ⟨?_, rfl⟩
  rfl
end Go.Proofs.YtohmbpcjapjkbaaGreatDoorFn
namespace Go.Proofs.YtohmbpcjapjkbaaGreatDoorFn
open Go.Proofs.YtohmbpcjapjkbaaGreatDoorAl Go.Proofs.Tryz
attribute [local irreducible] IntKind.wrap CodeOk OpsL OpG ACalls thn inBlk rndR cutR WkR Wk fnR DW ExtOk partsOf
/-! ### an operation -/
theorem ansC_le (n : Int) : AVLe (ansC n) (ansS (noA n)) := by
  refine AVLe.st (SLe.agg ?_)
  repeat' first | exact SLeL.nil | refine SLeL.cons ?_ ?_ | exact SLe.refl _ | exact SLe.nil _
theorem ansN_le (ns : List ByteArray) : AVLe (ansN ns) (ansS ⟨0, 0, ns, [], []⟩) := by
  refine AVLe.st (SLe.agg ?_)
  repeat' first | exact SLeL.nil | refine SLeL.cons ?_ ?_ | exact SLe.refl _ | exact SLe.nil _
theorem ansG_le (g : Nat) : AVLe (ansG g) (ansS ⟨0, g, [], [], []⟩) := by
  refine AVLe.st (SLe.agg ?_)
  repeat' first | exact SLeL.nil | refine SLeL.cons ?_ ?_ | exact SLe.refl _ | exact SLe.nil _
theorem ansH_le (ks : List ByteArray) : AVLe (ansH ks) (ansS ⟨0, 0, [], ks, []⟩) := by
  refine AVLe.st (SLe.agg ?_)
  repeat' first | exact SLeL.nil | refine SLeL.cons ?_ ?_ | exact SLe.refl _ | exact SLe.nil _
theorem ansP_le (es : List EV) : AVLe (ansP es) (ansS ⟨0, 0, [], [], es⟩) := by
  refine AVLe.st (SLe.agg ?_)
  repeat' first | exact SLeL.nil | refine SLeL.cons ?_ ?_ | exact SLe.refl _ | exact SLe.nil _
theorem ansK_le (n : Int) (ks : List ByteArray) : AVLe (ansK n ks) (ansS ⟨0, n, [], ks, []⟩) := by
  refine AVLe.st (SLe.agg ?_)
  repeat' first | exact SLeL.nil | refine SLeL.cons ?_ ?_ | exact SLe.refl _ | exact SLe.nil _
/-- Is there room behind an empty slice, behind an operation? -/
def doB (l : List NV) (b : Bool) (c : Int) (o : OV) : Bool :=
  if reqOk c o = false then b
  else if o.kind = 1 then (if (l.any (isS c o.name)) = true then b else if 8 ≤ many c l then b else false)
  else if o.kind = 8 then false
  else if o.kind = 4 then (match l.findIdx? (isS c o.name) with
    | none => b
    | some i => match l[i]? with
      | none => b
      | some s => if s.done = true then b else (l.eraseIdx i).isEmpty)
  else b
theorem set_at {l : List NV} {i : Nat} (hi : i < l.length) : l.set i l[i] = l := by
  apply List.ext_getElem?
  intro j
  rw [List.getElem?_set]
  split
  · rename_i hij; subst hij; simp [hi]
  · rfl
theorem doP_find {l : List NV} {c : Int} {o : OV} (hr : reqOk c o = true) (hk : o.kind = 2 ∨ o.kind = 3 ∨ o.kind = 4 ∨ o.kind = 6 ∨ o.kind = 7) : doP l c o = (match l.findIdx? (isS c o.name) with
    | none => (l, noA 3)
    | some i => match l[i]? with
      | some s => oneP l i s o
      | none => (l, noA 3)) := by
  unfold doP
  rw [if_neg (by simp [hr]), if_neg (by omega), if_neg (by omega), if_neg (by omega), if_neg (by omega)] <;> rfl
theorem doP_none {l : List NV} {c : Int} {o : OV} (hr : reqOk c o = true) (hk : o.kind = 2 ∨ o.kind = 3 ∨ o.kind = 4 ∨ o.kind = 6 ∨ o.kind = 7) (h : l.findIdx? (isS c o.name) = none) : doP l c o = (l, noA 3) := by
  rw [doP_find hr hk, h]
theorem doP_some {l : List NV} {c : Int} {o : OV} {i : Nat} (hr : reqOk c o = true) (hk : o.kind = 2 ∨ o.kind = 3 ∨ o.kind = 4 ∨ o.kind = 6 ∨ o.kind = 7) (h : l.findIdx? (isS c o.name) = some i) (hi : i < l.length) : doP l c o = oneP l i l[i] o := by
  rw [doP_find hr hk, h]
  simp only [List.getElem?_eq_getElem hi]
theorem doB_keep {l : List NV} {b : Bool} {c : Int} {o : OV} (h1 : o.kind ≠ 1) (h8 : o.kind ≠ 8) (h4 : o.kind ≠ 4) : doB l b c o = b := by
  unfold doB
  rw [if_neg h1, if_neg h8, if_neg h4]
  split <;> rfl
theorem doB_none {l : List NV} {b : Bool} {c : Int} {o : OV} (h1 : o.kind ≠ 1) (h8 : o.kind ≠ 8) (h : l.findIdx? (isS c o.name) = none) : doB l b c o = b := by
  unfold doB
  rw [if_neg h1, if_neg h8, h]
  split
  · rfl
  · split <;> rfl
theorem doB_nil {l : List NV} {b : Bool} {c : Int} {o : OV} (hb : b = true → l = []) (h : doB l b c o = true) : (doP l c o).1 = [] := by
  unfold doB at h
  split at h
  · rename_i hr
    unfold doP
    rw [if_pos hr]
    exact hb h
  rename_i hr
  have hr : reqOk c o = true := by simpa using hr
  split at h
  · rename_i hk
    unfold doP
    rw [if_neg (by simp [hr]), if_pos hk]
    split at h
    · rename_i ha; rw [if_pos ha]; exact hb h
    · rename_i ha
      rw [if_neg ha]
      split at h
      · rename_i h8; rw [if_pos h8]; exact hb h
      · cases h
  split at h
  · cases h
  rename_i h1 h8
  split at h
  · rename_i hk
    cases hf : l.findIdx? (isS c o.name) with
    | none =>
      rw [hf] at h
      rw [doP_none hr (by omega) hf]
      exact hb h
    | some i =>
      obtain ⟨hi, _⟩ := findS_some hf
      rw [hf] at h
      simp only [List.getElem?_eq_getElem hi] at h
      rw [doP_some hr (by omega) hf hi]
      unfold oneP
      rw [if_neg (by omega), if_neg (by omega), if_pos hk]
      split at h
      · rename_i hd; rw [if_pos hd]; exact hb h
      · rename_i hd; rw [if_neg hd]; exact List.isEmpty_iff.1 h
  · have hl := hb h
    subst hl
    unfold doP
    rw [if_neg (by simp [hr]), if_neg h1]
    split
    · rfl
    · first
        | rw [if_neg h8]
        | skip
      split <;> rfl
theorem tot_le64 : ∀ {ks : List ByteArray}, (∀ k ∈ ks, k.size ≤ 64) → tot ks ≤ ks.length * 64
  | [], _ => by simp [tot]
  | k :: r, h => by
    have := tot_le64 (ks := r) fun x hx => h x (.tail _ hx)
    have := h k (.head _)
    simp only [tot, List.length_cons, Nat.succ_mul]; omega
theorem reqOk_tot {c : Int} {o : OV} (h : reqOk c o = true) : o.keys.length ≤ 16 ∧ tot o.keys ≤ 1024 := by
  obtain ⟨_, _, h1, h2, _⟩ := reqOk_parts h
  have := tot_le64 (ks := o.keys) fun k hk => by
    have := List.all_eq_true.1 h2 k hk
    unfold keyOk at this
    simp at this; omega
  omega
theorem do_room (c : Int) (o : OV) (ho : o.fit) : ACalls prog 27 2 [.ptr 0 0, I c, .st (.agg (rowO o))] roomH fun r h => r = ansS (doP [] c o).2 ∧ h = catX 2 (doP [] c o).1 (doB [] true c o) := by
  cases hr : reqOk c o with
  | false =>
    have e1 : doP [] c o = ([], noA 1) := by unfold doP; rw [if_pos hr]
    have e2 : doB [] true c o = true := by unfold doB; rw [if_pos hr]
    rw [e1, e2]
    exact acalls_le (do_no [] true c o hr ho) (ansC_le 1)
  | true =>
    obtain ⟨_, hk, _, _, hn, _⟩ := reqOk_parts hr
    have : o.kind = 1 ∨ o.kind = 2 ∨ o.kind = 3 ∨ o.kind = 4 ∨ o.kind = 5 ∨ o.kind = 6 ∨ o.kind = 7 ∨ o.kind = 8 ∨ o.kind = 9 := by omega
    have hF := find_room c o.name
    rcases this with h | h | h | h | h | h | h | h | h
    · have e1 : doP [] c o = ([⟨c, o.name, false, []⟩], noA 0) := by unfold doP; rw [if_neg (by simp [hr]), if_pos h]; rfl
      have e2 : doB [] true c o = false := by unfold doB; rw [if_neg (by simp [hr]), if_pos h]; rfl
      rw [e1, e2]
      exact do_1 [] _ true _ c o (noA 0) h hr ho (acalls_le (begin_room c o.name) (ansC_le 0))
    · rw [doP_none hr (by omega) rfl, doB_none (by omega) (by omega) rfl]
      exact acalls_le (do_none2 [] true c o h hr ho hF) (ansC_le 3)
    · rw [doP_none hr (by omega) rfl, doB_none (by omega) (by omega) rfl]
      exact acalls_le (do_none3 [] true c o h hr ho hF) (ansC_le 3)
    · rw [doP_none hr (by omega) rfl, doB_none (by omega) (by omega) rfl]
      exact acalls_le (do_none4 [] true c o h hr ho hF) (ansC_le 3)
    · have e1 : doP [] c o = ([], noA 0) := by unfold doP; rw [if_neg (by simp [hr]), if_neg (by omega), if_pos h]; rfl
      rw [e1, doB_keep (by omega) (by omega) (by omega)]
      exact do_5 [] _ true _ c o (noA 0) h hr ho (acalls_le (list_room c) (ansC_le 0))
    · rw [doP_none hr (by omega) rfl, doB_none (by omega) (by omega) rfl]
      exact acalls_le (do_none6 [] true c o h hr ho hF) (ansC_le 3)
    · rw [doP_none hr (by omega) rfl, doB_none (by omega) (by omega) rfl]
      exact acalls_le (do_none7 [] true c o h hr ho hF) (ansC_le 3)
    · have hg : goneP [] c o.n = 0 := by unfold goneP; simp; omega
      have e1 : doP [] c o = ([], noA 0) := by unfold doP; rw [if_neg (by simp [hr]), if_neg (by omega), if_neg (by omega), if_pos h, hg]; rfl
      have e2 : doB [] true c o = false := by unfold doB; rw [if_neg (by simp [hr]), if_neg (by omega), if_pos h]
      rw [e1, e2]
      exact do_8 [] _ true _ c o (noA 0) h hr ho (acalls_le (prune_room c o.n hn) (ansC_le 0))
    · have hh : heldS [] = [] := sortS_nil.2 rfl
      have e1 : doP [] c o = ([], ⟨0, 0, [], [], []⟩) := by unfold doP; rw [if_neg (by simp [hr]), if_neg (by omega), if_neg (by omega), if_neg (by omega), if_pos h, hh]
      rw [e1, doB_keep (by omega) (by omega) (by omega)]
      exact do_9 [] _ true _ c o ⟨0, 0, [], [], []⟩ h hr ho (acalls_le held_room (ansH_le []))
theorem do_full (l : List NV) (c : Int) (o : OV) (hC : CatP l) (ho : o.fit) : ACalls prog 27 2 [.ptr 0 0, I c, .st (.agg (rowO o))] (catX 1 l false) fun r h => r = ansS (doP l c o).2 ∧ h = catX 2 (doP l c o).1 (doB l false c o) := by
  have hl := catP_len hC
  cases hr : reqOk c o with
  | false =>
    have e1 : doP l c o = (l, noA 1) := by unfold doP; rw [if_pos hr]
    have e2 : doB l false c o = false := by unfold doB; rw [if_pos hr]
    rw [e1, e2]
    exact acalls_le (do_no l false c o hr ho) (ansC_le 1)
  | true =>
    obtain ⟨_, hk, _, _, hn, _⟩ := reqOk_parts hr
    obtain ⟨ht1, ht2⟩ := reqOk_tot hr
    have hF0 : ACalls prog 58 2 [.ptr 0 0, I c, Sx o.name] (catX 1 l false) fun r h => r = I (findS l c o.name) ∧ h = catX 1 l false := by
      rw [catX_no 1]
      exact cfind_ok l c o.name (by omega)
    have : o.kind = 1 ∨ o.kind = 5 ∨ o.kind = 8 ∨ o.kind = 9 ∨ (o.kind = 2 ∨ o.kind = 3 ∨ o.kind = 4 ∨ o.kind = 6 ∨ o.kind = 7) := by omega
    rcases this with h | h | h | h | h
    · have e1 : doP l c o = ((begP l c o.name).1, noA (begP l c o.name).2) := by
        unfold doP begP
        rw [if_neg (by simp [hr]), if_pos h]
        split
        · rfl
        · split <;> rfl
      have e2 : doB l false c o = false := by
        unfold doB
        rw [if_neg (by simp [hr]), if_pos h]
        split
        · rfl
        · split <;> rfl
      rw [e1, e2]
      refine do_1 l _ false _ c o (noA (begP l c o.name).2) h hr ho ?_
      rw [catX_no 1, catX_no 2]
      exact acalls_le (begin_ok l c o.name (by omega)) (ansC_le _)
    · have e1 : doP l c o = (l, ⟨0, 0, lstN l c, [], []⟩) := by unfold doP; rw [if_neg (by simp [hr]), if_neg (by omega), if_pos h, lstN_eq]
      rw [e1, doB_keep (by omega) (by omega) (by omega)]
      refine do_5 l _ false _ c o ⟨0, 0, lstN l c, [], []⟩ h hr ho ?_
      rw [catX_no 1, catX_no 2]
      exact acalls_le (list_ok l c (by omega)) (ansN_le _)
    · have e1 : doP l c o = (remK (isO c true) (goneP l c o.n) l, ⟨0, goneP l c o.n, [], [], []⟩) := by unfold doP; rw [if_neg (by simp [hr]), if_neg (by omega), if_neg (by omega), if_pos h]
      have e2 : doB l false c o = false := by unfold doB; rw [if_neg (by simp [hr]), if_neg (by omega), if_pos h]
      rw [e1, e2]
      refine do_8 l _ false _ c o ⟨0, goneP l c o.n, [], [], []⟩ h hr ho ?_
      rw [catX_no 1, catX_no 2]
      exact acalls_le (prune_ok l c o.n hn (by omega)) (ansG_le _)
    · have e1 : doP l c o = (l, ⟨0, 0, [], heldS l, []⟩) := by unfold doP; rw [if_neg (by simp [hr]), if_neg (by omega), if_neg (by omega), if_neg (by omega), if_pos h]
      rw [e1, doB_keep (by omega) (by omega) (by omega)]
      refine do_9 l _ false _ c o ⟨0, 0, [], heldS l, []⟩ h hr ho ?_
      rw [catX_no 1, catX_no 2]
      have ha := allS_len hC
      have hz := allS_mem hC
      exact acalls_le (held_ok l (by omega) (fun s hs => by have := (hC.one s hs).small.2.1; omega) (fun s hs e he => by have := ((hC.one s hs).small.2.2 e he).2.1; omega) (by omega) (fun k hk => by have := hz k hk; omega)) (ansH_le _)
    · cases hf : l.findIdx? (isS c o.name) with
      | none =>
        rw [findS_none hf] at hF0
        rw [doP_none hr h hf, doB_none (by omega) (by omega) hf]
        rcases h with h | h | h | h | h
        · exact acalls_le (do_none2 l false c o h hr ho hF0) (ansC_le 3)
        · exact acalls_le (do_none3 l false c o h hr ho hF0) (ansC_le 3)
        · exact acalls_le (do_none4 l false c o h hr ho hF0) (ansC_le 3)
        · exact acalls_le (do_none6 l false c o h hr ho hF0) (ansC_le 3)
        · exact acalls_le (do_none7 l false c o h hr ho hF0) (ansC_le 3)
      | some i =>
        obtain ⟨hi, hfs, _⟩ := findS_some hf
        rw [hfs] at hF0
        rw [doP_some hr h hf hi]
        have hS := hC.one _ (List.getElem_mem hi)
        obtain ⟨_, z2, z3⟩ := hS.small
        have hop : o.path.size ≤ 4000000000 - 1 := ho.2.1
        have hps : ∀ e ∈ l[i].entries, e.path.size ≤ 4000000000 - 1 := fun e he => by have := (z3 e he).1; omega
        have hks : ∀ e ∈ l[i].entries, e.keys.length ≤ 4000000000 := fun e he => by have := (z3 e he).2.1; omega
        rcases h with h | h | h | h | h
        · rw [doB_keep (by omega) (by omega) (by omega)]
          have e0 : oneP l i l[i] o = (l.set i (addP l[i] o).1, (addP l[i] o).2) := by unfold oneP; rw [if_pos h]
          rw [e0]
          refine do_2 l _ false _ c o (addP l[i] o).2 i h hr ho hF0 ?_
          rw [catX_no 1, catX_no 2]
          unfold addP
          by_cases hd : l[i].done = true
          · rw [if_pos hd, set_at hi]
            exact acalls_le (add_done l i o hi (by omega) (by omega) (by omega) (by omega) hps hop hd) (ansC_le 6)
          have hd' : l[i].done = false := by simpa using hd
          rw [if_neg hd]
          by_cases hc0 : (l[i].entries.any fun e => clashB e.path o.path) = true
          · rw [if_pos hc0, set_at hi]
            exact acalls_le (add_clash l i o hi (by omega) (by omega) (by omega) (by omega) hps hop hd' hc0) (ansC_le 4)
          have hc0' : (l[i].entries.any fun e => clashB e.path o.path) = false := by simpa using hc0
          rw [if_neg hc0]
          by_cases h32 : 32 ≤ l[i].entries.length
          · rw [if_pos h32, set_at hi]
            exact acalls_le (add_full l i o hi (by omega) (by omega) (by omega) (by omega) hps hop hd' hc0' h32) (ansC_le 5)
          rw [if_neg h32]
          by_cases h1k : 1024 < tot o.keys
          · rw [if_pos h1k, set_at hi]
            exact acalls_le (add_large l i o hi (by omega) (by omega) (by omega) (by omega) hps hop hd' hc0' h32 h1k) (ansC_le 7)
          rw [if_neg h1k, hd']
          exact acalls_le (add_yes l i o hi (by omega) (by omega) (by omega) (by omega) hps hop hd' hc0' h32 h1k hS.tr.distinct) (ansC_le 0)
        · rw [doB_keep (by omega) (by omega) (by omega)]
          have e0 : oneP l i l[i] o = if l[i].done = true then (l, noA 6) else (l.set i ⟨l[i].client, l[i].name, true, l[i].entries⟩, noA 0) := by unfold oneP; rw [if_neg (by omega), if_pos h]
          rw [e0]
          by_cases hd : l[i].done = true
          · rw [if_pos hd]
            refine do_3 l _ false _ c o (noA 6) i h hr ho hF0 ?_
            rw [catX_no 1, catX_no 2]
            exact acalls_le (end_done l i hi true hd (by omega)) (ansC_le 6)
          · rw [if_neg hd]
            refine do_3 l _ false _ c o (noA 0) i h hr ho hF0 ?_
            rw [catX_no 1, catX_no 2]
            exact acalls_le (end_commit l i hi (by simpa using hd) (by omega)) (ansC_le 0)
        · have e0 : oneP l i l[i] o = if l[i].done = true then (l, noA 6) else (l.eraseIdx i, noA 0) := by unfold oneP; rw [if_neg (by omega), if_neg (by omega), if_pos h]
          have e2 : doB l false c o = if l[i].done = true then false else (l.eraseIdx i).isEmpty := by
            unfold doB
            rw [if_neg (by simp [hr]), if_neg (by omega), if_neg (by omega), if_pos h, hf]
            simp only [List.getElem?_eq_getElem hi]
          rw [e0, e2]
          by_cases hd : l[i].done = true
          · rw [if_pos hd, if_pos hd]
            refine do_4 l _ false _ c o (noA 6) i h hr ho hF0 ?_
            rw [catX_no 1, catX_no 2]
            exact acalls_le (end_done l i hi false hd (by omega)) (ansC_le 6)
          · rw [if_neg hd, if_neg hd]
            refine do_4 l _ false _ c o (noA 0) i h hr ho hF0 ?_
            rw [catX_no 1]
            exact acalls_le (end_abort l i hi (by simpa using hd) (by omega)) (ansC_le 0)
        · rw [doB_keep (by omega) (by omega) (by omega)]
          have e0 : oneP l i l[i] o = if l[i].done = false then (l, noA 6) else (l, match l[i].entries.find? fun e => decide (e.path = o.path) with
              | some e => ⟨0, e.size, [], e.keys, []⟩
              | none => noA 3) := by unfold oneP; rw [if_neg (by omega), if_neg (by omega), if_neg (by omega)]; split <;> first | rfl | (rw [if_pos h] <;> rfl)
          rw [e0]
          by_cases hd : l[i].done = false
          · rw [if_pos hd]
            refine do_6 l _ false _ c o (noA 6) i h hr ho hF0 ?_
            rw [catX_no 1, catX_no 2]
            exact acalls_le (look_not l i o.path hi hd (by omega)) (ansC_le 6)
          · rw [if_neg hd]
            have hT := (treeOk_iff _).2 hS.tr
            unfold treeOk at hT
            rw [Bool.and_eq_true, decide_eq_true_eq, Option.isNone_iff_eq_none] at hT
            have hlk := look_ok l i o.path hi (by simpa using hd) hT.2 hT.1 hps hks (by omega)
            unfold lookN at hlk
            cases hfe : l[i].entries.find? fun e => decide (e.path = o.path) with
            | some e =>
              rw [hfe] at hlk
              refine do_6 l _ false _ c o ⟨0, e.size, [], e.keys, []⟩ i h hr ho hF0 ?_
              rw [catX_no 1, catX_no 2]
              exact acalls_le hlk (ansK_le _ _)
            | none =>
              rw [hfe] at hlk
              refine do_6 l _ false _ c o (noA 3) i h hr ho hF0 ?_
              rw [catX_no 1, catX_no 2]
              exact acalls_le hlk (ansC_le 3)
        · rw [doB_keep (by omega) (by omega) (by omega)]
          have e0 : oneP l i l[i] o = if l[i].done = false then (l, noA 6) else (l, ⟨0, 0, [], [], l[i].entries⟩) := by unfold oneP; rw [if_neg (by omega), if_neg (by omega), if_neg (by omega)]; split <;> first | rfl | (rw [if_neg (by omega)] <;> rfl)
          rw [e0]
          rw [catX_no 1] at hF0
          by_cases hd : l[i].done = false
          · rw [if_pos hd, catX_no 1, catX_no 2]
            exact acalls_le (do_plan0 l c o i hi (by omega) hd h hr ho hF0) (ansC_le 6)
          · rw [if_neg hd, catX_no 1, catX_no 2]
            exact acalls_le (do_plan1 l c o i hi (by omega) (by simpa using hd) (by omega) hks h hr ho hF0) (ansP_le _)
/-- An operation of a catalog. -/
theorem do_ok (l : List NV) (b : Bool) (c : Int) (o : OV) (hb : b = true → l = []) (hC : CatP l) (ho : o.fit) : ACalls prog 27 2 [.ptr 0 0, I c, .st (.agg (rowO o))] (catX 1 l b) fun r h => r = ansS (doP l c o).2 ∧ h = catX 2 (doP l c o).1 (doB l b c o) := by
  cases b with
  | false => exact do_full l c o hC ho
  | true =>
    have hl := hb rfl
    subst hl
    exact do_room c o ho
end Go.Proofs.YtohmbpcjapjkbaaGreatDoorFn
namespace Go.Proofs.YtohmbpcjapjkbaaGreatDoorFn
open Go.Proofs.YtohmbpcjapjkbaaGreatDoorAl Go.Proofs.Tryz
attribute [local irreducible] IntKind.wrap CodeOk OpsL OpG ACalls thn inBlk rndR cutR WkR Wk fnR DW ExtOk partsOf
/-! ### a new catalog; a catalog's snapshots -/
theorem newC_ok : ACalls prog 30 0 [] [] fun r h => r = .ptr 0 0 ∧ h = catX 1 [] false := by
  refine fnC lay_ok func30 rfl rfl rfl rfl rfl ?_
  repeat' first | refine stp lay_ok rfl ?_ | refine fin ?_ | refine n_thn ?_ | refine .seq ?_ | refine reg ?_ | refine .ret ?_ | fail
  refine f_end (n0 := 2) (t'' := [(0, .ptr 0 0)]) (h'' := [(0, .cells [.lsl 1 4 0 0]), (1, .arr 4 [])]) (Wk.then (Wk.nilC 4 0 0 rfl rfl rfl rfl rfl) (WkR.of [0, 1] (by (repeat' first | exact trivial | refine And.intro ?_ ?_ | rfl); first | done | fail) (by (repeat' first | exact trivial | refine And.intro ?_ ?_ | rfl); first | done | fail) rfl)) rfl rfl ⟨?_, rfl⟩
  rfl
theorem cloneNO_ok (b : List NV) (hb : b.length ≤ 4000000000) : ACalls prog 84 1 [.lsl 0 4 0 (b.map rowN).length] [(0, .arr 4 (b.map rowN))] fun r h => r = .lsl 1 4 0 (b.map rowN).length ∧ h = [(0, .arr 4 (b.map rowN)), (1, .arr 4 (b.map rowN))] := by
  refine fnC lay_ok func84 rfl rfl rfl rfl rfl ?_
  have hm : (List.map rowN b).length = b.length := List.length_map _
  repeat' first | refine stp lay_ok rfl ?_ | refine fin ?_ | refine n_thn ?_ | refine r_thn ?_ | refine .seq ?_ | refine reg ?_ | refine .skip ?_ | refine .ret ?_ | refine cnd rfl (fun hc => ?_) (fun hc => ?_) | (refine o_none rfl ?_; (first | refine st_nilLs lay_ok rfl rfl rfl rfl (fun z hz => ?_) | refine st_append lay_ok rfl rfl rfl rfl rfl rfl rfl rfl .sl0 (.lsl rfl rfl) rfl rowN_one (by simp only [List.length_nil]; omega) (by simp only [List.length_nil]; omega) ?_)) | fail
  · cases z with
    | false => cases hc
    | true =>
      have h0 := hz rfl
      have hb0 : b = [] := List.length_eq_zero_iff.1 (by omega)
      subst hb0
      refine f_end (n0 := 2) (t'' := [(2, .lsl 1 4 0 0)]) (h'' := [(0, .arr 4 []), (1, .arr 4 [])]) (Wk.then (Wk.nilT 4 2 rfl rfl) (WkR.of [1] (by (repeat' first | exact trivial | refine And.intro ?_ ?_ | rfl); first | done | fail) (by (repeat' first | exact trivial | refine And.intro ?_ ?_ | rfl); first | done | fail) rfl)) rfl rfl ⟨?_, rfl⟩
      rfl
  · refine f_end (n0 := 2) (t'' := [(2, .lsl 1 4 0 (b.map rowN).length)]) (h'' := [(0, .arr 4 (b.map rowN)), (1, .arr 4 (b.map rowN))]) (WkR.of [1] (by (repeat' first | exact trivial | refine And.intro ?_ ?_ | rfl); first | done | fail) (by (repeat' first | exact trivial | refine And.intro ?_ ?_ | rfl); first | done | fail) rfl) rfl rfl ⟨?_, rfl⟩
    rfl
theorem snapshotsO_ok (b : List NV) (hb : b.length ≤ 4000000000) (hk : ∀ s ∈ b, s.fit) : ACalls prog 49 1 [.lsl 0 4 0 (b.map rowN).length] [(0, .arr 4 (b.map rowN))] fun r h => r = .st (.sl 4 (b.map rowN)) ∧ h = [(0, .arr 4 (b.map rowN))] := by
  refine fnC lay_ok func49 rfl rfl rfl rfl rfl ?_
  have hm : (List.map rowN b).length = b.length := List.length_map _
  have h1 := cloneNO_ok b hb
  repeat' first | refine ln ?_ | refine stp lay_ok rfl ?_ | refine fin ?_ | refine n_thn ?_ | refine .seq ?_ | refine reg ?_ | refine .block ?_ | (refine o_none rfl ?_; refine st_callF 1 (h1) b84 rfl rfl rfl rfl rfl rfl (by (repeat' first | exact trivial | refine And.intro ?_ ?_ | rfl); first | done | fail) rfl ?_) | fail
  refine lpR (fun k => k ≤ b.length) (fun k => b.length - k) (fun k => [(9, I k), (3, .lsl 1 4 0 (b.map rowN).length)]) (fun k => [(1, .arr 4 (b.map rowN))]) (0) [3, 8] [1] [] rfl rfl rfl (.of [] (by (repeat' first | exact trivial | refine And.intro ?_ ?_ | rfl); first | done | fail) (by (repeat' first | exact trivial | refine And.intro ?_ ?_ | rfl); first | done | fail) rfl) ?_ ?_
  · exact Nat.zero_le _
  rintro k hk0
  refine nrm rfl rfl ?_
  by_cases hk' : k < b.length
  · have hfit := hk _ (List.getElem_mem hk')
    have hcl := entries_ok b[k].entries hfit.2.1 (fun e he => (hfit.2.2 e he).2)
    have hat : (b.map rowN)[0 + ((k : Nat) : Int).toNat]? = some (rowN b[k]) := by simp [hk']
    have hset : (b.map rowN).set (0 + ((k : Nat) : Int).toNat) (putAt (rowN b[k]) 3 [.sl 3 (b[k].entries.map rowE)]) = b.map rowN := set_same hat
    generalize b[k] = e at *
    repeat' first | refine wr (by omega) ?_ | refine stp lay_ok rfl ?_ | refine fin ?_ | refine n_thn ?_ | refine n_blk ?_ | refine e_thn ?_ | refine e_hit ?_ | refine e_rr ?_ | refine .seq ?_ | refine reg ?_ | refine .block ?_ | refine .skip ?_ | refine .ret ?_ | refine .exit ?_ | refine c_dec rfl (fun hc => ?_) (fun hc => ?_) | ((first | refine o_none rfl ?_ | refine o_none_ ?_); (first | refine st_indexL lay_ok rfl rfl rfl rfl (by omega) (by omega) ?_ | refine st_loadE (rowN e) lay_ok rfl rfl rfl hat rfl rfl rfl ?_ | refine st_pure (hcl) b62 rfl rfl rfl rfl ?_)) | refine o_none_ (st_storeE lay_ok rfl rfl rfl hat rfl rfl rfl rfl ?_) | fail
    all_goals first
      | (exfalso; omega)
      | skip
    refine n_rr (k + 1) ?_ (.of [] (by (repeat' first | exact trivial | refine And.intro ?_ ?_ | rfl | first | exact congrArg (fun r => some (AO.arr 4 r)) hset | exact congrArg (fun z : Int => some (AV.st (.int .i64 z))) (show (k : Int) + 1 = ((k + 1 : Nat) : Int) by omega)); first | done | fail) (by (repeat' first | exact trivial | refine And.intro ?_ ?_ | rfl | first | exact congrArg (fun r => some (AO.arr 4 r)) hset | exact congrArg (fun z : Int => some (AV.st (.int .i64 z))) (show (k : Int) + 1 = ((k + 1 : Nat) : Int) by omega)); first | done | fail) rfl) ?_
    · omega
    · exact hk'
  · repeat' first | refine stp lay_ok rfl ?_ | refine fin ?_ | refine n_thn ?_ | refine e_thn ?_ | refine e_hit ?_ | refine e_rr ?_ | refine .seq ?_ | refine reg ?_ | refine .block ?_ | refine .skip ?_ | refine .ret ?_ | refine .exit ?_ | refine c_dec rfl (fun hc => ?_) (fun hc => ?_) | fail
    all_goals first
      | (exfalso; omega)
      | skip
    refine f_end (n0 := 1) (t'' := [(2, .st (.sl 4 (b.map rowN)))]) (h'' := [(0, .arr 4 (b.map rowN))]) (Wk.then (Wk.frz 1 [2] rfl rfl rfl (by (repeat' first | exact trivial | refine And.intro ?_ ?_ | rfl); first | done | fail) (by (repeat' first | exact trivial | refine And.intro ?_ ?_ | rfl); first | done | fail) rfl rfl) (WkR.of [] (by (repeat' first | exact trivial | refine And.intro ?_ ?_ | rfl); first | done | fail) (by (repeat' first | exact trivial | refine And.intro ?_ ?_ | rfl); first | done | fail) rfl)) rfl rfl ⟨?_, rfl⟩
    rfl
theorem snapsX_ok (l : List NV) (b : Bool) (hb : b = true → l = []) (hl : l.length ≤ 4000000000) (hk : ∀ s ∈ l, s.fit) : ACalls prog 19 2 [.ptr 0 0] (catX 1 l b) fun r h => r = .st (.sl 4 (l.map rowN)) ∧ h = catX 1 l b := by
  cases b with
  | false =>
    rw [catX_no 1]
    have h1 := snapshotsO_ok l hl hk
    refine fnC lay_ok func19 rfl rfl rfl rfl rfl ?_
    repeat' first | refine stp lay_ok rfl ?_ | refine fin ?_ | refine n_thn ?_ | refine .seq ?_ | refine reg ?_ | refine .ret ?_ | (refine o_none rfl ?_; refine st_callK [1] (h1) b49 rfl rfl rfl rfl rfl (by (repeat' first | exact trivial | refine And.intro ?_ ?_ | rfl); first | done | fail) ?_) | fail
    refine f_r [(0, .cells [.lsl 1 4 0 (l.map rowN).length]), (1, .arr 4 (l.map rowN))] rfl (by (repeat' first | exact trivial | refine And.intro ?_ ?_ | rfl); first | done | fail) rfl ⟨?_, rfl⟩
    rfl
  | true =>
    have h0 := hb rfl
    subst h0
    have h1 := snapshots_ok [] (by simp) (by simp)
    refine fnC lay_ok func19 rfl rfl rfl rfl rfl ?_
    repeat' first | refine stp lay_ok rfl ?_ | refine fin ?_ | refine n_thn ?_ | refine .seq ?_ | refine reg ?_ | fail
    refine OpsL.wk (Wk.tmp (t' := [(6, .st (.sl 4 []))]) fun c i y e => ?_) (Nat.le_refl _) ?_
    · rw [look_cons] at e
      split at e
      · rename_i hi
        cases e
        subst hi
        exact ⟨_, rfl, fun v h => room_st h⟩
      · cases e
    refine nrmO rfl rfl ?_
    repeat' first | refine stp lay_ok rfl ?_ | refine fin ?_ | refine n_thn ?_ | refine .ret ?_ | (refine o_none rfl ?_; refine st_pure (h1) b49 rfl rfl rfl rfl ?_) | fail
    refine f_r [(0, .cells [.lsl 1 4 1 0]), (1, .arr 4 [zrow])] rfl (by (repeat' first | exact trivial | refine And.intro ?_ ?_ | rfl); first | done | fail) rfl ⟨?_, rfl⟩
    rfl
end Go.Proofs.YtohmbpcjapjkbaaGreatDoorFn
namespace Go.Proofs.YtohmbpcjapjkbaaGreatDoorFn
open Go.Proofs.YtohmbpcjapjkbaaGreatDoorAl Go.Proofs.Tryz
attribute [local irreducible] IntKind.wrap CodeOk OpsL OpG ACalls thn inBlk rndR cutR WkR Wk fnR DW ExtOk partsOf
end Go.Proofs.YtohmbpcjapjkbaaGreatDoorFn
namespace Go.Proofs.YtohmbpcjapjkbaaGreatDoorFn
open Go.Proofs.YtohmbpcjapjkbaaGreatDoorAl Go.Proofs.Tryz
attribute [local irreducible] IntKind.wrap CodeOk OpsL OpG ACalls thn inBlk rndR cutR WkR Wk fnR DW ExtOk partsOf
end Go.Proofs.YtohmbpcjapjkbaaGreatDoorFn
namespace Go.Proofs.YtohmbpcjapjkbaaGreatDoorFn
open Go.Proofs.YtohmbpcjapjkbaaGreatDoorAl Go.Proofs.Tryz
attribute [local irreducible] IntKind.wrap CodeOk OpsL OpG ACalls thn inBlk rndR cutR WkR Wk fnR DW ExtOk partsOf
theorem catP_fits {l : List NV} (h : CatP l) : l.length ≤ 4000000000 ∧ ∀ s ∈ l, s.fit := ⟨by have := catP_len h; omega, fun s hs => (h.one s hs).fit⟩
end Go.Proofs.YtohmbpcjapjkbaaGreatDoorFn
namespace Go.Proofs.YtohmbpcjapjkbaaGreatDoorFn
open Go.Proofs.YtohmbpcjapjkbaaGreatDoorAl Go.Proofs.Tryz
attribute [local irreducible] IntKind.wrap CodeOk OpsL OpG ACalls thn inBlk rndR cutR WkR Wk fnR DW ExtOk partsOf
theorem b22 : HasBody prog 22 := ⟨f22, func22, Option.some_ne_none _, by decide⟩
/-! ### answers alike; a catalog of snapshots -/
def alikeB (a b : NS) : Bool := decide (a.code = b.code) && decide (a.n = b.n) && decide (a.names = b.names) && decide (a.keys = b.keys) && decide (a.entries = b.entries)
def NS.fit (a : NS) : Prop := a.names.length ≤ 4000000000 ∧ a.keys.length ≤ 4000000000 ∧ a.entries.length ≤ 4000000000 ∧ ∀ e ∈ a.entries, e.keys.length ≤ 4000000000
set_option maxHeartbeats 2000000 in
theorem alike_ok (a b : NS) (ha : a.fit) (hb : b.fit) : ACalls prog 22 0 [ansS a, ansS b] [] fun r h => r = B (alikeB a b) ∧ h = [] := by
  obtain ⟨a1, a2, a3, a4⟩ := ha
  obtain ⟨b1, b2, b3, b4⟩ := hb
  have h1 := same3_ok a.names b.names a1 b1
  have h2 := same3_ok a.keys b.keys a2 b2
  have h3 := sameAll_ok a.entries b.entries a3 b3 a4 b4
  have he : alikeB a b = (decide (a.code = b.code) && decide (a.n = b.n) && decide (a.names = b.names) && decide (a.keys = b.keys) && decide (a.entries = b.entries)) := rfl
  generalize decide (a.names = b.names) = X at *
  generalize decide (a.keys = b.keys) = Y at *
  generalize decide (a.entries = b.entries) = Z at *
  generalize alikeB a b = W at *
  obtain ⟨ac, an, ans, aks, aes⟩ := a
  obtain ⟨bc, bn, bns, bks, bes⟩ := b
  simp only at h1 h2 h3 he
  refine fnC lay_ok func22 rfl rfl rfl rfl rfl ?_
  cases X <;> cases Y <;> cases Z
  all_goals
    repeat' first | refine stp lay_ok rfl ?_ | refine fin ?_ | refine n_thn ?_ | refine .seq ?_ | refine reg ?_ | refine .ret ?_ | (refine o_yes rfl rfl rfl ?_; (first | refine st_pure (h1) b25 rfl rfl rfl rfl ?_ | refine st_pure (h2) b25 rfl rfl rfl rfl ?_ | refine st_pure (h3) b48 rfl rfl rfl rfl ?_)) | refine gd rfl rfl rfl (fun hg => ?_) (fun hg => ?_) | fail
    all_goals
      refine f_r [] rfl trivial rfl ⟨?_, rfl⟩
      rw [he]
      clear h1 h2 h3 he
      first
        | (simp_all [retOf, B]; done)
        | rfl
theorem alike_same (a : NS) : alikeB a a = true := by
  unfold alikeB
  simp
theorem doP_fit {l : List NV} (c : Int) (o : OV) (h : CatP l) : (doP l c o).2.fit := by
  have hl := catP_len h
  have no : ∀ n, (noA n).fit := fun n => ⟨by simp [noA], by simp [noA], by simp [noA], by simp [noA]⟩
  unfold doP
  split
  · exact no _
  split
  · split
    · exact no _
    split
    · exact no _
    · exact no _
  split
  · refine ⟨?_, by simp, by simp, by simp⟩
    show (List.map _ _).length ≤ _
    rw [List.length_map]
    have := List.length_filter_le (isO c true) l
    omega
  split
  · exact ⟨by simp, by simp, by simp, by simp⟩
  split
  · refine ⟨by simp, ?_, by simp, by simp⟩
    have h1 := allS_len h
    obtain ⟨_, _, h3⟩ := addF_facts (fun _ => True) (allS l) [] .nil (by simp) (by simp)
    show (heldS l).length ≤ _
    unfold heldS sortS
    rw [List.length_map, List.length_mergeSort, List.length_map]
    simp only [List.length_nil] at h3
    omega
  split
  · exact no _
  split
  · rename_i s hs
    have hS : SnapP s := h.one s (List.mem_of_getElem? hs)
    obtain ⟨_, z2, z3⟩ := hS.small
    unfold oneP
    split
    · unfold addP
      repeat' split
      all_goals exact no _
    split
    · split <;> exact no _
    split
    · split <;> exact no _
    split
    · exact no _
    split
    · simp only
      split
      · rename_i e he
        have hm : e ∈ s.entries := List.mem_of_find?_eq_some he
        have := (z3 e hm).2.1
        exact ⟨by simp, by show e.keys.length ≤ _; omega, by simp, by simp⟩
      · exact no _
    · exact ⟨by simp, by simp, by show s.entries.length ≤ _; omega, fun e he => by have := (z3 e he).2.1; omega⟩
  · exact no _
theorem snapshotsOO_ok (b : List NV) (hb : b.length ≤ 4000000000) (hk : ∀ s ∈ b, s.fit) : ACalls prog 49 0 [.st (.sl 4 (b.map rowN))] [] fun r h => r = .lsl 0 4 0 (b.map rowN).length ∧ h = [(0, .arr 4 (b.map rowN))] := by
  refine fnC lay_ok func49 rfl rfl rfl rfl rfl ?_
  have hm : (List.map rowN b).length = b.length := List.length_map _
  have h1 := cloneN_ok b hb
  repeat' first | refine ln ?_ | refine stp lay_ok rfl ?_ | refine fin ?_ | refine n_thn ?_ | refine .seq ?_ | refine reg ?_ | refine .block ?_ | (refine o_none rfl ?_; refine st_callF 1 (h1) b84 rfl rfl rfl rfl rfl rfl (by (repeat' first | exact trivial | refine And.intro ?_ ?_ | rfl); first | done | fail) rfl ?_) | fail
  refine lpR (fun k => k ≤ b.length) (fun k => b.length - k) (fun k => [(9, I k), (3, .lsl 0 4 0 (b.map rowN).length)]) (fun k => [(0, .arr 4 (b.map rowN))]) (0) [3, 8] [0] [] rfl rfl rfl (.of [] (by (repeat' first | exact trivial | refine And.intro ?_ ?_ | rfl); first | done | fail) (by (repeat' first | exact trivial | refine And.intro ?_ ?_ | rfl); first | done | fail) rfl) ?_ ?_
  · exact Nat.zero_le _
  rintro k hk0
  refine nrm rfl rfl ?_
  repeat' first | refine stp lay_ok rfl ?_ | refine fin ?_ | refine n_thn ?_ | refine e_thn ?_ | refine e_hit ?_ | refine e_rr ?_ | refine .seq ?_ | refine reg ?_ | refine .block ?_ | refine .skip ?_ | refine .ret ?_ | refine .exit ?_ | refine c_dec rfl (fun hc => ?_) (fun hc => ?_) | fail
  · have hk' : k < b.length := by omega
    have hfit := hk _ (List.getElem_mem hk')
    have hcl := entries_ok b[k].entries hfit.2.1 (fun e he => (hfit.2.2 e he).2)
    have hat : (b.map rowN)[0 + ((k : Nat) : Int).toNat]? = some (rowN b[k]) := by simp [hk']
    have hset : (b.map rowN).set (0 + ((k : Nat) : Int).toNat) (putAt (rowN b[k]) 3 [.sl 3 (b[k].entries.map rowE)]) = b.map rowN := set_same hat
    generalize b[k] = e at *
    repeat' first | refine wr (by omega) ?_ | refine stp lay_ok rfl ?_ | refine fin ?_ | refine n_thn ?_ | refine n_blk ?_ | refine reg ?_ | ((first | refine o_none rfl ?_ | refine o_none_ ?_); (first | refine st_indexL lay_ok rfl rfl rfl rfl (by omega) (by omega) ?_ | refine st_loadE (rowN e) lay_ok rfl rfl rfl hat rfl rfl rfl ?_ | refine st_pure (hcl) b62 rfl rfl rfl rfl ?_)) | refine o_none_ (st_storeE lay_ok rfl rfl rfl hat rfl rfl rfl rfl ?_) | fail
    refine n_rr (k + 1) ?_ (.of [] (by (repeat' first | exact trivial | refine And.intro ?_ ?_ | rfl | exact congrArg (fun r => some (AO.arr 4 r)) hset); first | done | fail) (by (repeat' first | exact trivial | refine And.intro ?_ ?_ | rfl | exact congrArg (fun r => some (AO.arr 4 r)) hset); first | done | fail) rfl) ?_
    · omega
    · exact hk'
  · refine f_end (n0 := 1) (t'' := [(2, .lsl 0 4 0 (b.map rowN).length)]) (h'' := [(0, .arr 4 (b.map rowN))]) (WkR.of [0] (by (repeat' first | exact trivial | refine And.intro ?_ ?_ | rfl); first | done | fail) (by (repeat' first | exact trivial | refine And.intro ?_ ?_ | rfl); first | done | fail) rfl) rfl rfl ⟨?_, rfl⟩
    rfl
end Go.Proofs.YtohmbpcjapjkbaaGreatDoorFn
