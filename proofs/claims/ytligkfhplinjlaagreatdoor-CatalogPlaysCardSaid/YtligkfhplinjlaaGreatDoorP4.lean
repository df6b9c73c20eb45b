/- The law CatalogPlays: for every input it says true: What any operations come to, one behind the other, from any snapshots on that may be a catalog's, and all snapshots then; or that they may not. No condition. -/
import Derived.Test.YtligkfhplinjlaaGreatDoorP3
import Derived.Test.YtligkfhplinjlaaGreatDoorAlZz
import Derived.Test.YtligkfhplinjlaaGreatDoorAlZn
import Derived.KernelRfl
import Derived.Test.YtligkfhplinjlaaGreatDoorRows
import Derived.Test.YtligkfhplinjlaaGreatDoorTie
import Derived.Test.YtligkfhplinjlaaGreatDoorCards
set_option linter.all false
namespace Go.Proofs.YtligkfhplinjlaaGreatDoorFn
open Go.Proofs.YtligkfhplinjlaaGreatDoorAl Go.Proofs.Tryz
attribute [local irreducible] IntKind.wrap CodeOk OpsL OpG ACalls thn inBlk rndR cutR WkR Wk fnR DW ExtOk partsOf
theorem b49 : HasBody prog 49 := ⟨f49, func49, Option.some_ne_none _, by decide⟩
/-! ### the document's chunks -/
theorem addS_not {S : List ByteArray} {k : ByteArray} (h : memB k S = false) : addS S k = S ++ [k] := by unfold addS; rw [h, if_neg (by simp)]
theorem addS_in {S : List ByteArray} {k : ByteArray} (h : memB k S = true) : addS S k = S := by unfold addS; rw [h, if_pos rfl]
theorem rowS_gS {d : List ByteArray} {j : Nat} (h : j < d.length) : (List.map rowS d)[0 + ((j : Nat) : Int).toNat]? = some [SV.str (gS d j)] := by
  rw [Nat.zero_add, Int.toNat_natCast, List.getElem?_map, List.getElem?_eq_getElem h, gS_at h]; rfl
theorem allS_take0 {l : List NV} {k : Nat} (h : k < l.length) : (allS (l.take (k + 1))).length = (allS (l.take k)).length + (l[k].entries.flatMap (·.keys)).length := by
  rw [List.take_succ_eq_append_getElem h]
  unfold allS
  rw [List.flatMap_append, List.length_append]; simp
theorem keysE_take0 {es : List EV} {k : Nat} (h : k < es.length) : ((es.take (k + 1)).flatMap (·.keys)).length = ((es.take k).flatMap (·.keys)).length + es[k].keys.length := by
  rw [List.take_succ_eq_append_getElem h, List.flatMap_append, List.length_append]; simp
theorem flat_take_le (es : List EV) (k : Nat) : ((es.take k).flatMap (·.keys)).length ≤ (es.flatMap (·.keys)).length := by
  have e : (es.flatMap (·.keys)).length = ((es.take k).flatMap (·.keys)).length + ((es.drop k).flatMap (·.keys)).length := by
    rw [← List.length_append, ← List.flatMap_append, List.take_append_drop]
  omega
theorem allS_sub (l : List NV) (k : Nat) : (allS (l.take k)).length ≤ (allS l).length := by
  have e : (allS l).length = (allS (l.take k)).length + (allS (l.drop k)).length := by
    unfold allS
    rw [← List.length_append, ← List.flatMap_append, List.take_append_drop]
  omega
set_option maxHeartbeats 16000000 in
set_option maxRecDepth 8000 in
theorem refHeld_ok (l : List NV) (hl : l.length ≤ 4000000) (hE : ∀ s ∈ l, s.entries.length ≤ 4000000) (hK : ∀ s ∈ l, ∀ e ∈ s.entries, e.keys.length ≤ 4000000) (hA : (allS l).length ≤ 4000000) :
    ACalls prog 49 2 [.ptr 0 0] (catH l) fun r h => r = .st (.sl 1 ((heldS l).map rowS)) ∧ h = catH l := by
  have hm : (List.map rowN l).length = l.length := List.length_map _
  have hfin : heldS l = sortS ((allS l).foldl addS []) := rfl
  rw [hfin]
  have hlenF := fun S l' => (addF_facts (fun _ => True) l' S)
  refine fnC lay_ok func49 rfl rfl rfl rfl rfl ?_
  repeat' first | refine stp lay_ok rfl ?_ | refine fin ?_ | refine n_thn ?_ | refine .seq ?_ | refine reg ?_ | refine .block ?_ | fail
  refine CodeOk.wk (Wk.nilT 1 3 rfl rfl) (Nat.le_succ _) ?_
  refine nrm rfl rfl ?_
  refine lpR (fun (k, S) => k ≤ l.length ∧ S = (allS (l.take k)).foldl addS [] ∧ S.length ≤ (allS (l.take k)).length) (fun (k, S) => l.length - k) (fun (k, S) => [(4, I k), (3, .lsl 3 1 0 (S.map rowS).length)]) (fun (k, S) => [(3, .arr 1 (S.map rowS))]) ((0, [])) [0] [] [2] rfl rfl rfl (.of [2] (by (repeat' first | exact trivial | refine And.intro ?_ ?_ | rfl); first | done | fail) (by (repeat' first | exact trivial | refine And.intro ?_ ?_ | rfl); first | done | fail) rfl) ?_ ?_
  · exact ⟨Nat.zero_le _, rfl, Nat.le_refl _⟩
  rintro ⟨k, S⟩ ⟨g1, g2, g3⟩
  refine nrm rfl rfl ?_
  have hmS : (List.map rowS S).length = S.length := List.length_map _
  by_cases hk : k < l.length
  case neg =>
    have hke : k = l.length := by omega
    subst hke
    rw [List.take_length] at g2 g3
    rw [← g2]
    repeat' first | refine ln ?_ | refine stp lay_ok rfl ?_ | refine fin ?_ | refine n_thn ?_ | refine e_thn ?_ | refine e_hit ?_ | refine e_rr ?_ | refine .seq ?_ | refine reg ?_ | refine .block ?_ | refine .skip ?_ | refine .exit ?_ | refine c_dec rfl (fun hc => ?_) (fun hc => ?_) | fail
    all_goals first
      | (exfalso; omega)
      | skip
    refine lpR (fun (i, d) => 1 ≤ i ∧ d.length = S.length ∧ d.Perm S ∧ (i ≤ S.length ∨ i = 1) ∧ srtTo d i) (fun (i, d) => S.length - i) (fun (i, d) => [(9, I i)]) (fun (i, d) => [(3, .arr 1 (d.map rowS))]) ((1, S)) [3] [3] [] rfl rfl rfl (.of [] (by (repeat' first | exact trivial | refine And.intro ?_ ?_ | rfl); first | done | fail) (by (repeat' first | exact trivial | refine And.intro ?_ ?_ | rfl); first | done | fail) rfl) ?_ ?_
    · exact ⟨Nat.le_refl _, rfl, List.Perm.refl _, .inr rfl, fun a b hab hb => by omega⟩
    rintro ⟨i, d⟩ ⟨m1, m2, m3, m4, m5⟩
    refine nrm rfl rfl ?_
    have hmd : (List.map rowS d).length = d.length := List.length_map _
    by_cases hi : i < S.length
    case neg =>
      have hs : sortS S = d := by
        rw [← sortS_perm m3]
        exact sortS_sorted fun a b hab hb => m5 a b hab (by omega)
      rw [hs]
      repeat' first | refine ln ?_ | refine stp lay_ok rfl ?_ | refine fin ?_ | refine n_thn ?_ | refine e_thn ?_ | refine e_hit ?_ | refine e_rr ?_ | refine .seq ?_ | refine reg ?_ | refine .block ?_ | refine .skip ?_ | refine .ret ?_ | refine .exit ?_ | refine c_dec rfl (fun hc => ?_) (fun hc => ?_) | fail
      all_goals first
        | (exfalso; omega)
        | skip
      rw [show (List.map rowS S).length = (List.map rowS d).length by rw [hmS, hmd, m2]]
      refine f_end (n0 := 2) (t'' := [(2, .st (.sl 1 (d.map rowS)))]) (h'' := [(0, .cells [.lsl 1 4 0 (l.map rowN).length]), (1, .arr 4 (l.map rowN))]) (Wk.then (Wk.frz 3 [2] rfl rfl rfl (by (repeat' first | exact trivial | refine And.intro ?_ ?_ | rfl); first | done | fail) (by (repeat' first | exact trivial | refine And.intro ?_ ?_ | rfl); first | done | fail) rfl rfl) (WkR.of [0, 1] (by (repeat' first | exact trivial | refine And.intro ?_ ?_ | rfl); first | done | fail) (by (repeat' first | exact trivial | refine And.intro ?_ ?_ | rfl); first | done | fail) rfl)) rfl rfl ⟨?_, rfl⟩
      rfl
    repeat' first | refine ln ?_ | refine stp lay_ok rfl ?_ | refine fin ?_ | refine n_thn ?_ | refine e_thn ?_ | refine e_hit ?_ | refine e_rr ?_ | refine .seq ?_ | refine reg ?_ | refine .block ?_ | refine .skip ?_ | refine .ret ?_ | refine .exit ?_ | refine c_dec rfl (fun hc => ?_) (fun hc => ?_) | fail
    all_goals first
      | (exfalso; omega)
      | skip
    refine lpR (fun (q, e) => q ≤ i ∧ e.length = S.length ∧ e.Perm S ∧ srtBut e (i + 1) q) (fun (q, e) => q) (fun (q, e) => [(10, I q)]) (fun (q, e) => [(3, .arr 1 (e.map rowS))]) ((i, d)) [3, 9] [3] [] rfl rfl rfl (.of [] (by (repeat' first | exact trivial | refine And.intro ?_ ?_ | rfl); first | done | fail) (by (repeat' first | exact trivial | refine And.intro ?_ ?_ | rfl); first | done | fail) rfl) ?_ ?_
    · exact ⟨Nat.le_refl _, m2, m3, srtBut_of m5⟩
    rintro ⟨q, e⟩ ⟨n1, n2, n3, n4⟩
    refine nrm rfl rfl ?_
    have hme : (List.map rowS e).length = e.length := List.length_map _
    have hexit : ∀ _ : (q = 0 ∨ (0 < q ∧ strLt (gS e q) (gS e (q - 1)) = false)), srtTo e (i + 1) := fun h => srtBut_done n4 n1 h
    by_cases hq : q = 0
    · subst hq
      have hso := hexit (.inl rfl)
      repeat' first | refine .seq ?_ | fail
      all_goals first
        | (exfalso; omega)
        | skip
      refine dreg [(0, [], []), (1, [0], []), (2, [0, 1], []), (3, [0, 1, 2], [86, 89, 90, 91, 92, 93]), (4, [0, 1, 2], [85, 89, 90, 91, 92, 93]), (5, [0, 1, 2, 3, 4], [89, 90, 91, 92, 93]), (6, [0, 1, 2, 3, 4, 5], [89, 90, 91, 92, 93]), (7, [0, 1, 2], [85, 86, 87, 88, 90, 91]), (8, [0, 1, 2], [85, 86, 87, 88, 89]), (9, [0, 1, 2, 8], [85, 86, 87, 88, 89]), (10, [0, 1, 2, 7, 8, 9], [85, 86, 87, 88]), (11, [0, 1, 2, 7, 8, 9, 10], [85, 86, 87, 88]), (12, [0, 1, 2, 3, 4, 5, 6, 7, 8, 9, 10, 11], []), (13, [0, 1, 2, 3, 4, 5, 6, 7, 8, 9, 10, 11, 12], [])] mixed (by kernel_rfl) ?_
      repeat' first | refine wr (by omega) ?_ | refine stp lay_ok rfl ?_ | refine fin ?_ | refine n_thn ?_ | refine n_blk ?_ | refine e_thn ?_ | refine e_hit ?_ | refine e_rr ?_ | refine reg ?_ | refine .exit ?_ | refine cndF rfl ?_ | refine dws lay_ok rfl rfl rfl rfl rfl rfl rfl ?_ | refine dw_end ?_ | refine dw_skip rfl rfl rfl ?_ | fail
      all_goals first
        | (exfalso; omega)
        | skip
      refine n_rr ((i + 1, e)) ?_ (.of [] (by (repeat' first | exact trivial | refine And.intro ?_ ?_ | rfl | exact congrArg (fun z : Int => some (AV.st (.int .i64 z))) (show (i : Int) + 1 = ((i + 1 : Nat) : Int) by omega)); first | done | fail) (by (repeat' first | exact trivial | refine And.intro ?_ ?_ | rfl | exact congrArg (fun z : Int => some (AV.st (.int .i64 z))) (show (i : Int) + 1 = ((i + 1 : Nat) : Int) by omega)); first | done | fail) rfl) ?_
      · show S.length - (i + 1) < S.length - i; omega
      · exact ⟨by omega, n2, n3, .inl hi, hso⟩
    have hq0 : 0 < q := by omega
    have hat1 := rowS_gS (d := e) (j := q) (by omega)
    have hat2 : (List.map rowS e)[0 + ((q : Int) - 1).toNat]? = some [SV.str (gS e (q - 1))] := by
      have := rowS_gS (d := e) (j := q - 1) (by omega)
      rw [← this]; congr 1; omega
    have hset1 : ((List.map rowS e).set (0 + ((q : Nat) : Int).toNat) [SV.str (gS e (q - 1))])[0 + ((q : Int) - 1).toNat]? = some [SV.str (gS e (q - 1))] := by
      rw [List.getElem?_set_ne (by omega)]; exact hat2
    have hset2 : ((List.map rowS e).set (0 + ((q : Nat) : Int).toNat) [SV.str (gS e (q - 1))]).set (0 + ((q : Int) - 1).toNat) [SV.str (gS e q)] = List.map rowS (swapS e q) := by
      rw [show (0 + ((q : Int) - 1).toNat) = q - 1 by omega, Nat.zero_add, Int.toNat_natCast]
      unfold swapS
      rw [List.map_set, List.map_set]; rfl
    cases hlt : strLt (gS e q) (gS e (q - 1)) with
    | false =>
      have hso := hexit (.inr ⟨hq0, hlt⟩)
      repeat' first | refine .seq ?_ | fail
      all_goals first
        | (exfalso; omega)
        | skip
      refine dreg [(0, [], []), (1, [0], []), (2, [0, 1], []), (3, [0, 1, 2], [86, 89, 90, 91, 92, 93]), (4, [0, 1, 2], [85, 89, 90, 91, 92, 93]), (5, [0, 1, 2, 3, 4], [89, 90, 91, 92, 93]), (6, [0, 1, 2, 3, 4, 5], [89, 90, 91, 92, 93]), (7, [0, 1, 2], [85, 86, 87, 88, 90, 91]), (8, [0, 1, 2], [85, 86, 87, 88, 89]), (9, [0, 1, 2, 8], [85, 86, 87, 88, 89]), (10, [0, 1, 2, 7, 8, 9], [85, 86, 87, 88]), (11, [0, 1, 2, 7, 8, 9, 10], [85, 86, 87, 88]), (12, [0, 1, 2, 3, 4, 5, 6, 7, 8, 9, 10, 11], []), (13, [0, 1, 2, 3, 4, 5, 6, 7, 8, 9, 10, 11, 12], [])] mixed (by kernel_rfl) ?_
      repeat' first | refine wr (by omega) ?_ | refine stp lay_ok rfl ?_ | refine fin ?_ | refine n_thn ?_ | refine n_blk ?_ | refine e_thn ?_ | refine e_hit ?_ | refine e_rr ?_ | refine .seq ?_ | refine reg ?_ | refine .block ?_ | refine .skip ?_ | refine .exit ?_ | refine cndF rfl ?_ | refine cnd rfl (fun hc => ?_) (fun hc => ?_) | ((first | refine o_none rfl ?_ | refine o_none_ ?_); (first | refine st_indexL lay_ok rfl rfl rfl rfl (by omega) (by omega) ?_ | refine st_loadE [SV.str (gS e q)] lay_ok rfl rfl rfl hat1 rfl rfl rfl ?_ | refine st_loadE [SV.str (gS e (q - 1))] lay_ok rfl rfl rfl hat2 rfl rfl rfl ?_)) | refine dwr (by omega) ?_ | refine dws lay_ok rfl rfl rfl rfl rfl rfl rfl ?_ | refine dw_end ?_ | refine dw_skip rfl rfl rfl ?_ | refine dwb rfl rfl rfl rfl rfl (by (first | refine st_indexL lay_ok rfl rfl rfl rfl (by omega) (by omega) ?_ | refine st_loadE [SV.str (gS e q)] lay_ok rfl rfl rfl hat1 rfl rfl rfl ?_ | refine st_loadE [SV.str (gS e (q - 1))] lay_ok rfl rfl rfl hat2 rfl rfl rfl ?_); exact fin rfl) rfl rfl ?_ | refine dw_dec rfl rfl rfl (fun hg => ?_) (fun hg => ?_) | fail
      all_goals first
        | (exfalso; omega)
        | (exfalso; exact absurd (show strLt (gS e q) (gS e (q - 1)) = true from by assumption) (by rw [hlt]; simp))
        | skip
      refine n_rr ((i + 1, e)) ?_ (.of [] (by (repeat' first | exact trivial | refine And.intro ?_ ?_ | rfl | exact congrArg (fun z : Int => some (AV.st (.int .i64 z))) (show (i : Int) + 1 = ((i + 1 : Nat) : Int) by omega)); first | done | fail) (by (repeat' first | exact trivial | refine And.intro ?_ ?_ | rfl | exact congrArg (fun z : Int => some (AV.st (.int .i64 z))) (show (i : Int) + 1 = ((i + 1 : Nat) : Int) by omega)); first | done | fail) rfl) ?_
      · show S.length - (i + 1) < S.length - i; omega
      · exact ⟨by omega, n2, n3, .inl hi, hso⟩
    | true =>
      have hstep := swap_step (d := e) (i := i + 1) (k := q) (by omega) hq0 (by omega) n4 hlt
      have hperm := (swapS_perm e q (by omega) hq0).trans n3
      have hlen := swapS_len e q
      repeat' first | refine .seq ?_ | fail
      all_goals first
        | (exfalso; omega)
        | skip
      refine dreg [(0, [], []), (1, [0], []), (2, [0, 1], []), (3, [0, 1, 2], [86, 89, 90, 91, 92, 93]), (4, [0, 1, 2], [85, 89, 90, 91, 92, 93]), (5, [0, 1, 2, 3, 4], [89, 90, 91, 92, 93]), (6, [0, 1, 2, 3, 4, 5], [89, 90, 91, 92, 93]), (7, [0, 1, 2], [85, 86, 87, 88, 90, 91]), (8, [0, 1, 2], [85, 86, 87, 88, 89]), (9, [0, 1, 2, 8], [85, 86, 87, 88, 89]), (10, [0, 1, 2, 7, 8, 9], [85, 86, 87, 88]), (11, [0, 1, 2, 7, 8, 9, 10], [85, 86, 87, 88]), (12, [0, 1, 2, 3, 4, 5, 6, 7, 8, 9, 10, 11], []), (13, [0, 1, 2, 3, 4, 5, 6, 7, 8, 9, 10, 11, 12], [])] mixed (by kernel_rfl) ?_
      repeat' first | refine wr (by omega) ?_ | refine stp lay_ok rfl ?_ | refine fin ?_ | refine n_thn ?_ | refine n_blk ?_ | refine e_thn ?_ | refine e_hit ?_ | refine e_rr ?_ | refine .seq ?_ | refine reg ?_ | refine .block ?_ | refine .skip ?_ | refine .exit ?_ | refine cndF rfl ?_ | refine cnd rfl (fun hc => ?_) (fun hc => ?_) | ((first | refine o_none rfl ?_ | refine o_none_ ?_); (first | refine st_indexL lay_ok rfl rfl rfl rfl (by omega) (by omega) ?_ | refine st_loadE [SV.str (gS e q)] lay_ok rfl rfl rfl hat1 rfl rfl rfl ?_ | refine st_loadE [SV.str (gS e (q - 1))] lay_ok rfl rfl rfl hat2 rfl rfl rfl ?_)) | refine o_none_ (st_storeE lay_ok rfl rfl rfl hat1 rfl rfl rfl rfl ?_) | refine o_none_ (st_storeE lay_ok rfl rfl rfl hset1 rfl rfl rfl rfl ?_) | refine dwr (by omega) ?_ | refine dws lay_ok rfl rfl rfl rfl rfl rfl rfl ?_ | refine dw_end ?_ | refine dw_skip rfl rfl rfl ?_ | refine dwb rfl rfl rfl rfl rfl (by (first | refine st_indexL lay_ok rfl rfl rfl rfl (by omega) (by omega) ?_ | refine st_loadE [SV.str (gS e q)] lay_ok rfl rfl rfl hat1 rfl rfl rfl ?_ | refine st_loadE [SV.str (gS e (q - 1))] lay_ok rfl rfl rfl hat2 rfl rfl rfl ?_); exact fin rfl) rfl rfl ?_ | refine dw_dec rfl rfl rfl (fun hg => ?_) (fun hg => ?_) | fail
      all_goals first
        | (exfalso; omega)
        | (exfalso; rw [show strLt (gS e q) (gS e (q - 1)) = false from by assumption] at hlt; exact Bool.noConfusion hlt)
        | skip
      refine n_rr ((q - 1, swapS e q)) ?_ (.of [] (by (repeat' first | exact trivial | refine And.intro ?_ ?_ | rfl | first | exact congrArg (fun z : Int => some (AV.st (.int .i64 z))) (show (q : Int) - 1 = ((q - 1 : Nat) : Int) by omega) | exact congrArg (fun r => some (AO.arr 1 r)) hset2); first | done | fail) (by (repeat' first | exact trivial | refine And.intro ?_ ?_ | rfl | first | exact congrArg (fun z : Int => some (AV.st (.int .i64 z))) (show (q : Int) - 1 = ((q - 1 : Nat) : Int) by omega) | exact congrArg (fun r => some (AO.arr 1 r)) hset2); first | done | fail) rfl) ?_
      · show q - 1 < q; omega
      · exact ⟨by omega, by rw [hlen]; exact n2, hperm, hstep⟩
  have hat : (List.map rowN l)[0 + ((k : Nat) : Int).toNat]? = some (rowN l[k]) := by simp [hk]
  have hst : (allS (l.take (k + 1))).foldl addS [] = (l[k].entries.flatMap (·.keys)).foldl addS S := by
    rw [g2, List.take_succ_eq_append_getElem hk]
    unfold allS
    rw [List.flatMap_append, List.foldl_append]; simp
  have hatk := allS_take0 hk
  have hsub : (allS (l.take (k + 1))).length ≤ (allS l).length := allS_sub l (k + 1)
  have hEk := hE _ (List.getElem_mem hk)
  have hKk := hK _ (List.getElem_mem hk)
  generalize l[k] = s at *
  obtain ⟨c', n', d', es⟩ := s
  simp only at hst hEk hKk hatk
  have hme : (List.map rowE es).length = es.length := List.length_map _
  repeat' first | refine ln ?_ | refine stp lay_ok rfl ?_ | refine fin ?_ | refine n_thn ?_ | refine e_thn ?_ | refine e_hit ?_ | refine e_rr ?_ | refine .seq ?_ | refine reg ?_ | refine .block ?_ | refine .skip ?_ | refine .exit ?_ | refine c_dec rfl (fun hc => ?_) (fun hc => ?_) | fail
  all_goals first
    | (exfalso; omega)
    | skip
  refine lpR (fun (i, S2) => i ≤ es.length ∧ S2 = ((es.take i).flatMap (·.keys)).foldl addS S ∧ S2.length ≤ S.length + ((es.take i).flatMap (·.keys)).length) (fun (i, S2) => es.length - i) (fun (i, S2) => [(5, I i), (3, .lsl 4 1 0 (S2.map rowS).length)]) (fun (i, S2) => [(4, .arr 1 (S2.map rowS))]) ((0, S)) [0, 4] [] [3] rfl rfl rfl (.of [3] (by (repeat' first | exact trivial | refine And.intro ?_ ?_ | rfl); first | done | fail) (by (repeat' first | exact trivial | refine And.intro ?_ ?_ | rfl); first | done | fail) rfl) ?_ ?_
  · exact ⟨Nat.zero_le _, rfl, Nat.le_refl _⟩
  rintro ⟨i, S2⟩ ⟨m1, m2, m3⟩
  refine nrm rfl rfl ?_
  have hmS2 : (List.map rowS S2).length = S2.length := List.length_map _
  by_cases hi : i < es.length
  case neg =>
    have hie : i = es.length := by omega
    subst hie
    rw [List.take_length] at m2 m3
    repeat' first | refine wr (by omega) ?_ | refine ln ?_ | refine stp lay_ok rfl ?_ | refine fin ?_ | refine n_thn ?_ | refine n_blk ?_ | refine e_thn ?_ | refine e_hit ?_ | refine e_rr ?_ | refine .seq ?_ | refine reg ?_ | refine .block ?_ | refine .skip ?_ | refine .exit ?_ | refine c_dec rfl (fun hc => ?_) (fun hc => ?_) | (refine o_none rfl ?_; (first | refine st_indexL lay_ok rfl rfl rfl rfl (by omega) (by omega) ?_ | refine st_loadE [SV.int .i64 c', .str n', .bool d', .sl 3 (es.map rowE)] lay_ok rfl rfl rfl hat rfl rfl rfl ?_)) | fail
    all_goals first
      | (exfalso; omega)
      | skip
    refine n_rr ((k + 1, S2)) ?_ (.of [4] (by (repeat' first | exact trivial | refine And.intro ?_ ?_ | rfl | exact congrArg (fun z : Int => some (AV.st (.int .i64 z))) (show (k : Int) + 1 = ((k + 1 : Nat) : Int) by omega)); first | done | fail) (by (repeat' first | exact trivial | refine And.intro ?_ ?_ | rfl | exact congrArg (fun z : Int => some (AV.st (.int .i64 z))) (show (k : Int) + 1 = ((k + 1 : Nat) : Int) by omega)); first | done | fail) rfl) ?_
    · show l.length - (k + 1) < l.length - k; omega
    · exact ⟨hk, by rw [hst]; exact m2, by omega⟩
  have hat2 := at_rowE hi
  have hst2 : ((es.take (i + 1)).flatMap (·.keys)).foldl addS S = es[i].keys.foldl addS S2 := by
    rw [m2, List.take_succ_eq_append_getElem hi, List.flatMap_append, List.foldl_append]; simp
  have hkt := keysE_take0 hi
  have hft := flat_take_le es (i + 1)
  have hKi := hKk _ (List.getElem_mem hi)
  generalize es[i] = e at *
  obtain ⟨p, z, ks⟩ := e
  simp only at hst2 hKi hkt
  have hmk : (List.map rowS ks).length = ks.length := List.length_map _
  repeat' first | refine wr (by omega) ?_ | refine ln ?_ | refine stp lay_ok rfl ?_ | refine fin ?_ | refine n_thn ?_ | refine n_blk ?_ | refine e_thn ?_ | refine e_hit ?_ | refine e_rr ?_ | refine .seq ?_ | refine reg ?_ | refine .block ?_ | refine .skip ?_ | refine .exit ?_ | refine c_dec rfl (fun hc => ?_) (fun hc => ?_) | (refine o_none rfl ?_; (first | refine st_indexL lay_ok rfl rfl rfl rfl (by omega) (by omega) ?_ | refine st_loadE [SV.int .i64 c', .str n', .bool d', .sl 3 (es.map rowE)] lay_ok rfl rfl rfl hat rfl rfl rfl ?_)) | fail
  all_goals first
    | (exfalso; omega)
    | skip
  refine lpR (fun (j, S3) => j ≤ ks.length ∧ S3 = (ks.take j).foldl addS S2 ∧ S3.length ≤ S2.length + j) (fun (j, S3) => ks.length - j) (fun (j, S3) => [(6, I j), (3, .lsl 5 1 0 (S3.map rowS).length)]) (fun (j, S3) => [(5, .arr 1 (S3.map rowS))]) ((0, S2)) [0, 4, 5] [] [4] rfl rfl rfl (.of [4] (by (repeat' first | exact trivial | refine And.intro ?_ ?_ | rfl); first | done | fail) (by (repeat' first | exact trivial | refine And.intro ?_ ?_ | rfl); first | done | fail) rfl) ?_ ?_
  · exact ⟨Nat.zero_le _, rfl, Nat.le_refl _⟩
  rintro ⟨j, S3⟩ ⟨q1, q2, q3⟩
  refine nrm rfl rfl ?_
  have hmS3 : (List.map rowS S3).length = S3.length := List.length_map _
  by_cases hj : j < ks.length
  case neg =>
    have hje : j = ks.length := by omega
    subst hje
    rw [List.take_length] at q2
    repeat' first | refine wr (by omega) ?_ | refine ln ?_ | refine stp lay_ok rfl ?_ | refine fin ?_ | refine n_thn ?_ | refine n_blk ?_ | refine e_thn ?_ | refine e_hit ?_ | refine e_rr ?_ | refine .seq ?_ | refine reg ?_ | refine .block ?_ | refine .skip ?_ | refine .exit ?_ | refine c_dec rfl (fun hc => ?_) (fun hc => ?_) | (refine o_none rfl ?_; (first | refine st_indexL lay_ok rfl rfl rfl rfl (by omega) (by omega) ?_ | refine st_loadE [SV.int .i64 c', .str n', .bool d', .sl 3 (es.map rowE)] lay_ok rfl rfl rfl hat rfl rfl rfl ?_ | refine st_index [SV.str p, .int .i64 z, .sl 1 (ks.map rowS)] lay_ok rfl rfl rfl rfl (by omega) hat2 ?_)) | fail
    all_goals first
      | (exfalso; omega)
      | skip
    refine n_rr ((i + 1, S3)) ?_ (.of [5] (by (repeat' first | exact trivial | refine And.intro ?_ ?_ | rfl | exact congrArg (fun z : Int => some (AV.st (.int .i64 z))) (show (i : Int) + 1 = ((i + 1 : Nat) : Int) by omega)); first | done | fail) (by (repeat' first | exact trivial | refine And.intro ?_ ?_ | rfl | exact congrArg (fun z : Int => some (AV.st (.int .i64 z))) (show (i : Int) + 1 = ((i + 1 : Nat) : Int) by omega)); first | done | fail) rfl) ?_
    · show es.length - (i + 1) < es.length - i; omega
    · exact ⟨hi, by rw [hst2]; exact q2, by omega⟩
  have hat3 := at_rowS hj
  have hst3 : (ks.take (j + 1)).foldl addS S2 = addS S3 ks[j] := by
    rw [q2, List.take_succ_eq_append_getElem hj, List.foldl_append]; rfl
  have hhas := hasK_ok S3 ks[j] (by omega)
  generalize ks[j] = y at *
  have hr : List.map rowS S3 ++ [[SV.str y]] = List.map rowS (S3 ++ [y]) := by rw [List.map_append]; rfl
  cases hmem : memB y S3 with
  | true =>
    rw [hmem] at hhas
    rw [addS_in hmem] at hst3
    repeat' first | refine wr (by omega) ?_ | refine ln ?_ | refine stp lay_ok rfl ?_ | refine fin ?_ | refine n_thn ?_ | refine n_blk ?_ | refine e_thn ?_ | refine e_hit ?_ | refine e_rr ?_ | refine .seq ?_ | refine reg ?_ | refine .block ?_ | refine .skip ?_ | refine .exit ?_ | refine cndF rfl ?_ | refine c_dec rfl (fun hc => ?_) (fun hc => ?_) | (refine o_none rfl ?_; (first | refine st_indexL lay_ok rfl rfl rfl rfl (by omega) (by omega) ?_ | refine st_loadE [SV.int .i64 c', .str n', .bool d', .sl 3 (es.map rowE)] lay_ok rfl rfl rfl hat rfl rfl rfl ?_ | refine st_index [SV.str p, .int .i64 z, .sl 1 (ks.map rowS)] lay_ok rfl rfl rfl rfl (by omega) hat2 ?_ | refine st_index [SV.str y] lay_ok rfl rfl rfl rfl (by omega) hat3 ?_ | refine st_borrow (hhas) b16 rfl rfl (by (repeat' first | refine Borrow.cons' rfl ?_ ?_ | exact Borrow.nil' rfl | exact trivial | exact rfl | refine And.intro ?_ ?_); first | done | fail) rfl ?_)) | fail
    all_goals first
      | (exfalso; omega)
      | skip
    refine n_rr ((j + 1, S3)) ?_ (.of [5] (by (repeat' first | exact trivial | refine And.intro ?_ ?_ | rfl | exact congrArg (fun z : Int => some (AV.st (.int .i64 z))) (show (j : Int) + 1 = ((j + 1 : Nat) : Int) by omega)); first | done | fail) (by (repeat' first | exact trivial | refine And.intro ?_ ?_ | rfl | exact congrArg (fun z : Int => some (AV.st (.int .i64 z))) (show (j : Int) + 1 = ((j + 1 : Nat) : Int) by omega)); first | done | fail) rfl) ?_
    · show ks.length - (j + 1) < ks.length - j; omega
    · exact ⟨hj, hst3.symm, by omega⟩
  | false =>
    rw [hmem] at hhas
    rw [addS_not hmem] at hst3
    repeat' first | refine wr (by omega) ?_ | refine ln ?_ | refine stp lay_ok rfl ?_ | refine fin ?_ | refine n_thn ?_ | refine n_blk ?_ | refine e_thn ?_ | refine e_hit ?_ | refine e_rr ?_ | refine .seq ?_ | refine reg ?_ | refine .block ?_ | refine .skip ?_ | refine .exit ?_ | refine cndT rfl ?_ | refine c_dec rfl (fun hc => ?_) (fun hc => ?_) | (refine o_none rfl ?_; (first | refine st_indexL lay_ok rfl rfl rfl rfl (by omega) (by omega) ?_ | refine st_loadE [SV.int .i64 c', .str n', .bool d', .sl 3 (es.map rowE)] lay_ok rfl rfl rfl hat rfl rfl rfl ?_ | refine st_index [SV.str p, .int .i64 z, .sl 1 (ks.map rowS)] lay_ok rfl rfl rfl rfl (by omega) hat2 ?_ | refine st_index [SV.str y] lay_ok rfl rfl rfl rfl (by omega) hat3 ?_ | refine st_borrow (hhas) b16 rfl rfl (by (repeat' first | refine Borrow.cons' rfl ?_ ?_ | exact Borrow.nil' rfl | exact trivial | exact rfl | refine And.intro ?_ ?_); first | done | fail) rfl ?_ | refine st_append lay_ok rfl rfl rfl rfl rfl rfl rfl rfl (.lsl rfl rfl) (.sl (rows := [[SV.str y]])) rfl (rowS_one1 y) (by simp only [List.length_cons, List.length_nil]; omega) (by simp only [List.length_cons, List.length_nil]; omega) ?_)) | fail
    all_goals first
      | (exfalso; omega)
      | skip
    rw [hr]
    refine n_rr ((j + 1, S3 ++ [y])) ?_ (.of [6] (by (repeat' first | exact trivial | refine And.intro ?_ ?_ | rfl | exact congrArg (fun z : Int => some (AV.st (.int .i64 z))) (show (j : Int) + 1 = ((j + 1 : Nat) : Int) by omega)); first | done | fail) (by (repeat' first | exact trivial | refine And.intro ?_ ?_ | rfl | exact congrArg (fun z : Int => some (AV.st (.int .i64 z))) (show (j : Int) + 1 = ((j + 1 : Nat) : Int) by omega)); first | done | fail) rfl) ?_
    · show ks.length - (j + 1) < ks.length - j; omega
    · exact ⟨hj, hst3.symm, by simp; omega⟩
end Go.Proofs.YtligkfhplinjlaaGreatDoorFn
namespace Go.Proofs.YtligkfhplinjlaaGreatDoorFn
open Go.Proofs.YtligkfhplinjlaaGreatDoorAl Go.Proofs.Tryz
/-! ### an entry put in its place, step by step -/
/-- Where the loop stands: what is out already, and whether the new entry is. -/
def putS (e : EV) (es : List EV) (k : Nat) (put : Bool) (out : List EV) : Prop :=
  (put = false ∧ out = es.take k ∧ insR e es = es.take k ++ insR e (es.drop k)) ∨ (put = true ∧ insR e es = out ++ es.drop k ∧ out.length = k + 1)
theorem putS_0 (e : EV) (es : List EV) : putS e es 0 false [] := .inl ⟨rfl, by simp, by simp⟩
theorem putS_len {e : EV} {es : List EV} {k : Nat} {put : Bool} {out : List EV} (h : putS e es k put out) : out.length ≤ k + 1 := by
  rcases h with ⟨_, h, _⟩ | ⟨_, _, h⟩
  · rw [h, List.length_take]; omega
  · omega
theorem putS_in {e : EV} {es : List EV} {k : Nat} {out : List EV} (h : putS e es k false out) (hk : k < es.length) (hlt : strLt e.path es[k].path = true) : putS e es (k + 1) true ((out ++ [e]) ++ [es[k]]) := by
  rcases h with ⟨_, h2, h3⟩ | ⟨h1, _, _⟩
  · right
    refine ⟨rfl, ?_, ?_⟩
    · rw [h3, List.drop_eq_getElem_cons hk, h2]
      show _ ++ (if ltC cmE e es[k] = true then e :: es[k] :: _ else _) = _
      rw [if_pos (by rw [ltC_str]; exact hlt)]; simp
    · rw [h2]; simp; omega
  · cases h1
theorem putS_on {e : EV} {es : List EV} {k : Nat} {out : List EV} (h : putS e es k false out) (hk : k < es.length) (hlt : strLt e.path es[k].path = false) : putS e es (k + 1) false (out ++ [es[k]]) := by
  rcases h with ⟨_, h2, h3⟩ | ⟨h1, _, _⟩
  · left
    refine ⟨rfl, ?_, ?_⟩
    · rw [h2, List.take_succ_eq_append_getElem hk]
    · rw [h3, List.drop_eq_getElem_cons hk]
      show _ ++ (if ltC cmE e es[k] = true then _ else es[k] :: insR e _) = _
      rw [if_neg (by rw [ltC_str, hlt]; simp), List.take_succ_eq_append_getElem hk, List.append_assoc]; rfl
  · cases h1
theorem putS_go {e : EV} {es : List EV} {k : Nat} {out : List EV} (h : putS e es k true out) (hk : k < es.length) : putS e es (k + 1) true (out ++ [es[k]]) := by
  rcases h with ⟨h1, _, _⟩ | ⟨_, h2, h3⟩
  · cases h1
  · right
    exact ⟨rfl, by rw [h2, List.drop_eq_getElem_cons hk]; simp, by simp [h3]⟩
theorem putS_end0 {e : EV} {es : List EV} {out : List EV} (h : putS e es es.length false out) : out ++ [e] = insR e es := by
  rcases h with ⟨_, h2, h3⟩ | ⟨h1, _, _⟩
  · rw [h3, List.drop_length, List.take_length, h2, List.take_length]; rfl
  · cases h1
theorem putS_end1 {e : EV} {es : List EV} {out : List EV} (h : putS e es es.length true out) : out = insR e es := by
  rcases h with ⟨h1, _, _⟩ | ⟨_, h2, h3⟩
  · cases h1
  · rw [h2, List.drop_length, List.append_nil]
/-! ### an entry added, case by case -/
theorem addP_done {s : NV} {o : OV} (h : s.done = true) : addP s o = (s, noA 6) := by unfold addP; rw [if_pos h]
theorem addP_clash {s : NV} {o : OV} (h : s.done = false) (h1 : (s.entries.any fun e => clashB e.path o.path) = true) : addP s o = (s, noA 4) := by unfold addP; rw [if_neg (by rw [h]; simp), if_pos h1]
theorem addP_full {s : NV} {o : OV} (h : s.done = false) (h1 : (s.entries.any fun e => clashB e.path o.path) = false) (h2 : 32 ≤ s.entries.length) : addP s o = (s, noA 5) := by
  unfold addP; rw [if_neg (by rw [h]; simp), if_neg (by rw [h1]; simp), if_pos h2]
theorem addP_large {s : NV} {o : OV} (h : s.done = false) (h1 : (s.entries.any fun e => clashB e.path o.path) = false) (h2 : ¬ 32 ≤ s.entries.length) (h3 : 1024 < tot o.keys) : addP s o = (s, noA 7) := by
  unfold addP; rw [if_neg (by rw [h]; simp), if_neg (by rw [h1]; simp), if_neg h2, if_pos h3]
theorem addP_yes {s : NV} {o : OV} (h : s.done = false) (h1 : (s.entries.any fun e => clashB e.path o.path) = false) (h2 : ¬ 32 ≤ s.entries.length) (h3 : ¬ 1024 < tot o.keys) (hs : s.entries.Pairwise fun x y => ltC cmE y x = false) (hdp : ∀ x ∈ s.entries, ∀ y ∈ s.entries, x.path = y.path → x = y) :
    addP s o = (⟨s.client, s.name, s.done, insR ⟨o.path, tot o.keys, o.keys⟩ s.entries⟩, noA 0) := by
  unfold addP; rw [if_neg (by rw [h]; simp), if_neg (by rw [h1]; simp), if_neg h2, if_neg h3]
  rw [insR_srt hs]
  have hno : ∀ e ∈ s.entries, e.path ≠ o.path := fun e he h => by
    have := List.any_eq_false.1 h1 e he
    simp [clashB, h] at this
  intro x hx y hy hxy
  rcases List.mem_cons.1 hx with hx | hx <;> rcases List.mem_cons.1 hy with hy | hy
  · rw [hx, hy]
  · subst hx; exact absurd hxy.symm (hno y hy)
  · subst hy; exact absurd hxy (hno x hx)
  · exact hdp x hx y hy hxy
end Go.Proofs.YtligkfhplinjlaaGreatDoorFn
namespace Go.Proofs.YtligkfhplinjlaaGreatDoorFn
open Go.Proofs.YtligkfhplinjlaaGreatDoorAl Go.Proofs.Tryz
attribute [local irreducible] IntKind.wrap CodeOk OpsL OpG ACalls thn inBlk rndR cutR WkR Wk fnR DW ExtOk partsOf
theorem b84 : HasBody prog 84 := ⟨f84, func84, Option.some_ne_none _, by decide⟩
/-! ### the document adds an entry -/
set_option maxHeartbeats 8000000 in
set_option maxRecDepth 4000 in
theorem refAdd_ok (l : List NV) (i : Nat) (o : OV) (hi : i < l.length) (hl : l.length ≤ 4000000) (hlen : l[i].entries.length ≤ 4000000) (hkl : o.keys.length ≤ 4000000) (htk : tot o.keys ≤ 4000000000) (hp : ∀ e ∈ l[i].entries, e.path.size ≤ 4000000000 - 1) (ho : o.path.size ≤ 4000000000 - 1)
    (hs : l[i].entries.Pairwise fun x y => ltC cmE y x = false) (hdp : ∀ x ∈ l[i].entries, ∀ y ∈ l[i].entries, x.path = y.path → x = y) :
    ACalls prog 84 2 [.ptr 0 0, I i, .st (.agg (rowO o))] (catH l) fun r h => r = ansC (addP l[i] o).2.code ∧ h = catO (l.set i (addP l[i] o).1) := by
  have hno := fun c => refNo_ok c
  have hm : (List.map rowN l).length = l.length := List.length_map _
  have hat : (List.map rowN l)[0 + ((i : Nat) : Int).toNat]? = some (rowN l[i]) := by simp [hi]
  have hj := refJoin0_ok o.keys (by omega) htk
  have hjt := join_tot0 o.keys
  generalize joinB o.keys = J at *
  have hself : l.set i l[i] = l := List.set_getElem_self hi
  have hset := fun es' => set_rowN (l := l) (i := i) (s := l[i]) ⟨l[i].client, l[i].name, l[i].done, es'⟩
  have hA1 := addP_done (s := l[i]) (o := o)
  have hA2 := addP_clash (s := l[i]) (o := o)
  have hA3 := addP_full (s := l[i]) (o := o)
  have hA4 := addP_large (s := l[i]) (o := o)
  have hA5 := addP_yes (s := l[i]) (o := o)
  generalize l[i] = s at *
  obtain ⟨c', n', d', es⟩ := s
  obtain ⟨k, nm, pt, ks, n⟩ := o
  simp only at hlen hp hkl htk ho hj hjt hset hA1 hA2 hA3 hA4 hA5 hs hdp
  generalize addP ⟨c', n', d', es⟩ ⟨k, nm, pt, ks, n⟩ = R at *
  have hlenR : (List.map rowN (l.set i R.1)).length = (List.map rowN l).length := by simp
  refine ACalls.drop1 (h1 := catO (l.set i R.1) ++ [(3, ansX R.2.code)]) ⟨rfl, rfl, trivial⟩ ?_
  have hcat : catO (l.set i R.1) = [(0, .cells [.lsl 2 4 0 (l.map rowN).length]), (2, .arr 4 ((l.set i R.1).map rowN))] := by
    show [(0, AO.cells [.lsl 2 4 0 _]), (2, AO.arr 4 _)] = _
    rw [hlenR]
  rw [hcat]
  clear hcat hlenR
  have hme : (List.map rowE es).length = es.length := List.length_map _
  have hmk : (List.map rowS ks).length = ks.length := List.length_map _
  cases d' with
  | true =>
    rw [hA1 rfl, hself]
    refine fnC lay_ok func84 rfl rfl rfl rfl rfl ?_
    repeat' first | refine stp lay_ok rfl ?_ | refine fin ?_ | refine n_thn ?_ | refine r_thn ?_ | refine .seq ?_ | refine reg ?_ | refine .ret ?_ | refine cndT rfl ?_ | (refine o_none rfl ?_; (first | refine st_indexL lay_ok rfl rfl rfl rfl (by omega) (by omega) ?_ | refine st_loadE [SV.int .i64 c', .str n', .bool true, .sl 3 (es.map rowE)] lay_ok rfl rfl rfl hat rfl rfl rfl ?_ | refine st_pure (hno _) b45 rfl rfl rfl rfl ?_)) | fail
    all_goals first
      | (exfalso; omega)
      | skip
    refine f_end (n0 := 4) (t'' := [(6, .ptr 3 0)]) (h'' := [(0, .cells [.lsl 2 4 0 (l.map rowN).length]), (2, .arr 4 (l.map rowN)), (3, ansX 6)]) (WkR.of [1, 3] (by (repeat' first | exact trivial | refine And.intro ?_ ?_ | rfl); first | done | fail) (by (repeat' first | exact trivial | refine And.intro ?_ ?_ | rfl); first | done | fail) rfl) rfl rfl ⟨?_, rfl⟩
    rfl
  | false =>
  refine fnC lay_ok func84 rfl rfl rfl rfl rfl ?_
  repeat' first | refine stp lay_ok rfl ?_ | refine fin ?_ | refine n_thn ?_ | refine .seq ?_ | refine reg ?_ | refine .block ?_ | refine .skip ?_ | refine cndF rfl ?_ | (refine o_none rfl ?_; (first | refine st_indexL lay_ok rfl rfl rfl rfl (by omega) (by omega) ?_ | refine st_loadE [SV.int .i64 c', .str n', .bool false, .sl 3 (es.map rowE)] lay_ok rfl rfl rfl hat rfl rfl rfl ?_)) | fail
  all_goals first
    | (exfalso; omega)
    | skip
  refine lpR (fun j => j ≤ es.length ∧ (es.take j).any (fun e => clashB e.path pt) = false) (fun j => es.length - j) (fun j => [(8, I j)]) (fun j => []) (0) [0, 1, 5, 6, 7] [] [] rfl rfl rfl (.of [] (by (repeat' first | exact trivial | refine And.intro ?_ ?_ | rfl); first | done | fail) (by (repeat' first | exact trivial | refine And.intro ?_ ?_ | rfl); first | done | fail) rfl) ?_ ?_
  · exact ⟨Nat.zero_le _, rfl⟩
  rintro j ⟨j1, j2⟩
  refine nrm rfl rfl ?_
  by_cases hjl : j < es.length
  · have hatj := at_rowE hjl
    have hcl := refClash_ok es[j].path pt (hp _ (List.getElem_mem hjl)) ho
    have htk1 : (es.take (j + 1)).any (fun e => clashB e.path pt) = clashB es[j].path pt := by
      rw [List.take_succ_eq_append_getElem hjl, List.any_append, j2]; simp
    have hany : clashB es[j].path pt = true → es.any (fun e => clashB e.path pt) = true := fun h => List.any_eq_true.2 ⟨_, List.getElem_mem hjl, h⟩
    generalize es[j] = e at *
    obtain ⟨p, z, eks⟩ := e
    simp only at hcl htk1 hany
    generalize clashB p pt = C at *
    repeat' first | refine ln ?_ | refine stp lay_ok rfl ?_ | refine fin ?_ | refine n_thn ?_ | refine e_thn ?_ | refine e_hit ?_ | refine e_rr ?_ | refine .seq ?_ | refine reg ?_ | refine .block ?_ | refine .skip ?_ | refine .exit ?_ | refine c_dec rfl (fun hc => ?_) (fun hc => ?_) | fail
    all_goals first
      | (exfalso; omega)
      | skip
    refine dreg [(0, [], [34, 38, 39]), (1, [0], [34, 38, 39]), (2, [], [32, 33, 38, 39]), (3, [0, 1, 2], [38, 39]), (4, [0, 1, 2, 3], [38, 39]), (5, [0, 1, 2, 3, 4], [38, 39]), (6, [], [32, 33, 34, 35, 36, 37]), (7, [6], [32, 33, 34, 35, 36, 37]), (8, [0, 1, 2, 3, 4, 5, 6, 7], []), (9, [0, 1, 2, 3, 4, 5, 6, 7, 8], [])] mixed (by kernel_rfl) ?_
    cases C with
    | true =>
      have hAx := hA2 rfl (hany rfl)
      subst hAx
      repeat' first | refine stp lay_ok rfl ?_ | refine fin ?_ | refine n_thn ?_ | refine r_thn ?_ | refine r_blk ?_ | refine r_rr ?_ | refine .seq ?_ | refine reg ?_ | refine .ret ?_ | refine cndT rfl ?_ | (refine o_none rfl ?_; refine st_pure (hno _) b45 rfl rfl rfl rfl ?_) | refine dws lay_ok rfl rfl rfl rfl rfl rfl rfl ?_ | refine dw_end ?_ | refine dwb rfl rfl rfl rfl rfl (by (first | refine st_index (rowE ⟨p, z, eks⟩) lay_ok rfl rfl rfl rfl (by omega) hatj ?_ | refine st_pure (hcl) b108 rfl rfl rfl rfl ?_ | refine st_pure (hno _) b45 rfl rfl rfl rfl ?_); exact fin rfl) rfl rfl ?_ | fail
      all_goals first
        | (exfalso; omega)
        | skip
      rw [hself]
      refine f_end (n0 := 4) (t'' := [(6, .ptr 3 0)]) (h'' := [(0, .cells [.lsl 2 4 0 (l.map rowN).length]), (2, .arr 4 (l.map rowN)), (3, ansX 4)]) (WkR.of [1, 3] (by (repeat' first | exact trivial | refine And.intro ?_ ?_ | rfl); first | done | fail) (by (repeat' first | exact trivial | refine And.intro ?_ ?_ | rfl); first | done | fail) rfl) rfl rfl ⟨?_, rfl⟩
      rfl
    | false =>
      repeat' first | refine wr (by omega) ?_ | refine stp lay_ok rfl ?_ | refine fin ?_ | refine n_thn ?_ | refine n_blk ?_ | refine .seq ?_ | refine reg ?_ | refine .skip ?_ | refine cndF rfl ?_ | refine dws lay_ok rfl rfl rfl rfl rfl rfl rfl ?_ | refine dw_end ?_ | refine dwb rfl rfl rfl rfl rfl (by (first | refine st_index (rowE ⟨p, z, eks⟩) lay_ok rfl rfl rfl rfl (by omega) hatj ?_ | refine st_pure (hcl) b108 rfl rfl rfl rfl ?_); exact fin rfl) rfl rfl ?_ | fail
      all_goals first
        | (exfalso; omega)
        | skip
      refine n_rr (j + 1) ?_ (.of [] (by (repeat' first | exact trivial | refine And.intro ?_ ?_ | rfl | exact congrArg (fun z : Int => some (AV.st (.int .i64 z))) (show (j : Int) + 1 = ((j + 1 : Nat) : Int) by omega)); first | done | fail) (by (repeat' first | exact trivial | refine And.intro ?_ ?_ | rfl | exact congrArg (fun z : Int => some (AV.st (.int .i64 z))) (show (j : Int) + 1 = ((j + 1 : Nat) : Int) by omega)); first | done | fail) rfl) ?_
      · show es.length - (j + 1) < es.length - j; omega
      · exact ⟨hjl, htk1⟩
  have hje : j = es.length := by omega
  subst hje
  rw [List.take_length] at j2
  by_cases h32 : 32 ≤ es.length
  · have hAx := hA3 rfl j2 h32
    subst hAx
    repeat' first | refine ln ?_ | refine stp lay_ok rfl ?_ | refine fin ?_ | refine n_thn ?_ | refine e_thn ?_ | refine e_hit ?_ | refine r_thn ?_ | refine e_rr ?_ | refine .seq ?_ | refine reg ?_ | refine .block ?_ | refine .skip ?_ | refine .ret ?_ | refine .exit ?_ | refine c_dec rfl (fun hc => ?_) (fun hc => ?_) | (refine o_none rfl ?_; refine st_pure (hno _) b45 rfl rfl rfl rfl ?_) | fail
    all_goals first
      | (exfalso; omega)
      | skip
    rw [hself]
    refine f_end (n0 := 4) (t'' := [(6, .ptr 3 0)]) (h'' := [(0, .cells [.lsl 2 4 0 (l.map rowN).length]), (2, .arr 4 (l.map rowN)), (3, ansX 5)]) (WkR.of [1, 3] (by (repeat' first | exact trivial | refine And.intro ?_ ?_ | rfl); first | done | fail) (by (repeat' first | exact trivial | refine And.intro ?_ ?_ | rfl); first | done | fail) rfl) rfl rfl ⟨?_, rfl⟩
    rfl
  by_cases h1k : 1024 < tot ks
  · have hAx := hA4 rfl j2 h32 h1k
    subst hAx
    rw [← hjt] at h1k
    repeat' first | refine ln ?_ | refine stp lay_ok rfl ?_ | refine fin ?_ | refine n_thn ?_ | refine e_thn ?_ | refine e_hit ?_ | refine r_thn ?_ | refine e_rr ?_ | refine .seq ?_ | refine reg ?_ | refine .block ?_ | refine .skip ?_ | refine .ret ?_ | refine .exit ?_ | refine c_dec rfl (fun hc => ?_) (fun hc => ?_) | (refine o_none rfl ?_; (first | refine st_pure (hj) b109 rfl rfl rfl rfl ?_ | refine st_pure (hno _) b45 rfl rfl rfl rfl ?_)) | fail
    all_goals first
      | (exfalso; omega)
      | skip
    rw [hself]
    refine f_end (n0 := 4) (t'' := [(6, .ptr 3 0)]) (h'' := [(0, .cells [.lsl 2 4 0 (l.map rowN).length]), (2, .arr 4 (l.map rowN)), (3, ansX 7)]) (WkR.of [1, 3] (by (repeat' first | exact trivial | refine And.intro ?_ ?_ | rfl); first | done | fail) (by (repeat' first | exact trivial | refine And.intro ?_ ?_ | rfl); first | done | fail) rfl) rfl rfl ⟨?_, rfl⟩
    rfl
  have hAx := hA5 rfl j2 h32 h1k hs hdp
  subst hAx
  rw [← hjt] at h1k ⊢
  repeat' first | refine ln ?_ | refine stp lay_ok rfl ?_ | refine fin ?_ | refine n_thn ?_ | refine e_thn ?_ | refine e_hit ?_ | refine e_rr ?_ | refine .seq ?_ | refine reg ?_ | refine .block ?_ | refine .skip ?_ | refine .exit ?_ | refine c_dec rfl (fun hc => ?_) (fun hc => ?_) | (refine o_none rfl ?_; refine st_pure (hj) b109 rfl rfl rfl rfl ?_) | fail
  all_goals first
    | (exfalso; omega)
    | skip
  refine dreg [(0, [], [57, 58, 59, 60, 61, 11]), (1, [0], [57, 58, 59, 60, 61, 11]), (2, [], [55, 56, 58, 59, 60, 61, 11]), (3, [], [55, 56, 57, 59, 60, 11]), (4, [], [55, 56, 57, 58, 11]), (5, [4], [55, 56, 57, 58, 11]), (6, [3, 4, 5], [55, 56, 57, 11]), (7, [0, 1, 2, 3, 4, 5, 6], [11]), (8, [], [55, 56, 57, 58, 59, 60, 61, 62]), (9, [0, 1, 2, 3, 4, 5, 6, 7, 8], [])] mixed (by kernel_rfl) ?_
  repeat' first | refine stp lay_ok rfl ?_ | refine fin ?_ | refine n_thn ?_ | refine .seq ?_ | refine reg ?_ | refine .block ?_ | refine dws lay_ok rfl rfl rfl rfl rfl rfl rfl ?_ | refine dwu lay_ok rfl rfl rfl rfl rfl rfl rfl rfl rfl ?_ | refine dw_end ?_ | refine dwn lay_ok rfl rfl rfl rfl rfl ?_ | refine dwg rfl rfl rfl rfl rfl (by (first | refine st_append lay_ok rfl rfl rfl rfl rfl rfl rfl rfl .sl0 .sl rfl rowS_one (by simp only [List.length_nil, List.length_map]; omega) (by simp only [List.length_nil, List.length_map]; omega) ?_); exact fin rfl) rfl rfl rfl rfl rfl ?_ | fail
  all_goals first
    | (exfalso; omega)
    | skip
  refine CodeOk.wk (Wk.frz 5 [ 14, 13, 12, 11, 0, 1, 5, 6, 7] rfl rfl rfl (by (repeat' first | exact trivial | refine And.intro ?_ ?_ | rfl); first | done | fail) (by (repeat' first | exact trivial | refine And.intro ?_ ?_ | rfl); first | done | fail) rfl rfl) (Nat.le_refl _) ?_; refine nrm rfl rfl ?_
  refine CodeOk.wk (Wk.nilT 3 12 rfl rfl) (Nat.le_succ _) ?_
  refine nrm rfl rfl ?_
  refine lpR (fun (j, put, out) => j ≤ es.length ∧ putS ⟨pt, J.size, ks⟩ es j put out) (fun (j, put, out) => es.length - j) (fun (j, put, out) => [(14, I j), (13, B put), (12, .lsl 8 3 0 (out.map rowE).length)]) (fun (j, put, out) => [(8, .arr 3 (out.map rowE))]) ((0, false, [])) [0, 1, 5, 6, 7, 11] [] [7] rfl rfl rfl (.of [7] (by (repeat' first | exact trivial | refine And.intro ?_ ?_ | rfl); first | done | fail) (by (repeat' first | exact trivial | refine And.intro ?_ ?_ | rfl); first | done | fail) rfl) ?_ ?_
  · exact ⟨Nat.zero_le _, putS_0 _ _⟩
  rintro ⟨j, put, out⟩ ⟨m1, m2⟩
  refine nrm rfl rfl ?_
  clear hA1 hA2 hA3 hA4 hA5 hs hdp hp
  have hmo : (List.map rowE out).length = out.length := List.length_map _
  have hol := putS_len m2
  have hone1 : ∀ row ∈ [rowE ⟨pt, J.size, ks⟩], ∀ y ∈ row, SV.one y = true := rowE_one (b := [⟨pt, J.size, ks⟩])
  by_cases hjl : j < es.length
  · have hatj := at_rowE hjl
    have hone2 : ∀ row ∈ [rowE es[j]], ∀ y ∈ row, SV.one y = true := rowE_one (b := [es[j]])
    cases put with
    | true =>
      have hstep := putS_go m2 hjl
      generalize es[j] = e at *
      obtain ⟨p, z, eks⟩ := e
      have hr : List.map rowE out ++ [rowE ⟨p, z, eks⟩] = List.map rowE (out ++ [⟨p, z, eks⟩]) := by rw [List.map_append]; rfl
      repeat' first | refine ln ?_ | refine stp lay_ok rfl ?_ | refine fin ?_ | refine n_thn ?_ | refine e_thn ?_ | refine e_hit ?_ | refine e_rr ?_ | refine .seq ?_ | refine reg ?_ | refine .block ?_ | refine .skip ?_ | refine .exit ?_ | refine cndF rfl ?_ | refine c_dec rfl (fun hc => ?_) (fun hc => ?_) | fail
      all_goals first
        | (exfalso; omega)
        | skip
      refine dreg [(0, [], []), (1, [0], []), (2, [0, 1], []), (3, [0, 1, 2], [75, 76, 77, 78, 79, 80]), (4, [0, 1, 2, 3], [75, 76, 77, 78, 79, 80]), (5, [0, 1, 2], [73, 74, 77]), (6, [0, 1, 2, 5], [73, 74, 77]), (7, [0, 1, 2], [73, 74, 75, 76]), (8, [0, 1, 2, 5, 6, 7], [73, 74]), (9, [0, 1, 2, 5, 6, 7, 8], [73, 74]), (10, [0, 1, 2, 5, 6, 7, 8, 9], [73, 74]), (11, [0, 1, 2, 3, 4, 5, 6, 7, 8, 9, 10], []), (12, [0, 1, 2, 3, 4, 5, 6, 7, 8, 9, 10, 11], [])] mixed (by kernel_rfl) ?_
      repeat' first | refine wr (by omega) ?_ | refine stp lay_ok rfl ?_ | refine fin ?_ | refine n_thn ?_ | refine n_blk ?_ | refine reg ?_ | refine .skip ?_ | refine cndF rfl ?_ | (refine o_none rfl ?_; (first | refine st_index (rowE ⟨p, z, eks⟩) lay_ok rfl rfl rfl rfl (by omega) hatj ?_ | refine st_append lay_ok rfl rfl rfl rfl rfl rfl rfl rfl (.lsl rfl rfl) (.sl (rows := [rowE ⟨p, z, eks⟩])) rfl hone2 (by simp only [List.length_cons, List.length_nil]; omega) (by simp only [List.length_cons, List.length_nil]; omega) ?_)) | refine dws lay_ok rfl rfl rfl rfl rfl rfl rfl ?_ | refine dw_end ?_ | refine dw_skip rfl rfl rfl ?_ | fail
      all_goals first
        | (exfalso; omega)
        | skip
      rw [hr]
      refine n_rr ((j + 1, true, out ++ [⟨p, z, eks⟩])) ?_ (.of [9] (by (repeat' first | exact trivial | refine And.intro ?_ ?_ | rfl | exact congrArg (fun z : Int => some (AV.st (.int .i64 z))) (show (j : Int) + 1 = ((j + 1 : Nat) : Int) by omega)); first | done | fail) (by (repeat' first | exact trivial | refine And.intro ?_ ?_ | rfl | exact congrArg (fun z : Int => some (AV.st (.int .i64 z))) (show (j : Int) + 1 = ((j + 1 : Nat) : Int) by omega)); first | done | fail) rfl) ?_
      · show es.length - (j + 1) < es.length - j; omega
      · exact ⟨hjl, hstep⟩
    | false =>
      have hstep1 := putS_in m2 hjl
      have hstep2 := putS_on m2 hjl
      generalize es[j] = e at *
      obtain ⟨p, z, eks⟩ := e
      simp only at hstep1 hstep2
      have hr : List.map rowE out ++ [rowE ⟨p, z, eks⟩] = List.map rowE (out ++ [⟨p, z, eks⟩]) := by rw [List.map_append]; rfl
      have hr2 : (List.map rowE out ++ [rowE ⟨pt, J.size, ks⟩]) ++ [rowE ⟨p, z, eks⟩] = List.map rowE ((out ++ [⟨pt, J.size, ks⟩]) ++ [⟨p, z, eks⟩]) := by rw [List.map_append, List.map_append]; rfl
      repeat' first | refine ln ?_ | refine stp lay_ok rfl ?_ | refine fin ?_ | refine n_thn ?_ | refine e_thn ?_ | refine e_hit ?_ | refine e_rr ?_ | refine .seq ?_ | refine reg ?_ | refine .block ?_ | refine .skip ?_ | refine .exit ?_ | refine cndT rfl ?_ | refine c_dec rfl (fun hc => ?_) (fun hc => ?_) | fail
      all_goals first
        | (exfalso; omega)
        | skip
      refine dreg [(0, [], []), (1, [0], []), (2, [0, 1], []), (3, [0, 1, 2], [75, 76, 77, 78, 79, 80]), (4, [0, 1, 2, 3], [75, 76, 77, 78, 79, 80]), (5, [0, 1, 2], [73, 74, 77]), (6, [0, 1, 2, 5], [73, 74, 77]), (7, [0, 1, 2], [73, 74, 75, 76]), (8, [0, 1, 2, 5, 6, 7], [73, 74]), (9, [0, 1, 2, 5, 6, 7, 8], [73, 74]), (10, [0, 1, 2, 5, 6, 7, 8, 9], [73, 74]), (11, [0, 1, 2, 3, 4, 5, 6, 7, 8, 9, 10], []), (12, [0, 1, 2, 3, 4, 5, 6, 7, 8, 9, 10, 11], [])] mixed (by kernel_rfl) ?_
      repeat' first | refine stp lay_ok rfl ?_ | refine n_thn ?_ | refine .seq ?_ | refine reg ?_ | refine .skip ?_ | refine cnd rfl (fun hc => ?_) (fun hc => ?_) | (refine o_none rfl ?_; refine st_index (rowE ⟨p, z, eks⟩) lay_ok rfl rfl rfl rfl (by omega) hatj ?_) | refine dws lay_ok rfl rfl rfl rfl rfl rfl rfl ?_ | refine dw_end ?_ | refine dwb rfl rfl rfl rfl rfl (by (first | refine st_index (rowE ⟨p, z, eks⟩) lay_ok rfl rfl rfl rfl (by omega) hatj ?_); exact fin rfl) rfl rfl ?_ | fail
      all_goals first
        | (exfalso; omega)
        | skip
      · have hlt : strLt pt p = true := by assumption
        repeat' first | refine stp lay_ok rfl ?_ | refine fin ?_ | refine n_thn ?_ | refine reg ?_ | (refine o_none rfl ?_; (first | refine st_append lay_ok rfl rfl rfl rfl rfl rfl rfl rfl (.lsl rfl rfl) (.sl (rows := [rowE ⟨pt, J.size, ks⟩])) rfl hone1 (by simp only [List.length_cons, List.length_nil]; omega) (by simp only [List.length_cons, List.length_nil]; omega) ?_ | refine st_index (rowE ⟨p, z, eks⟩) lay_ok rfl rfl rfl rfl (by omega) hatj ?_)) | fail
        repeat' first | refine wr (by omega) ?_ | refine stp lay_ok rfl ?_ | refine fin ?_ | refine n_thn ?_ | refine n_blk ?_ | refine reg ?_ | (refine o_none rfl ?_; refine st_append lay_ok rfl rfl rfl rfl rfl rfl rfl rfl (.lsl rfl rfl) (.sl (rows := [rowE ⟨p, z, eks⟩])) rfl hone2 (by simp only [List.length_append, List.length_cons, List.length_nil]; omega) (by simp only [List.length_append, List.length_cons, List.length_nil]; omega) ?_) | fail
        rw [hr2]
        refine n_rr ((j + 1, true, (out ++ [⟨pt, J.size, ks⟩]) ++ [⟨p, z, eks⟩])) ?_ (.of [10] (by (repeat' first | exact trivial | refine And.intro ?_ ?_ | rfl | exact congrArg (fun z : Int => some (AV.st (.int .i64 z))) (show (j : Int) + 1 = ((j + 1 : Nat) : Int) by omega)); first | done | fail) (by (repeat' first | exact trivial | refine And.intro ?_ ?_ | rfl | exact congrArg (fun z : Int => some (AV.st (.int .i64 z))) (show (j : Int) + 1 = ((j + 1 : Nat) : Int) by omega)); first | done | fail) rfl) ?_
        · show es.length - (j + 1) < es.length - j; omega
        · exact ⟨hjl, hstep1 hlt⟩
      · have hlt : strLt pt p = false := by assumption
        repeat' first | refine wr (by omega) ?_ | refine stp lay_ok rfl ?_ | refine fin ?_ | refine n_thn ?_ | refine n_blk ?_ | refine reg ?_ | (refine o_none rfl ?_; refine st_append lay_ok rfl rfl rfl rfl rfl rfl rfl rfl (.lsl rfl rfl) (.sl (rows := [rowE ⟨p, z, eks⟩])) rfl hone2 (by simp only [List.length_cons, List.length_nil]; omega) (by simp only [List.length_cons, List.length_nil]; omega) ?_) | fail
        rw [hr]
        refine n_rr ((j + 1, false, out ++ [⟨p, z, eks⟩])) ?_ (.of [9] (by (repeat' first | exact trivial | refine And.intro ?_ ?_ | rfl | exact congrArg (fun z : Int => some (AV.st (.int .i64 z))) (show (j : Int) + 1 = ((j + 1 : Nat) : Int) by omega)); first | done | fail) (by (repeat' first | exact trivial | refine And.intro ?_ ?_ | rfl | exact congrArg (fun z : Int => some (AV.st (.int .i64 z))) (show (j : Int) + 1 = ((j + 1 : Nat) : Int) by omega)); first | done | fail) rfl) ?_
        · show es.length - (j + 1) < es.length - j; omega
        · exact ⟨hjl, hstep2 hlt⟩
  have hje : j = es.length := by omega
  subst hje
  cases put with
  | true =>
    have hout := putS_end1 m2
    subst hout
    repeat' first | refine ln ?_ | refine stp lay_ok rfl ?_ | refine fin ?_ | refine n_thn ?_ | refine e_thn ?_ | refine e_hit ?_ | refine e_rr ?_ | refine .seq ?_ | refine reg ?_ | refine .block ?_ | refine .skip ?_ | refine .exit ?_ | refine cndF rfl ?_ | refine c_dec rfl (fun hc => ?_) (fun hc => ?_) | fail
    all_goals first
      | (exfalso; omega)
      | skip
    refine OpsL.wk (Wk.frz 8 [ 106, 105, 104, 6] rfl rfl rfl (by (repeat' first | exact trivial | refine And.intro ?_ ?_ | rfl); first | done | fail) (by (repeat' first | exact trivial | refine And.intro ?_ ?_ | rfl); first | done | fail) rfl rfl) (Nat.le_refl _) ?_; refine nrmO rfl rfl ?_
    repeat' first | refine stp lay_ok rfl ?_ | refine fin ?_ | refine n_thn ?_ | refine .seq ?_ | refine reg ?_ | refine .ret ?_ | ((first | refine o_none rfl ?_ | refine o_none_ ?_); refine st_indexL lay_ok rfl rfl rfl rfl (by omega) (by omega) ?_) | refine o_none_ (st_storeE lay_ok rfl rfl rfl hat rfl rfl rfl rfl ?_) | fail
    all_goals first
      | (exfalso; omega)
      | skip
    rw [← hset]
    refine f_end (n0 := 4) (t'' := [(6, .ptr 3 0)]) (h'' := [(0, .cells [.lsl 2 4 0 (l.map rowN).length]), (2, .arr 4 ((List.map rowN l).set (0 + ((i : Nat) : Int).toNat) (rowN ⟨c', n', false, insR ⟨pt, J.size, ks⟩ es⟩))), (3, ansX 0)]) (WkR.of [1, 3] (by (repeat' first | exact trivial | refine And.intro ?_ ?_ | rfl); first | done | fail) (by (repeat' first | exact trivial | refine And.intro ?_ ?_ | rfl); first | done | fail) rfl) rfl rfl ⟨?_, rfl⟩
    rfl
  | false =>
    have hout := putS_end0 m2
    have hr : List.map rowE out ++ [rowE ⟨pt, J.size, ks⟩] = List.map rowE (out ++ [⟨pt, J.size, ks⟩]) := by rw [List.map_append]; rfl
    repeat' first | refine ln ?_ | refine stp lay_ok rfl ?_ | refine fin ?_ | refine n_thn ?_ | refine e_thn ?_ | refine e_hit ?_ | refine e_rr ?_ | refine .seq ?_ | refine reg ?_ | refine .block ?_ | refine .skip ?_ | refine .exit ?_ | refine cndT rfl ?_ | refine c_dec rfl (fun hc => ?_) (fun hc => ?_) | (refine o_none rfl ?_; refine st_append lay_ok rfl rfl rfl rfl rfl rfl rfl rfl (.lsl rfl rfl) (.sl (rows := [rowE ⟨pt, J.size, ks⟩])) rfl hone1 (by simp only [List.length_cons, List.length_nil]; omega) (by simp only [List.length_cons, List.length_nil]; omega) ?_) | fail
    all_goals first
      | (exfalso; omega)
      | skip
    rw [hr, hout]
    refine OpsL.wk (Wk.frz 9 [ 106, 105, 104, 6] rfl rfl rfl (by (repeat' first | exact trivial | refine And.intro ?_ ?_ | rfl); first | done | fail) (by (repeat' first | exact trivial | refine And.intro ?_ ?_ | rfl); first | done | fail) rfl rfl) (Nat.le_refl _) ?_; refine nrmO rfl rfl ?_
    repeat' first | refine stp lay_ok rfl ?_ | refine fin ?_ | refine n_thn ?_ | refine .seq ?_ | refine reg ?_ | refine .ret ?_ | ((first | refine o_none rfl ?_ | refine o_none_ ?_); refine st_indexL lay_ok rfl rfl rfl rfl (by omega) (by omega) ?_) | refine o_none_ (st_storeE lay_ok rfl rfl rfl hat rfl rfl rfl rfl ?_) | fail
    all_goals first
      | (exfalso; omega)
      | skip
    rw [← hset]
    refine f_end (n0 := 4) (t'' := [(6, .ptr 3 0)]) (h'' := [(0, .cells [.lsl 2 4 0 (l.map rowN).length]), (2, .arr 4 ((List.map rowN l).set (0 + ((i : Nat) : Int).toNat) (rowN ⟨c', n', false, insR ⟨pt, J.size, ks⟩ es⟩))), (3, ansX 0)]) (WkR.of [1, 3] (by (repeat' first | exact trivial | refine And.intro ?_ ?_ | rfl); first | done | fail) (by (repeat' first | exact trivial | refine And.intro ?_ ?_ | rfl); first | done | fail) rfl) rfl rfl ⟨?_, rfl⟩
    rfl
end Go.Proofs.YtligkfhplinjlaaGreatDoorFn
namespace Go.Proofs.YtligkfhplinjlaaGreatDoorFn
open Go.Proofs.YtligkfhplinjlaaGreatDoorAl Go.Proofs.Tryz
attribute [local irreducible] IntKind.wrap CodeOk OpsL OpG ACalls thn inBlk rndR cutR WkR Wk fnR DW ExtOk partsOf
theorem b50 : HasBody prog 50 := ⟨f50, func50, Option.some_ne_none _, by decide⟩
/-! ### the document's operation on one snapshot -/
set_option maxHeartbeats 4000000 in
theorem refOne2_ok (l L : List NV) (i : Nat) (o : OV) (c0 : Int) (hi : i < l.length) (hl : l.length ≤ 4000000) (hk : o.kind = 2) (hB : ACalls prog 84 2 [.ptr 0 0, I i, .st (.agg (rowO o))] (catH l) fun r h => r = ansC c0 ∧ h = catO L) :
    ACalls prog 50 2 [.ptr 0 0, I i, .st (.agg (rowO o))] (catH l) fun r h => r = ansC c0 ∧ h = catO L := by
  have hm : (List.map rowN l).length = l.length := List.length_map _
  have hat : (List.map rowN l)[0 + ((i : Nat) : Int).toNat]? = some (rowN l[i]) := by simp [hi]
  obtain ⟨k, nm, pt, ks, n⟩ := o
  simp only at hk
  subst hk
  generalize l[i] = s at *
  obtain ⟨c', n', d', es⟩ := s
  refine ACalls.drop1 (h1 := catO L ++ [(3, ansX c0)]) ⟨rfl, rfl, trivial⟩ ?_
  refine fnC lay_ok func50 rfl rfl rfl rfl rfl ?_
  repeat' first | refine stp lay_ok rfl ?_ | refine fin ?_ | refine n_thn ?_ | refine r_thn ?_ | refine r_blk ?_ | refine .seq ?_ | refine reg ?_ | refine .block ?_ | refine .ret ?_ | refine cndT rfl ?_ | (refine o_none rfl ?_; (first | refine st_indexL lay_ok rfl rfl rfl rfl (by omega) (by omega) ?_ | refine st_loadE [SV.int .i64 c', .str n', .bool d', .sl 3 (es.map rowE)] lay_ok rfl rfl rfl hat rfl rfl rfl ?_ | refine st_callG [0,1] 1 (hB) b84 rfl rfl rfl rfl rfl (by (repeat' first | exact trivial | refine And.intro ?_ ?_ | rfl); first | done | fail) rfl ?_)) | fail
  refine f_end (n0 := 4) (t'' := [(6, .ptr 3 0)]) (h'' := [(0, .cells [.lsl 2 4 0 (L.map rowN).length]), (2, .arr 4 (L.map rowN)), (3, ansX c0)]) (WkR.of [4, 3] (by (repeat' first | exact trivial | refine And.intro ?_ ?_ | rfl); first | done | fail) (by (repeat' first | exact trivial | refine And.intro ?_ ?_ | rfl); first | done | fail) rfl) rfl rfl ⟨?_, rfl⟩
  rfl
set_option maxHeartbeats 4000000 in
theorem refOne3no_ok (l : List NV) (i : Nat) (o : OV) (hi : i < l.length) (hl : l.length ≤ 4000000) (hk : o.kind = 3) (hd : l[i].done = true) :
    ACalls prog 50 2 [.ptr 0 0, I i, .st (.agg (rowO o))] (catH l) fun r h => r = ansC 6 ∧ h = catO l := by
  have hno := refNo_ok 6
  have hm : (List.map rowN l).length = l.length := List.length_map _
  have hat : (List.map rowN l)[0 + ((i : Nat) : Int).toNat]? = some (rowN l[i]) := by simp [hi]
  obtain ⟨k, nm, pt, ks, n⟩ := o
  simp only at hk
  subst hk
  generalize l[i] = s at *
  obtain ⟨c', n', d', es⟩ := s
  simp only at hd
  subst hd
  refine ACalls.drop1 (h1 := catO l ++ [(3, ansX 6)]) ⟨rfl, rfl, trivial⟩ ?_
  refine fnC lay_ok func50 rfl rfl rfl rfl rfl ?_
  repeat' first | refine stp lay_ok rfl ?_ | refine fin ?_ | refine n_thn ?_ | refine r_thn ?_ | refine r_blk ?_ | refine .seq ?_ | refine reg ?_ | refine .block ?_ | refine .ret ?_ | refine cndT rfl ?_ | refine cndF rfl ?_ | (refine o_none rfl ?_; (first | refine st_indexL lay_ok rfl rfl rfl rfl (by omega) (by omega) ?_ | refine st_loadE [SV.int .i64 c', .str n', .bool true, .sl 3 (es.map rowE)] lay_ok rfl rfl rfl hat rfl rfl rfl ?_ | refine st_pure (hno) b45 rfl rfl rfl rfl ?_)) | fail
  refine f_end (n0 := 4) (t'' := [(6, .ptr 3 0)]) (h'' := [(0, .cells [.lsl 2 4 0 (l.map rowN).length]), (2, .arr 4 (l.map rowN)), (3, ansX 6)]) (WkR.of [1, 3] (by (repeat' first | exact trivial | refine And.intro ?_ ?_ | rfl); first | done | fail) (by (repeat' first | exact trivial | refine And.intro ?_ ?_ | rfl); first | done | fail) rfl) rfl rfl ⟨?_, rfl⟩
  rfl
set_option maxHeartbeats 4000000 in
theorem refOne4no_ok (l : List NV) (i : Nat) (o : OV) (hi : i < l.length) (hl : l.length ≤ 4000000) (hk : o.kind = 4) (hd : l[i].done = true) :
    ACalls prog 50 2 [.ptr 0 0, I i, .st (.agg (rowO o))] (catH l) fun r h => r = ansC 6 ∧ h = catO l := by
  have hno := refNo_ok 6
  have hm : (List.map rowN l).length = l.length := List.length_map _
  have hat : (List.map rowN l)[0 + ((i : Nat) : Int).toNat]? = some (rowN l[i]) := by simp [hi]
  obtain ⟨k, nm, pt, ks, n⟩ := o
  simp only at hk
  subst hk
  generalize l[i] = s at *
  obtain ⟨c', n', d', es⟩ := s
  simp only at hd
  subst hd
  refine ACalls.drop1 (h1 := catO l ++ [(3, ansX 6)]) ⟨rfl, rfl, trivial⟩ ?_
  refine fnC lay_ok func50 rfl rfl rfl rfl rfl ?_
  repeat' first | refine stp lay_ok rfl ?_ | refine fin ?_ | refine n_thn ?_ | refine r_thn ?_ | refine r_blk ?_ | refine .seq ?_ | refine reg ?_ | refine .block ?_ | refine .ret ?_ | refine cndT rfl ?_ | refine cndF rfl ?_ | (refine o_none rfl ?_; (first | refine st_indexL lay_ok rfl rfl rfl rfl (by omega) (by omega) ?_ | refine st_loadE [SV.int .i64 c', .str n', .bool true, .sl 3 (es.map rowE)] lay_ok rfl rfl rfl hat rfl rfl rfl ?_ | refine st_pure (hno) b45 rfl rfl rfl rfl ?_)) | fail
  refine f_end (n0 := 4) (t'' := [(6, .ptr 3 0)]) (h'' := [(0, .cells [.lsl 2 4 0 (l.map rowN).length]), (2, .arr 4 (l.map rowN)), (3, ansX 6)]) (WkR.of [1, 3] (by (repeat' first | exact trivial | refine And.intro ?_ ?_ | rfl); first | done | fail) (by (repeat' first | exact trivial | refine And.intro ?_ ?_ | rfl); first | done | fail) rfl) rfl rfl ⟨?_, rfl⟩
  rfl
set_option maxHeartbeats 4000000 in
theorem refOne6no_ok (l : List NV) (i : Nat) (o : OV) (hi : i < l.length) (hl : l.length ≤ 4000000) (hk : o.kind = 6) (hd : l[i].done = false) :
    ACalls prog 50 2 [.ptr 0 0, I i, .st (.agg (rowO o))] (catH l) fun r h => r = ansC 6 ∧ h = catO l := by
  have hno := refNo_ok 6
  have hm : (List.map rowN l).length = l.length := List.length_map _
  have hat : (List.map rowN l)[0 + ((i : Nat) : Int).toNat]? = some (rowN l[i]) := by simp [hi]
  obtain ⟨k, nm, pt, ks, n⟩ := o
  simp only at hk
  subst hk
  generalize l[i] = s at *
  obtain ⟨c', n', d', es⟩ := s
  simp only at hd
  subst hd
  refine ACalls.drop1 (h1 := catO l ++ [(3, ansX 6)]) ⟨rfl, rfl, trivial⟩ ?_
  refine fnC lay_ok func50 rfl rfl rfl rfl rfl ?_
  repeat' first | refine stp lay_ok rfl ?_ | refine fin ?_ | refine n_thn ?_ | refine n_blk ?_ | refine r_thn ?_ | refine .seq ?_ | refine reg ?_ | refine .block ?_ | refine .skip ?_ | refine .ret ?_ | refine cndT rfl ?_ | refine cndF rfl ?_ | (refine o_none rfl ?_; (first | refine st_indexL lay_ok rfl rfl rfl rfl (by omega) (by omega) ?_ | refine st_loadE [SV.int .i64 c', .str n', .bool false, .sl 3 (es.map rowE)] lay_ok rfl rfl rfl hat rfl rfl rfl ?_ | refine st_pure (hno) b45 rfl rfl rfl rfl ?_)) | fail
  refine f_end (n0 := 4) (t'' := [(6, .ptr 3 0)]) (h'' := [(0, .cells [.lsl 2 4 0 (l.map rowN).length]), (2, .arr 4 (l.map rowN)), (3, ansX 6)]) (WkR.of [1, 3] (by (repeat' first | exact trivial | refine And.intro ?_ ?_ | rfl); first | done | fail) (by (repeat' first | exact trivial | refine And.intro ?_ ?_ | rfl); first | done | fail) rfl) rfl rfl ⟨?_, rfl⟩
  rfl
set_option maxHeartbeats 4000000 in
theorem refOne7no_ok (l : List NV) (i : Nat) (o : OV) (hi : i < l.length) (hl : l.length ≤ 4000000) (hk : o.kind = 7) (hd : l[i].done = false) :
    ACalls prog 50 2 [.ptr 0 0, I i, .st (.agg (rowO o))] (catH l) fun r h => r = ansC 6 ∧ h = catO l := by
  have hno := refNo_ok 6
  have hm : (List.map rowN l).length = l.length := List.length_map _
  have hat : (List.map rowN l)[0 + ((i : Nat) : Int).toNat]? = some (rowN l[i]) := by simp [hi]
  obtain ⟨k, nm, pt, ks, n⟩ := o
  simp only at hk
  subst hk
  generalize l[i] = s at *
  obtain ⟨c', n', d', es⟩ := s
  simp only at hd
  subst hd
  refine ACalls.drop1 (h1 := catO l ++ [(3, ansX 6)]) ⟨rfl, rfl, trivial⟩ ?_
  refine fnC lay_ok func50 rfl rfl rfl rfl rfl ?_
  repeat' first | refine stp lay_ok rfl ?_ | refine fin ?_ | refine n_thn ?_ | refine n_blk ?_ | refine r_thn ?_ | refine .seq ?_ | refine reg ?_ | refine .block ?_ | refine .skip ?_ | refine .ret ?_ | refine cndT rfl ?_ | refine cndF rfl ?_ | (refine o_none rfl ?_; (first | refine st_indexL lay_ok rfl rfl rfl rfl (by omega) (by omega) ?_ | refine st_loadE [SV.int .i64 c', .str n', .bool false, .sl 3 (es.map rowE)] lay_ok rfl rfl rfl hat rfl rfl rfl ?_ | refine st_pure (hno) b45 rfl rfl rfl rfl ?_)) | fail
  refine f_end (n0 := 4) (t'' := [(6, .ptr 3 0)]) (h'' := [(0, .cells [.lsl 2 4 0 (l.map rowN).length]), (2, .arr 4 (l.map rowN)), (3, ansX 6)]) (WkR.of [1, 3] (by (repeat' first | exact trivial | refine And.intro ?_ ?_ | rfl); first | done | fail) (by (repeat' first | exact trivial | refine And.intro ?_ ?_ | rfl); first | done | fail) rfl) rfl rfl ⟨?_, rfl⟩
  rfl
set_option maxHeartbeats 4000000 in
theorem refOne3_ok (l : List NV) (i : Nat) (o : OV) (hi : i < l.length) (hl : l.length ≤ 4000000) (hk : o.kind = 3) (hd : l[i].done = false) :
    ACalls prog 50 2 [.ptr 0 0, I i, .st (.agg (rowO o))] (catH l) fun r h => r = ansC 0 ∧ h = catO (l.set i ⟨l[i].client, l[i].name, true, l[i].entries⟩) := by
  have hm : (List.map rowN l).length = l.length := List.length_map _
  have hat : (List.map rowN l)[0 + ((i : Nat) : Int).toNat]? = some (rowN l[i]) := by simp [hi]
  have hset := set_rowN (l := l) (i := i) (s := l[i]) ⟨l[i].client, l[i].name, true, l[i].entries⟩
  obtain ⟨k, nm, pt, ks, n⟩ := o
  simp only at hk
  subst hk
  generalize l[i] = s at *
  obtain ⟨c', n', d', es⟩ := s
  simp only at hd hset ⊢
  subst hd
  have hlS : (List.map rowN (l.set i ⟨c', n', true, es⟩)).length = (List.map rowN l).length := by simp
  refine ACalls.drop1 (h1 := catO (l.set i ⟨c', n', true, es⟩) ++ [(3, ansX 0)]) ⟨rfl, rfl, trivial⟩ ?_
  have hcat : catO (l.set i ⟨c', n', true, es⟩) = [(0, .cells [.lsl 2 4 0 (l.map rowN).length]), (2, .arr 4 ((List.map rowN l).set (0 + ((i : Nat) : Int).toNat) (rowN ⟨c', n', true, es⟩)))] := by
    show [(0, AO.cells [.lsl 2 4 0 _]), (2, AO.arr 4 _)] = _
    rw [hlS, hset]
  rw [hcat]
  refine fnC lay_ok func50 rfl rfl rfl rfl rfl ?_
  repeat' first | refine stp lay_ok rfl ?_ | refine fin ?_ | refine n_thn ?_ | refine r_thn ?_ | refine r_blk ?_ | refine .seq ?_ | refine reg ?_ | refine .block ?_ | refine .skip ?_ | refine .ret ?_ | refine cndT rfl ?_ | refine cndF rfl ?_ | ((first | refine o_none rfl ?_ | refine o_none_ ?_); (first | refine st_indexL lay_ok rfl rfl rfl rfl (by omega) (by omega) ?_ | refine st_loadE [SV.int .i64 c', .str n', .bool false, .sl 3 (es.map rowE)] lay_ok rfl rfl rfl hat rfl rfl rfl ?_)) | refine o_none_ (st_storeE lay_ok rfl rfl rfl hat rfl rfl rfl rfl ?_) | fail
  refine f_end (n0 := 4) (t'' := [(6, .ptr 3 0)]) (h'' := [(0, .cells [.lsl 2 4 0 (l.map rowN).length]), (2, .arr 4 ((List.map rowN l).set (0 + ((i : Nat) : Int).toNat) (rowN ⟨c', n', true, es⟩))), (3, ansX 0)]) (WkR.of [1, 3] (by (repeat' first | exact trivial | refine And.intro ?_ ?_ | rfl); first | done | fail) (by (repeat' first | exact trivial | refine And.intro ?_ ?_ | rfl); first | done | fail) rfl) rfl rfl ⟨?_, rfl⟩
  rfl
set_option maxHeartbeats 4000000 in
theorem refOne4_ok (l : List NV) (i : Nat) (o : OV) (hi : i < l.length) (hl : l.length ≤ 4000000) (hk : o.kind = 4) (hd : l[i].done = false) :
    ACalls prog 50 2 [.ptr 0 0, I i, .st (.agg (rowO o))] (catH l) fun r h => r = ansC 0 ∧ h = catO (l.eraseIdx i) := by
  have hm : (List.map rowN l).length = l.length := List.length_map _
  have hat : (List.map rowN l)[0 + ((i : Nat) : Int).toNat]? = some (rowN l[i]) := by simp [hi]
  have hw := refWithout_ok l i hl
  obtain ⟨k, nm, pt, ks, n⟩ := o
  simp only at hk
  subst hk
  generalize l[i] = s at *
  obtain ⟨c', n', d', es⟩ := s
  simp only at hd
  subst hd
  generalize l.eraseIdx i = L at *
  refine ACalls.drop1 (h1 := catO L ++ [(3, ansX 0)]) ⟨rfl, rfl, trivial⟩ ?_
  refine fnC lay_ok func50 rfl rfl rfl rfl rfl ?_
  repeat' first | refine stp lay_ok rfl ?_ | refine fin ?_ | refine n_thn ?_ | refine r_thn ?_ | refine r_blk ?_ | refine .seq ?_ | refine reg ?_ | refine .block ?_ | refine .skip ?_ | refine .ret ?_ | refine cndT rfl ?_ | refine cndF rfl ?_ | (refine o_none rfl ?_; (first | refine st_indexL lay_ok rfl rfl rfl rfl (by omega) (by omega) ?_ | refine st_loadE [SV.int .i64 c', .str n', .bool false, .sl 3 (es.map rowE)] lay_ok rfl rfl rfl hat rfl rfl rfl ?_ | refine st_callG [0,1] 1 (hw) b83 rfl rfl rfl rfl rfl (by (repeat' first | exact trivial | refine And.intro ?_ ?_ | rfl); first | done | fail) rfl ?_)) | fail
  refine f_end (n0 := 4) (t'' := [(6, .ptr 3 0)]) (h'' := [(0, .cells [.lsl 2 4 0 (L.map rowN).length]), (2, .arr 4 (L.map rowN)), (3, ansX 0)]) (WkR.of [4, 3] (by (repeat' first | exact trivial | refine And.intro ?_ ?_ | rfl); first | done | fail) (by (repeat' first | exact trivial | refine And.intro ?_ ?_ | rfl); first | done | fail) rfl) rfl rfl ⟨?_, rfl⟩
  rfl
set_option maxHeartbeats 4000000 in
theorem refOne7_ok (l : List NV) (i : Nat) (o : OV) (hi : i < l.length) (hl : l.length ≤ 4000000) (hk : o.kind = 7) (hd : l[i].done = true) (hlen : l[i].entries.length ≤ 4000000) (hks : ∀ e ∈ l[i].entries, e.keys.length ≤ 4000000000) :
    ACalls prog 50 2 [.ptr 0 0, I i, .st (.agg (rowO o))] (catH l) fun r h => r = ansP l[i].entries ∧ h = catO l := by
  have hm : (List.map rowN l).length = l.length := List.length_map _
  have hat : (List.map rowN l)[0 + ((i : Nat) : Int).toNat]? = some (rowN l[i]) := by simp [hi]
  have hcp := refCopy4_ok l[i].entries hlen hks
  obtain ⟨k, nm, pt, ks, n⟩ := o
  simp only at hk
  subst hk
  generalize l[i] = s at *
  obtain ⟨c', n', d', es⟩ := s
  simp only at hd hcp ⊢
  subst hd
  refine ACalls.drop1 (h1 := catO l ++ [(3, .cells [.st (.int .i64 0), .st (.int .i64 0), .st .nilsl, .st .nilsl, .st (.sl 3 (es.map rowE))])]) ⟨rfl, rfl, trivial⟩ ?_
  refine fnC lay_ok func50 rfl rfl rfl rfl rfl ?_
  repeat' first | refine stp lay_ok rfl ?_ | refine fin ?_ | refine n_thn ?_ | refine n_blk ?_ | refine r_thn ?_ | refine .seq ?_ | refine reg ?_ | refine .block ?_ | refine .skip ?_ | refine .ret ?_ | refine cndT rfl ?_ | refine cndF rfl ?_ | (refine o_none rfl ?_; (first | refine st_indexL lay_ok rfl rfl rfl rfl (by omega) (by omega) ?_ | refine st_loadE [SV.int .i64 c', .str n', .bool true, .sl 3 (es.map rowE)] lay_ok rfl rfl rfl hat rfl rfl rfl ?_ | refine st_pure (hcp) b43 rfl rfl rfl rfl ?_)) | fail
  refine f_end (n0 := 4) (t'' := [(6, .ptr 3 0)]) (h'' := [(0, .cells [.lsl 2 4 0 (l.map rowN).length]), (2, .arr 4 (l.map rowN)), (3, .cells [.st (.int .i64 0), .st (.int .i64 0), .st .nilsl, .st .nilsl, .st (.sl 3 (es.map rowE))])]) (WkR.of [1, 3] (by (repeat' first | exact trivial | refine And.intro ?_ ?_ | rfl); first | done | fail) (by (repeat' first | exact trivial | refine And.intro ?_ ?_ | rfl); first | done | fail) rfl) rfl rfl ⟨?_, rfl⟩
  rfl
end Go.Proofs.YtligkfhplinjlaaGreatDoorFn
namespace Go.Proofs.YtligkfhplinjlaaGreatDoorFn
open Go.Proofs.YtligkfhplinjlaaGreatDoorAl Go.Proofs.Tryz
attribute [local irreducible] IntKind.wrap CodeOk OpsL OpG ACalls thn inBlk rndR cutR WkR Wk fnR DW ExtOk partsOf
/-! ### the document looks an entry up -/
set_option maxHeartbeats 8000000 in
theorem refOne6_ok (l : List NV) (i : Nat) (o : OV) (hi : i < l.length) (hl : l.length ≤ 4000000) (hk : o.kind = 6) (hd : l[i].done = true) (hlen : l[i].entries.length ≤ 4000000) (hks : ∀ e ∈ l[i].entries, e.keys.length ≤ 4000000000) :
    ACalls prog 50 2 [.ptr 0 0, I i, .st (.agg (rowO o))] (catH l) fun r h => r = lookN l[i].entries o.path ∧ h = catO l := by
  have hno := refNo_ok 3
  have hm : (List.map rowN l).length = l.length := List.length_map _
  have hat : (List.map rowN l)[0 + ((i : Nat) : Int).toNat]? = some (rowN l[i]) := by simp [hi]
  obtain ⟨k, nm, pt, ks, n⟩ := o
  simp only at hk
  subst hk
  generalize l[i] = s at *
  obtain ⟨c', n', d', es⟩ := s
  simp only at hd hlen hks ⊢
  subst hd
  have hme : (List.map rowE es).length = es.length := List.length_map _
  have hA : lookN es pt = match es.find? fun e => decide (e.path = pt) with
    | some e => ansK e.size e.keys
    | none => ansC 3 := rfl
  generalize lookN es pt = R at *
  cases hF : es.find? fun e => decide (e.path = pt) with
  | none =>
    rw [hF] at hA
    simp only at hA
    subst hA
    have hall : ∀ j (h : j < es.length), es[j].path ≠ pt := fun j h => by
      have := List.find?_eq_none.1 hF es[j] (List.getElem_mem h)
      simpa using this
    refine ACalls.drop1 (h1 := catO l ++ [(3, ansX 3)]) ⟨rfl, rfl, trivial⟩ ?_
    refine fnC lay_ok func50 rfl rfl rfl rfl rfl ?_
    repeat' first | refine stp lay_ok rfl ?_ | refine fin ?_ | refine n_thn ?_ | refine n_blk ?_ | refine .seq ?_ | refine reg ?_ | refine .block ?_ | refine .skip ?_ | refine cndF rfl ?_ | (refine o_none rfl ?_; (first | refine st_indexL lay_ok rfl rfl rfl rfl (by omega) (by omega) ?_ | refine st_loadE [SV.int .i64 c', .str n', .bool true, .sl 3 (es.map rowE)] lay_ok rfl rfl rfl hat rfl rfl rfl ?_)) | fail
    refine lpR (fun j => j ≤ es.length) (fun j => es.length - j) (fun j => [(8, I j)]) (fun j => []) (0) [0, 1, 5, 6] [] [] rfl rfl rfl (.of [] (by (repeat' first | exact trivial | refine And.intro ?_ ?_ | rfl); first | done | fail) (by (repeat' first | exact trivial | refine And.intro ?_ ?_ | rfl); first | done | fail) rfl) ?_ ?_
    · exact Nat.zero_le _
    rintro j j1
    refine nrm rfl rfl ?_
    by_cases hjl : j < es.length
    · have hatj := at_rowE hjl
      have hne := hall j hjl
      generalize es[j] = e at *
      obtain ⟨p, z, eks⟩ := e
      simp only at hne
      repeat' first | refine wr (by omega) ?_ | refine ln ?_ | refine stp lay_ok rfl ?_ | refine fin ?_ | refine n_thn ?_ | refine n_blk ?_ | refine e_thn ?_ | refine e_hit ?_ | refine e_rr ?_ | refine .seq ?_ | refine reg ?_ | refine .block ?_ | refine .skip ?_ | refine .exit ?_ | refine c_dec rfl (fun hc => ?_) (fun hc => ?_) | (refine o_none rfl ?_; (first | refine st_indexL lay_ok rfl rfl rfl rfl (by omega) (by omega) ?_ | refine st_loadE [SV.int .i64 c', .str n', .bool true, .sl 3 (es.map rowE)] lay_ok rfl rfl rfl hat rfl rfl rfl ?_ | refine st_index (rowE ⟨p, z, eks⟩) lay_ok rfl rfl rfl rfl (by omega) hatj ?_)) | fail
      all_goals first
        | (exfalso; omega)
        | (exfalso; exact hne (by assumption))
        | skip
      refine n_rr (j + 1) ?_ (.of [] (by (repeat' first | exact trivial | refine And.intro ?_ ?_ | rfl | exact congrArg (fun z : Int => some (AV.st (.int .i64 z))) (show (j : Int) + 1 = ((j + 1 : Nat) : Int) by omega)); first | done | fail) (by (repeat' first | exact trivial | refine And.intro ?_ ?_ | rfl | exact congrArg (fun z : Int => some (AV.st (.int .i64 z))) (show (j : Int) + 1 = ((j + 1 : Nat) : Int) by omega)); first | done | fail) rfl) ?_
      · show es.length - (j + 1) < es.length - j; omega
      · exact hjl
    have hje : j = es.length := by omega
    subst hje
    repeat' first | refine ln ?_ | refine stp lay_ok rfl ?_ | refine fin ?_ | refine n_thn ?_ | refine e_thn ?_ | refine e_hit ?_ | refine e_rr ?_ | refine .seq ?_ | refine reg ?_ | refine .block ?_ | refine .skip ?_ | refine .ret ?_ | refine .exit ?_ | refine c_dec rfl (fun hc => ?_) (fun hc => ?_) | (refine o_none rfl ?_; (first | refine st_indexL lay_ok rfl rfl rfl rfl (by omega) (by omega) ?_ | refine st_loadE [SV.int .i64 c', .str n', .bool true, .sl 3 (es.map rowE)] lay_ok rfl rfl rfl hat rfl rfl rfl ?_ | refine st_pure (hno) b45 rfl rfl rfl rfl ?_)) | fail
    all_goals first
      | (exfalso; omega)
      | skip
    refine f_end (n0 := 4) (t'' := [(6, .ptr 3 0)]) (h'' := [(0, .cells [.lsl 2 4 0 (l.map rowN).length]), (2, .arr 4 (l.map rowN)), (3, ansX 3)]) (WkR.of [1, 3] (by (repeat' first | exact trivial | refine And.intro ?_ ?_ | rfl); first | done | fail) (by (repeat' first | exact trivial | refine And.intro ?_ ?_ | rfl); first | done | fail) rfl) rfl rfl ⟨?_, rfl⟩
    rfl
  | some f =>
    rw [hF] at hA
    obtain ⟨fp, fz, fks⟩ := f
    simp only at hA
    subst hA
    have hfmem := List.mem_of_find?_eq_some hF
    have hfp := List.find?_some hF
    simp only [decide_eq_true_eq] at hfp
    have hkf := hks _ hfmem
    simp only at hkf
    refine ACalls.drop1 (h1 := catO l ++ [(3, .cells [.st (.int .i64 0), .st (.int .i64 fz), .st .nilsl, .st (.sl 1 (fks.map rowS)), .st .nilsl])]) ⟨rfl, rfl, trivial⟩ ?_
    refine fnC lay_ok func50 rfl rfl rfl rfl rfl ?_
    repeat' first | refine stp lay_ok rfl ?_ | refine fin ?_ | refine n_thn ?_ | refine n_blk ?_ | refine .seq ?_ | refine reg ?_ | refine .block ?_ | refine .skip ?_ | refine cndF rfl ?_ | (refine o_none rfl ?_; (first | refine st_indexL lay_ok rfl rfl rfl rfl (by omega) (by omega) ?_ | refine st_loadE [SV.int .i64 c', .str n', .bool true, .sl 3 (es.map rowE)] lay_ok rfl rfl rfl hat rfl rfl rfl ?_)) | fail
    refine lpR (fun j => j ≤ es.length ∧ (es.drop j).find? (fun e => decide (e.path = pt)) = some ⟨fp, fz, fks⟩) (fun j => es.length - j) (fun j => [(8, I j)]) (fun j => []) (0) [0, 1, 5, 6] [] [] rfl rfl rfl (.of [] (by (repeat' first | exact trivial | refine And.intro ?_ ?_ | rfl); first | done | fail) (by (repeat' first | exact trivial | refine And.intro ?_ ?_ | rfl); first | done | fail) rfl) ?_ ?_
    · exact ⟨Nat.zero_le _, hF⟩
    rintro j ⟨j1, j2⟩
    refine nrm rfl rfl ?_
    by_cases hjl : j < es.length
    · have hatj := at_rowE hjl
      rw [List.drop_eq_getElem_cons hjl, List.find?_cons] at j2
      have hmk : (List.map rowS fks).length = fks.length := List.length_map _
      generalize es[j] = e at *
      obtain ⟨p, z, eks⟩ := e
      by_cases hpe : p = pt
      · simp only [hpe, decide_true] at j2
        simp only [Option.some.injEq, EV.mk.injEq] at j2
        obtain ⟨e1, e2, e3⟩ := j2
        subst e2 e3
        repeat' first | refine wr (by omega) ?_ | refine ln ?_ | refine stp lay_ok rfl ?_ | refine fin ?_ | refine n_thn ?_ | refine n_blk ?_ | refine e_thn ?_ | refine e_hit ?_ | refine e_rr ?_ | refine .seq ?_ | refine reg ?_ | refine .block ?_ | refine .skip ?_ | refine .exit ?_ | refine c_dec rfl (fun hc => ?_) (fun hc => ?_) | (refine o_none rfl ?_; (first | refine st_indexL lay_ok rfl rfl rfl rfl (by omega) (by omega) ?_ | refine st_loadE [SV.int .i64 c', .str n', .bool true, .sl 3 (es.map rowE)] lay_ok rfl rfl rfl hat rfl rfl rfl ?_ | refine st_index (rowE ⟨p, z, eks⟩) lay_ok rfl rfl rfl rfl (by omega) hatj ?_)) | fail
        all_goals first
          | (exfalso; omega)
          | (exfalso; exact absurd hpe (by assumption))
          | skip
        refine dreg [(0, [], [93, 94, 95, 96]), (1, [0], [93, 94, 95, 96]), (2, [], [91, 92, 94, 95]), (3, [], [91, 92, 93]), (4, [3], [91, 92, 93]), (5, [2, 3, 4], [91, 92]), (6, [0, 1, 2, 3, 4, 5], []), (7, [0, 1, 2, 3, 4, 5, 6], [])] mixed (by kernel_rfl) ?_
        repeat' first | refine n_thn ?_ | refine r_thn ?_ | refine r_blk ?_ | refine r_rr ?_ | refine .ret ?_ | refine dws lay_ok rfl rfl rfl rfl rfl rfl rfl ?_ | refine dwu lay_ok rfl rfl rfl rfl rfl rfl rfl rfl rfl ?_ | refine dw_end ?_ | refine dwg rfl rfl rfl rfl rfl (by (first | refine st_append lay_ok rfl rfl rfl rfl rfl rfl rfl rfl .sl0 .sl rfl rowS_one (by simp only [List.length_nil, List.length_map]; omega) (by simp only [List.length_nil, List.length_map]; omega) ?_); exact fin rfl) rfl rfl rfl rfl rfl ?_ | fail
        all_goals first
          | (exfalso; omega)
          | skip
        refine f_end (n0 := 4) (t'' := [(6, .ptr 3 0)]) (h'' := [(0, .cells [.lsl 2 4 0 (l.map rowN).length]), (2, .arr 4 (l.map rowN)), (3, .cells [.st (.int .i64 0), .st (.int .i64 z), .st .nilsl, .st (.sl 1 (eks.map rowS)), .st .nilsl])]) (Wk.then (Wk.frz 5 [6] rfl rfl rfl (by (repeat' first | exact trivial | refine And.intro ?_ ?_ | rfl); first | done | fail) (by (repeat' first | exact trivial | refine And.intro ?_ ?_ | rfl); first | done | fail) rfl rfl) (WkR.of [1, 3] (by (repeat' first | exact trivial | refine And.intro ?_ ?_ | rfl); first | done | fail) (by (repeat' first | exact trivial | refine And.intro ?_ ?_ | rfl); first | done | fail) rfl)) rfl rfl ⟨?_, rfl⟩
        rfl
      · simp only [hpe, decide_false] at j2
        repeat' first | refine wr (by omega) ?_ | refine ln ?_ | refine stp lay_ok rfl ?_ | refine fin ?_ | refine n_thn ?_ | refine n_blk ?_ | refine e_thn ?_ | refine e_hit ?_ | refine e_rr ?_ | refine .seq ?_ | refine reg ?_ | refine .block ?_ | refine .skip ?_ | refine .exit ?_ | refine c_dec rfl (fun hc => ?_) (fun hc => ?_) | (refine o_none rfl ?_; (first | refine st_indexL lay_ok rfl rfl rfl rfl (by omega) (by omega) ?_ | refine st_loadE [SV.int .i64 c', .str n', .bool true, .sl 3 (es.map rowE)] lay_ok rfl rfl rfl hat rfl rfl rfl ?_ | refine st_index (rowE ⟨p, z, eks⟩) lay_ok rfl rfl rfl rfl (by omega) hatj ?_)) | fail
        all_goals first
          | (exfalso; omega)
          | (exfalso; exact absurd (by assumption) hpe)
          | skip
        refine n_rr (j + 1) ?_ (.of [] (by (repeat' first | exact trivial | refine And.intro ?_ ?_ | rfl | exact congrArg (fun z : Int => some (AV.st (.int .i64 z))) (show (j : Int) + 1 = ((j + 1 : Nat) : Int) by omega)); first | done | fail) (by (repeat' first | exact trivial | refine And.intro ?_ ?_ | rfl | exact congrArg (fun z : Int => some (AV.st (.int .i64 z))) (show (j : Int) + 1 = ((j + 1 : Nat) : Int) by omega)); first | done | fail) rfl) ?_
        · show es.length - (j + 1) < es.length - j; omega
        · exact ⟨hjl, j2⟩
    exfalso
    have hje : j = es.length := by omega
    subst hje
    rw [List.drop_length] at j2
    cases j2
end Go.Proofs.YtligkfhplinjlaaGreatDoorFn
namespace Go.Proofs.YtligkfhplinjlaaGreatDoorFn
open Go.Proofs.YtligkfhplinjlaaGreatDoorAl Go.Proofs.Tryz
def aheadB (l : List EV) (i : Nat) (p : ByteArray) : Bool := decide (0 < i) && (match l[i - 1]? with | some x => !strLt x.path p | none => false)
theorem entryC_eq (l : List EV) (i : Nat) (e : EV) : entryC l i e = if pathOk e.path then (if (aheadB l i e.path || (l.take i).any (fun x => under x.path e.path)) = true then some 4 else if wholeB e then none else some 1) else some 2 := rfl
end Go.Proofs.YtligkfhplinjlaaGreatDoorFn
namespace Go.Proofs.YtligkfhplinjlaaGreatDoorFn
open Go.Proofs.YtligkfhplinjlaaGreatDoorAl Go.Proofs.Tryz
attribute [local irreducible] IntKind.wrap CodeOk OpsL OpG ACalls thn inBlk rndR cutR WkR Wk fnR DW ExtOk partsOf
theorem b81 : HasBody prog 81 := ⟨f81, func81, Option.some_ne_none _, by decide⟩
theorem b42 : HasBody prog 42 := ⟨f42, func42, Option.some_ne_none _, by decide⟩
set_option maxRecDepth 4000 in
theorem refWhole_ok (e : EV) (hk : e.keys.length ≤ 4000000000) : ACalls prog 81 0 [.st (.agg (rowE e))] [] fun r h => r = B (wholeB e) ∧ h = [] := by
  obtain ⟨p, z, l⟩ := e
  have hm : (List.map rowS l).length = l.length := List.length_map _
  simp only [rowE, wholeB] at hk ⊢
  refine fnC lay_ok func81 rfl rfl rfl rfl rfl ?_
  repeat' first | refine o_frb 0 [.str p, .int .i64 z, .sl 1 (l.map rowS)] rfl rfl rfl (by (repeat' first | exact trivial | refine And.intro ?_ ?_ | rfl); first | done | fail) (by (repeat' first | exact trivial | refine And.intro ?_ ?_ | rfl); first | done | fail) rfl rfl ?_ | refine stp lay_ok rfl ?_ | refine fin ?_ | refine n_thn ?_ | refine .seq ?_ | refine reg ?_ | refine .block ?_ | fail
  refine lpR (fun k => k ≤ l.length ∧ (l.take k).all keyOk = true ∧ tot (l.take k) ≤ 64 * k) (fun k => l.length - k) (fun k => [(4, I k), (3, I (tot (l.take k)))]) (fun k => []) (0) [1] [] [] rfl rfl rfl (.of [] (by (repeat' first | exact trivial | refine And.intro ?_ ?_ | rfl); first | done | fail) (by (repeat' first | exact trivial | refine And.intro ?_ ?_ | rfl); first | done | fail) rfl) ?_ ?_
  · exact ⟨Nat.zero_le _, rfl, by simp [tot]⟩
  rintro k ⟨h1, h2, h3⟩
  refine nrm rfl rfl ?_
  by_cases hk' : k < l.length
  · have hat := at_rowS hk'
    have ht := tot_take hk'
    have ha := all_take (p := keyOk) hk'
    generalize hx : l[k] = x at *
    repeat' first | refine wr (by omega) ?_ | refine ln ?_ | refine stp lay_ok rfl ?_ | refine fin ?_ | refine n_thn ?_ | refine n_blk ?_ | refine e_thn ?_ | refine e_hit ?_ | refine r_thn ?_ | refine r_blk ?_ | refine e_rr ?_ | refine r_rr ?_ | refine .seq ?_ | refine reg ?_ | refine .block ?_ | refine .skip ?_ | refine .ret ?_ | refine .exit ?_ | refine cndT rfl ?_ | refine c_dec rfl (fun hc => ?_) (fun hc => ?_) | ((first | refine o_none rfl ?_ | refine o_yes rfl rfl rfl ?_); refine st_index (rowS x) lay_ok rfl rfl rfl rfl (by omega) hat ?_) | refine gd rfl rfl rfl (fun hg => ?_) (fun hg => ?_) | fail
    all_goals first
      | (exfalso; omega)
      | (refine f_r [] rfl trivial rfl ⟨?_, rfl⟩
         have : l.all keyOk = false := all_not hk' (by rw [hx]; simp [keyOk]; omega)
         rw [this]; rfl)
      | (refine n_rr (k + 1) ?_ (.of [] (by (repeat' first | exact trivial | refine And.intro ?_ ?_ | rfl | rw [ht]; push_cast; rfl); first | done | fail) (by (repeat' first | exact trivial | refine And.intro ?_ ?_ | rfl | rw [ht]; push_cast; rfl); first | done | fail) rfl) ?_
         · omega
         · refine ⟨hk', ?_, by omega⟩
           rw [ha, h2]; simp [keyOk]; omega)
  · have hk2 : k = l.length := by omega
    subst hk2
    rw [List.take_length] at *
    rw [h2]
    repeat' first | refine ln ?_ | refine stp lay_ok rfl ?_ | refine fin ?_ | refine n_thn ?_ | refine e_thn ?_ | refine e_hit ?_ | refine e_rr ?_ | refine .seq ?_ | refine reg ?_ | refine .block ?_ | refine .skip ?_ | refine .ret ?_ | refine .exit ?_ | refine c_dec rfl (fun hc => ?_) (fun hc => ?_) | refine gd rfl rfl rfl (fun hg => ?_) (fun hg => ?_) | fail
    all_goals first
      | (exfalso; omega)
      | (refine f_r [] rfl trivial rfl ⟨?_, rfl⟩
         simp only [retOf, B, AV.st.injEq, SV.bool.injEq]
         rw [Bool.eq_iff_iff]; simp; omega)
/-- What the reference's check tells. -/
def checkP (l : List EV) : Int × Int := if 32 < l.length then (7, -1) else match badFrom l l.length 0 with
  | none => (0, -1)
  | some (i, n) => (n, i)
set_option maxHeartbeats 8000000 in
set_option maxRecDepth 4000 in
theorem refCheck_ok (l : List EV) (hl : l.length ≤ 4000000000) (hp : ∀ e ∈ l, e.path.size ≤ 4000000000 - 1) (hk : ∀ e ∈ l, e.keys.length ≤ 4000000000) :
    ACalls prog 42 0 [.st (.sl 3 (l.map rowE))] [] fun r h => r = .tuple [I (checkP l).1, I (checkP l).2] ∧ h = [] := by
  have hm : (List.map rowE l).length = l.length := List.length_map _
  refine fnC lay_ok func42 rfl rfl rfl rfl rfl ?_
  repeat' first | refine ln ?_ | refine stp lay_ok rfl ?_ | refine fin ?_ | refine n_thn ?_ | refine r_thn ?_ | refine .seq ?_ | refine reg ?_ | refine .block ?_ | refine .skip ?_ | refine .ret ?_ | refine c_dec rfl (fun hc => ?_) (fun hc => ?_) | fail
  · refine f_r [] rfl trivial rfl ⟨?_, rfl⟩
    have : 32 < l.length := by omega
    simp only [checkP, this, if_true]; rfl
  have h32 : ¬ 32 < l.length := by omega
  have hcp : checkP l = match badFrom l l.length 0 with
    | none => (0, -1)
    | some (i, n) => (n, i) := by rw [checkP, if_neg h32]
  generalize checkP l = CP at *
  refine lpR (fun k => k ≤ l.length ∧ badFrom l l.length 0 = badFrom l (l.length - k) k) (fun k => l.length - k) (fun k => [(4, I k)]) (fun k => []) (0) [0] [] [] rfl rfl rfl (.of [] (by (repeat' first | exact trivial | refine And.intro ?_ ?_ | rfl); first | done | fail) (by (repeat' first | exact trivial | refine And.intro ?_ ?_ | rfl); first | done | fail) rfl) ?_ ?_
  · exact ⟨Nat.zero_le _, rfl⟩
  rintro i ⟨h1, h2⟩
  refine nrm rfl rfl ?_
  rw [h2] at hcp
  by_cases hi : i < l.length
  case neg =>
    have : i = l.length := by omega
    subst this
    rw [Nat.sub_self] at hcp
    simp only [badFrom] at hcp
    repeat' first | refine ln ?_ | refine stp lay_ok rfl ?_ | refine fin ?_ | refine n_thn ?_ | refine e_thn ?_ | refine e_hit ?_ | refine e_rr ?_ | refine .seq ?_ | refine reg ?_ | refine .block ?_ | refine .skip ?_ | refine .ret ?_ | refine .exit ?_ | refine c_dec rfl (fun hc => ?_) (fun hc => ?_) | fail
    · exfalso; omega
    · refine f_r [] rfl trivial rfl ⟨?_, rfl⟩
      rw [hcp]; rfl
  have hat := at_rowE hi
  have hb := badFrom_step l i hi
  have hpl := hp _ (List.getElem_mem hi)
  have hpath := refPath_ok l[i].path hpl
  have hwh := refWhole_ok l[i] (hk _ (List.getElem_mem hi))
  have hec := entryC_eq l i l[i]
  have hah : aheadB l i l[i].path = (decide (0 < i) && (match l[i - 1]? with | some x => !strLt x.path l[i].path | none => false)) := rfl
  have hund : ∀ (j : Nat) (hj : j < i), ACalls prog 80 0 [Sx (l[j]'(by omega)).path, Sx l[i].path] [] fun r h => r = B (under (l[j]'(by omega)).path l[i].path) ∧ h = [] := fun j hj =>
    refUnder_ok _ _ (hp _ (List.getElem_mem _)) hpl
  generalize hx : l[i] = x at *
  obtain ⟨p, z, ks⟩ := x
  simp only at *
  cases hpo : pathOk p <;> rw [hpo] at hpath hec
  · simp only [Bool.false_eq_true, if_false] at hec
    rw [hec] at hb
    simp only at hb
    rw [hb] at hcp
    repeat' first | refine ln ?_ | refine stp lay_ok rfl ?_ | refine fin ?_ | refine n_thn ?_ | refine e_thn ?_ | refine e_hit ?_ | refine r_thn ?_ | refine r_blk ?_ | refine e_rr ?_ | refine r_rr ?_ | refine .seq ?_ | refine reg ?_ | refine .block ?_ | refine .skip ?_ | refine .ret ?_ | refine .exit ?_ | refine cndT rfl ?_ | refine c_dec rfl (fun hc => ?_) (fun hc => ?_) | (refine o_none rfl ?_; (first | refine st_index (rowE ⟨p, z, ks⟩) lay_ok rfl rfl rfl rfl (by omega) hat ?_ | refine st_pure (hpath) b79 rfl rfl rfl rfl ?_)) | fail
    · refine f_r [] rfl trivial rfl ⟨?_, rfl⟩
      rw [hcp]; rfl
    · exfalso; omega
  simp only [if_true] at hec
  generalize hbA : aheadB l i p = bA at *
  have hinner : ∀ j, j ≤ i → (l.take i).take j = l.take j := fun j hj => by rw [List.take_take, Nat.min_eq_left hj]
  have hjr : ∀ j (hj : j < i), (l.map rowE)[((j : Nat) : Int).toNat]? = some (rowE (l[j]'(by omega))) := fun j hj => at_rowE (by omega)
  have hts : ∀ j (hj : j < i), (l.take (j + 1)).any (fun x => under x.path p) = ((l.take j).any (fun x => under x.path p) || under (l[j]'(by omega)).path p) := fun j hj => by
    rw [List.take_succ_eq_append_getElem (by omega), List.any_append]; simp
  have hnoi : ∀ j, i ≤ j → ¬ ((j : Nat) : Int) < (i : Int) := fun j hj => by omega
  obtain ⟨q, hq⟩ : ∃ q : Bool, q = (match l[i - 1]? with | some x => !strLt x.path p | none => false) := ⟨_, rfl⟩
  rcases Nat.eq_zero_or_pos i with h0 | h0
  all_goals first
    | (have h0' : i = 0 := h0
       have hbA' : bA = false := by rw [hah]; simp [h0]
       repeat' first | refine ln ?_ | refine stp lay_ok rfl ?_ | refine fin ?_ | refine n_thn ?_ | refine e_thn ?_ | refine e_hit ?_ | refine e_rr ?_ | refine .seq ?_ | refine reg ?_ | refine .block ?_ | refine .skip ?_ | refine .ret ?_ | refine .exit ?_ | refine cndF rfl ?_ | refine c_dec rfl (fun hc => ?_) (fun hc => ?_) | (refine o_none rfl ?_; (first | refine st_index (rowE ⟨p, z, ks⟩) lay_ok rfl rfl rfl rfl (by omega) hat ?_ | refine st_pure (hpath) b79 rfl rfl rfl rfl ?_)) | fail
       all_goals first
         | (exfalso; omega)
         | skip
       refine dreg [(0, [], []), (1, [0], []), (2, [0, 1], []), (3, [0, 1, 2], [31, 32, 36, 37, 38, 39, 40]), (4, [0, 1, 2], [30, 36, 37, 38, 39, 40]), (5, [0, 1, 2, 4], [30, 36, 37, 38, 39, 40]), (6, [0, 1, 2, 3, 4, 5], [36, 37, 38, 39, 40]), (7, [0, 1, 2, 3, 4, 5, 6], [36, 37, 38, 39, 40]), (8, [0, 1, 2, 3, 4, 5, 6, 7], [36, 37, 38, 39, 40]), (9, [0, 1, 2], [30, 31, 32, 33, 34, 35, 37]), (10, [0, 1, 2], [30, 31, 32, 33, 34, 35, 36]), (11, [0, 1, 2, 9, 10], [30, 31, 32, 33, 34, 35]), (12, [0, 1, 2, 9, 10, 11], [30, 31, 32, 33, 34, 35]), (13, [0, 1, 2, 9, 10, 11, 12], [30, 31, 32, 33, 34, 35]), (14, [0, 1, 2, 3, 4, 5, 6, 7, 8, 9, 10, 11, 12, 13], []), (15, [0, 1, 2, 3, 4, 5, 6, 7, 8, 9, 10, 11, 12, 13, 14], []), (16, [0, 1, 2, 3, 4, 5, 6, 7, 8, 9, 10, 11, 12, 13, 14, 15], [])] mixed (by kernel_rfl) ?_
       repeat' first | refine stp lay_ok rfl ?_ | refine fin ?_ | refine n_thn ?_ | refine .seq ?_ | refine reg ?_ | refine .block ?_ | refine dwr (by omega) ?_ | refine dws lay_ok rfl rfl rfl rfl rfl rfl rfl ?_ | refine dw_end ?_ | refine dw_skip rfl rfl rfl ?_ | refine dw_dec rfl rfl rfl (fun hg => ?_) (fun hg => ?_) | fail
       all_goals first
         | (exfalso; omega)
         | skip
       clear hg h0 h0')
    | (have hi1 : i - 1 < l.length := by omega
       have hbA' : bA = !strLt (l[i - 1]).path p := by
         rw [hah, List.getElem?_eq_getElem hi1]; simp [h0]
       have hat1 : (l.map rowE)[((i : Int) - 1).toNat]? = some (rowE l[i - 1]) := by
         rw [← at_rowE hi1]; congr 1; omega
       generalize l[i - 1] = y at *
       repeat' first | refine ln ?_ | refine stp lay_ok rfl ?_ | refine fin ?_ | refine n_thn ?_ | refine e_thn ?_ | refine e_hit ?_ | refine e_rr ?_ | refine .seq ?_ | refine reg ?_ | refine .block ?_ | refine .skip ?_ | refine .ret ?_ | refine .exit ?_ | refine cndF rfl ?_ | refine c_dec rfl (fun hc => ?_) (fun hc => ?_) | (refine o_none rfl ?_; (first | refine st_index (rowE ⟨p, z, ks⟩) lay_ok rfl rfl rfl rfl (by omega) hat ?_ | refine st_pure (hpath) b79 rfl rfl rfl rfl ?_)) | fail
       all_goals first
         | (exfalso; omega)
         | skip
       refine dreg [(0, [], []), (1, [0], []), (2, [0, 1], []), (3, [0, 1, 2], [31, 32, 36, 37, 38, 39, 40]), (4, [0, 1, 2], [30, 36, 37, 38, 39, 40]), (5, [0, 1, 2, 4], [30, 36, 37, 38, 39, 40]), (6, [0, 1, 2, 3, 4, 5], [36, 37, 38, 39, 40]), (7, [0, 1, 2, 3, 4, 5, 6], [36, 37, 38, 39, 40]), (8, [0, 1, 2, 3, 4, 5, 6, 7], [36, 37, 38, 39, 40]), (9, [0, 1, 2], [30, 31, 32, 33, 34, 35, 37]), (10, [0, 1, 2], [30, 31, 32, 33, 34, 35, 36]), (11, [0, 1, 2, 9, 10], [30, 31, 32, 33, 34, 35]), (12, [0, 1, 2, 9, 10, 11], [30, 31, 32, 33, 34, 35]), (13, [0, 1, 2, 9, 10, 11, 12], [30, 31, 32, 33, 34, 35]), (14, [0, 1, 2, 3, 4, 5, 6, 7, 8, 9, 10, 11, 12, 13], []), (15, [0, 1, 2, 3, 4, 5, 6, 7, 8, 9, 10, 11, 12, 13, 14], []), (16, [0, 1, 2, 3, 4, 5, 6, 7, 8, 9, 10, 11, 12, 13, 14, 15], [])] mixed (by kernel_rfl) ?_
       repeat' first | refine stp lay_ok rfl ?_ | refine fin ?_ | refine n_thn ?_ | refine .seq ?_ | refine reg ?_ | refine .block ?_ | refine dwr (by omega) ?_ | refine dws lay_ok rfl rfl rfl rfl rfl rfl rfl ?_ | refine dw_end ?_ | refine dw_skip rfl rfl rfl ?_ | refine dwb rfl rfl rfl rfl rfl (by (first | refine st_index (rowE ⟨p, z, ks⟩) lay_ok rfl rfl rfl rfl (by omega) hat ?_ | refine st_index (rowE y) lay_ok rfl rfl rfl rfl (by omega) hat1 ?_); exact fin rfl) rfl rfl ?_ | refine dw_dec rfl rfl rfl (fun hg => ?_) (fun hg => ?_) | fail
       all_goals first
         | (exfalso; omega)
         | skip)
  all_goals
    refine lpR (fun (j, b) => j ≤ i ∧ b = (bA || (l.take j).any (fun x => under x.path p))) (fun (j, b) => i - j) (fun (j, b) => [(7, I j), (6, B b)]) (fun (j, b) => []) ((0, _)) [0, 4] [] [] rfl rfl rfl (.of [] (by (repeat' first | exact trivial | refine And.intro ?_ ?_ | rfl); first | done | fail) (by (repeat' first | exact trivial | refine And.intro ?_ ?_ | rfl); first | done | fail) rfl) ?_ ?_
    · exact ⟨Nat.zero_le _, by rw [hbA']; simp⟩
    rintro ⟨j, b⟩ ⟨hj, hjb⟩
    refine nrm rfl rfl ?_
    by_cases hji : j < i
    · have hun := hund j hji
      have hatj := hjr j hji
      have htj := hts j hji
      generalize l[j] = y at *
      obtain ⟨p', z', ks'⟩ := y
      simp only at *
      cases b
      · repeat' first | refine stp lay_ok rfl ?_ | refine fin ?_ | refine n_thn ?_ | refine e_thn ?_ | refine e_hit ?_ | refine e_rr ?_ | refine .seq ?_ | refine reg ?_ | refine .block ?_ | refine .skip ?_ | refine .exit ?_ | refine cndF rfl ?_ | refine c_dec rfl (fun hc => ?_) (fun hc => ?_) | fail
        all_goals first
          | (exfalso; omega)
          | skip
        refine dreg [(0, [], []), (1, [0], []), (2, [0, 1], [51, 55, 56, 57, 58, 59]), (3, [0, 1], [50, 55, 56, 57, 58, 59]), (4, [0, 1, 2, 3], [55, 56, 57, 58, 59]), (5, [0, 1, 2, 3, 4], [55, 56, 57, 58, 59]), (6, [0, 1, 2, 3, 4, 5], [55, 56, 57, 58, 59]), (7, [0, 1], [50, 51, 52, 53, 54, 56]), (8, [0, 1], [50, 51, 52, 53, 54, 55]), (9, [0, 1, 7, 8], [50, 51, 52, 53, 54]), (10, [0, 1, 7, 8, 9], [50, 51, 52, 53, 54]), (11, [0, 1, 7, 8, 9, 10], [50, 51, 52, 53, 54]), (12, [0, 1, 2, 3, 4, 5, 6, 7, 8, 9, 10, 11], []), (13, [0, 1, 2, 3, 4, 5, 6, 7, 8, 9, 10, 11, 12], []), (14, [0, 1, 2, 3, 4, 5, 6, 7, 8, 9, 10, 11, 12, 13], [])] mixed (by kernel_rfl) ?_
        repeat' first | refine wr (by omega) ?_ | refine stp lay_ok rfl ?_ | refine fin ?_ | refine n_thn ?_ | refine n_blk ?_ | refine reg ?_ | refine dws lay_ok rfl rfl rfl rfl rfl rfl rfl ?_ | refine dw_end ?_ | refine dwb rfl rfl rfl rfl rfl (by (first | refine st_index (rowE ⟨p', z', ks'⟩) lay_ok rfl rfl rfl rfl (by omega) hatj ?_ | refine st_index (rowE ⟨p, z, ks⟩) lay_ok rfl rfl rfl rfl (by omega) hat ?_ | refine st_pure (hun) b80 rfl rfl rfl rfl ?_); exact fin rfl) rfl rfl ?_ | fail
        refine n_rr ((j + 1, under p' p)) ?_ (.of [] (by (repeat' first | exact trivial | refine And.intro ?_ ?_ | rfl); first | done | fail) (by (repeat' first | exact trivial | refine And.intro ?_ ?_ | rfl); first | done | fail) rfl) ?_
        · show i - (j + 1) < i - j; omega
        · refine ⟨hji, ?_⟩
          rw [htj]
          have := hjb.symm
          rw [Bool.or_eq_false_iff] at this
          rw [this.1, this.2]; rfl
      · repeat' first | refine stp lay_ok rfl ?_ | refine fin ?_ | refine n_thn ?_ | refine e_thn ?_ | refine e_hit ?_ | refine r_thn ?_ | refine r_blk ?_ | refine e_rr ?_ | refine r_rr ?_ | refine .seq ?_ | refine reg ?_ | refine .block ?_ | refine .skip ?_ | refine .ret ?_ | refine .exit ?_ | refine cndT rfl ?_ | refine c_dec rfl (fun hc => ?_) (fun hc => ?_) | fail
        all_goals first
          | (exfalso; omega)
          | skip
        refine dreg [(0, [], []), (1, [0], []), (2, [0, 1], [51, 55, 56, 57, 58, 59]), (3, [0, 1], [50, 55, 56, 57, 58, 59]), (4, [0, 1, 2, 3], [55, 56, 57, 58, 59]), (5, [0, 1, 2, 3, 4], [55, 56, 57, 58, 59]), (6, [0, 1, 2, 3, 4, 5], [55, 56, 57, 58, 59]), (7, [0, 1], [50, 51, 52, 53, 54, 56]), (8, [0, 1], [50, 51, 52, 53, 54, 55]), (9, [0, 1, 7, 8], [50, 51, 52, 53, 54]), (10, [0, 1, 7, 8, 9], [50, 51, 52, 53, 54]), (11, [0, 1, 7, 8, 9, 10], [50, 51, 52, 53, 54]), (12, [0, 1, 2, 3, 4, 5, 6, 7, 8, 9, 10, 11], []), (13, [0, 1, 2, 3, 4, 5, 6, 7, 8, 9, 10, 11, 12], []), (14, [0, 1, 2, 3, 4, 5, 6, 7, 8, 9, 10, 11, 12, 13], [])] mixed (by kernel_rfl) ?_
        repeat' first | refine wr (by omega) ?_ | refine stp lay_ok rfl ?_ | refine fin ?_ | refine n_thn ?_ | refine n_blk ?_ | refine reg ?_ | refine dws lay_ok rfl rfl rfl rfl rfl rfl rfl ?_ | refine dw_end ?_ | refine dw_skip rfl rfl rfl ?_ | fail
        refine n_rr ((j + 1, true)) ?_ (.of [] (by (repeat' first | exact trivial | refine And.intro ?_ ?_ | rfl); first | done | fail) (by (repeat' first | exact trivial | refine And.intro ?_ ?_ | rfl); first | done | fail) rfl) ?_
        · show i - (j + 1) < i - j; omega
        · refine ⟨hji, ?_⟩
          rw [htj, ← Bool.or_assoc, ← hjb]; rfl
    · have hje : j = i := by omega
      subst hje
      rw [← hjb] at hec
      cases b
      · simp only [Bool.false_eq_true, if_false] at hec
        cases hwb : wholeB ⟨p, z, ks⟩ <;> rw [hwb] at hwh hec
        · simp only [Bool.false_eq_true, if_false] at hec
          rw [hec] at hb
          simp only at hb
          rw [hb] at hcp
          repeat' first | refine stp lay_ok rfl ?_ | refine fin ?_ | refine n_thn ?_ | refine e_thn ?_ | refine e_hit ?_ | refine r_thn ?_ | refine r_blk ?_ | refine e_rr ?_ | refine r_rr ?_ | refine .seq ?_ | refine reg ?_ | refine .block ?_ | refine .skip ?_ | refine .ret ?_ | refine .exit ?_ | refine cndT rfl ?_ | refine cndF rfl ?_ | refine c_dec rfl (fun hc => ?_) (fun hc => ?_) | (refine o_none rfl ?_; (first | refine st_index (rowE ⟨p, z, ks⟩) lay_ok rfl rfl rfl rfl (by omega) hat ?_ | refine st_pure (hwh) b81 rfl rfl rfl rfl ?_)) | fail
          all_goals first
            | (exfalso; omega)
            | (refine f_r [] rfl trivial rfl ⟨?_, rfl⟩; rw [hcp]; rfl)
        · simp only [if_true] at hec
          rw [hec] at hb
          simp only at hb
          repeat' first | refine wr (by omega) ?_ | refine stp lay_ok rfl ?_ | refine fin ?_ | refine n_thn ?_ | refine n_blk ?_ | refine e_thn ?_ | refine e_hit ?_ | refine e_rr ?_ | refine .seq ?_ | refine reg ?_ | refine .block ?_ | refine .skip ?_ | refine .exit ?_ | refine cndF rfl ?_ | refine c_dec rfl (fun hc => ?_) (fun hc => ?_) | (refine o_none rfl ?_; (first | refine st_index (rowE ⟨p, z, ks⟩) lay_ok rfl rfl rfl rfl (by omega) hat ?_ | refine st_pure (hwh) b81 rfl rfl rfl rfl ?_)) | fail
          all_goals first
            | (exfalso; omega)
            | skip
          refine n_rr (j + 1) ?_ (.of [] (by (repeat' first | exact trivial | refine And.intro ?_ ?_ | rfl); first | done | fail) (by (repeat' first | exact trivial | refine And.intro ?_ ?_ | rfl); first | done | fail) rfl) ?_
          · omega
          · exact ⟨hi, h2.trans hb⟩
      · simp only [if_true] at hec
        rw [hec] at hb
        simp only at hb
        rw [hb] at hcp
        repeat' first | refine stp lay_ok rfl ?_ | refine fin ?_ | refine n_thn ?_ | refine e_thn ?_ | refine e_hit ?_ | refine r_thn ?_ | refine r_blk ?_ | refine e_rr ?_ | refine r_rr ?_ | refine .seq ?_ | refine reg ?_ | refine .block ?_ | refine .skip ?_ | refine .ret ?_ | refine .exit ?_ | refine cndT rfl ?_ | refine c_dec rfl (fun hc => ?_) (fun hc => ?_) | fail
        all_goals first
          | (exfalso; omega)
          | (refine f_r [] rfl trivial rfl ⟨?_, rfl⟩; rw [hcp]; rfl)
end Go.Proofs.YtligkfhplinjlaaGreatDoorFn
namespace Go.Proofs.YtligkfhplinjlaaGreatDoorFn
open Go.Proofs.YtligkfhplinjlaaGreatDoorAl Go.Proofs.Tryz
attribute [local irreducible] IntKind.wrap CodeOk OpsL OpG ACalls thn inBlk rndR cutR WkR Wk fnR DW ExtOk partsOf
theorem b21 : HasBody prog 21 := ⟨f21, func21, Option.some_ne_none _, by decide⟩
/-! ### a part has no slash -/
theorem dec_slash (s : ByteArray) (p j : Nat) (hm : mayR (Utf8.decode s p).1 = true) (hj : j < (Utf8.decode s p).2) (hlt : p + j < s.size) : (s.get! (p + j)).toNat ≠ 47 := by
  have hd := dec_eq s p
  have hmn : mayR 65533 = false := by decide
  generalize Utf8.decode s p = D at *
  have h123 : j = 0 ∨ j = 1 ∨ j = 2 ∨ j = 3 ∨ 4 ≤ j := by omega
  split at hd
  · subst hd
    rename_i h
    simp only at hm hj
    have : j = 0 := by omega
    subst this
    rw [mayR_lo h] at hm
    simp only [plainB, Bool.or_eq_true, decide_eq_true_eq] at hm
    rw [Nat.add_zero]; omega
  rename_i h0
  have hfirst : (s.get! (p + 0)).toNat ≠ 47 := by rw [Nat.add_zero]; omega
  split at hd
  · rename_i h1
    split at hd
    · subst hd; simp only at hj
      rcases h123 with rfl | rfl | rfl | rfl | h <;> first | exact hfirst | omega
    · subst hd; simp only at hm; rw [hmn] at hm; cases hm
  split at hd
  · rename_i h1
    split at hd
    · subst hd; simp only at hj
      rcases h123 with rfl | rfl | rfl | rfl | h <;> first | exact hfirst | omega
    · subst hd; simp only at hm; rw [hmn] at hm; cases hm
  split at hd
  · rename_i h1
    split at hd
    · subst hd; simp only at hj
      rcases h123 with rfl | rfl | rfl | rfl | h <;> first | exact hfirst | omega
    · subst hd; simp only at hm; rw [hmn] at hm; cases hm
  · subst hd; simp only at hm; rw [hmn] at hm; cases hm
theorem runs_slash (s : ByteArray) : ∀ (f p n : Nat), s.size < p + f → runs s f p = some n → ∀ j, p ≤ j → j < s.size → (s.get! j).toNat ≠ 47
  | 0, p, n, hf, _, j, h1, h2 => by omega
  | f + 1, p, n, hf, h, j, h1, h2 => by
    rw [runs, if_pos (by omega)] at h
    split at h
    · rename_i hm
      cases hr : runs s f (p + (Utf8.decode s p).2) with
      | none => rw [hr] at h; cases h
      | some n' =>
        have hw := decode_pos s p
        by_cases hj : j < p + (Utf8.decode s p).2
        · have := dec_slash s p (j - p) hm (by omega) (by omega)
          rwa [show p + (j - p) = j by omega] at this
        · exact runs_slash s f _ n' (by omega) hr j (by omega) h2
    · cases h
theorem slAt_iff (s : ByteArray) : slAt s < 0 ↔ ∀ j : Nat, j < s.size → (s.get! j).toNat ≠ 47 := by
  constructor
  · intro h j hj e
    have h1 := (idx_neg h).2
    rw [List.count_eq_zero] at h1
    apply h1
    have h2 := get_some hj
    rw [← data_get] at h2
    have : s.get! j = 47 := UInt8.toNat.inj (by rw [e]; rfl)
    rw [this] at h2
    exact List.mem_of_getElem? h2
  · intro h
    rcases Int.lt_or_le (slAt s) 0 with h0 | h0
    · exact h0
    · exfalso
      obtain ⟨m, hm⟩ : ∃ m : Nat, slAt s = m := ⟨(slAt s).toNat, by omega⟩
      have h3 : 0 < s.data.toList.count 47 := by have := (idx_pos hm).2.2; omega
      have h4 := List.count_pos_iff.1 h3
      obtain ⟨j, hj⟩ := List.mem_iff_getElem?.1 h4
      rw [data_get] at hj
      have hjs : j < s.size := by
        rcases Nat.lt_or_ge j s.size with g | g
        · exact g
        · rw [getElem?_neg s j (by omega)] at hj; cases hj
      rw [get_some hjs] at hj
      exact h j hjs (by rw [Option.some.inj hj]; rfl)
theorem nameOk_part (s : ByteArray) : nameOk s = partOk s := by
  unfold nameOk
  rcases Int.lt_or_le (slAt s) 0 with h0 | h0
  · rw [decide_eq_false (by omega), Bool.not_false, Bool.and_true]
    unfold pathOk
    rw [parts_neg h0]
    simp
  · rw [decide_eq_true (by omega), Bool.not_true, Bool.and_false]
    symm
    cases hp : partOk s with
    | false => rfl
    | true =>
      exfalso
      unfold partOk at hp
      cases hr : runs s (s.size + 1) 0 with
      | none => rw [hr] at hp; cases hp
      | some n =>
        have h1 := runs_slash s (s.size + 1) 0 n (by omega) hr
        have h2 := (slAt_iff s).2 (fun j hj => h1 j (Nat.zero_le _) hj)
        omega
theorem entryC_pos {l : List EV} {i : Nat} {e : EV} {n : Int} (h : entryC l i e = some n) : n = 1 ∨ n = 2 ∨ n = 4 := by
  rw [entryC_eq] at h
  split at h
  · split at h
    · have := Option.some.inj h; omega
    · split at h
      · cases h
      · have := Option.some.inj h; omega
  · have := Option.some.inj h; omega
theorem badFrom_pos (l : List EV) : ∀ (f i j : Nat) (n : Int), badFrom l f i = some (j, n) → n = 1 ∨ n = 2 ∨ n = 4
  | 0, _, _, _, h => by cases h
  | f + 1, i, j, n, h => by
    rw [badFrom] at h
    split at h
    · cases h
    · split at h
      · rename_i n' e
        simp only [Option.some.injEq, Prod.mk.injEq] at h
        rw [← h.2]; exact entryC_pos e
      · exact badFrom_pos l f (i + 1) j n h
theorem treeOk_check (l : List EV) : treeOk l = decide ((checkP l).1 = 0) := by
  unfold treeOk checkP
  by_cases h : 32 < l.length
  · rw [if_pos h, decide_eq_false (by omega)]; rfl
  · rw [if_neg h, decide_eq_true (by omega), Bool.true_and]
    cases hb : badFrom l l.length 0 with
    | none => rfl
    | some x =>
      obtain ⟨i, n⟩ := x
      have := badFrom_pos l _ _ _ _ hb
      simp; omega
theorem any_take {α : Type} {p : α → Bool} {l : List α} {k : Nat} (h : k < l.length) : (l.take (k + 1)).any p = ((l.take k).any p || p l[k]) := by
  rw [List.take_succ_eq_append_getElem h, List.any_append]; simp only [List.any_cons, List.any_nil, Bool.or_false]
theorem any_at {α : Type} {p : α → Bool} {l : List α} {k : Nat} (h : k < l.length) (hp : p l[k] = true) : l.any p = true :=
  List.any_eq_true.2 ⟨_, List.getElem_mem h, hp⟩
set_option maxHeartbeats 8000000 in
set_option maxRecDepth 4000 in
theorem refMay_ok (l : List NV) (hl : l.length ≤ 4000000000) (hk : ∀ s ∈ l, s.fit) : ACalls prog 21 0 [.st (.sl 4 (l.map rowN))] [] fun r h => r = B (fromB l) ∧ h = [] := by
  have hm : (List.map rowN l).length = l.length := List.length_map _
  have hW0 : fromB l = fromF (l.take 0) (l.drop 0) := rfl
  generalize fromB l = W at *
  refine fnC lay_ok func21 rfl rfl rfl rfl rfl ?_
  repeat' first | refine stp lay_ok rfl ?_ | refine fin ?_ | refine n_thn ?_ | refine .seq ?_ | refine reg ?_ | refine .block ?_ | fail
  refine lpR (fun k => k ≤ l.length ∧ W = fromF (l.take k) (l.drop k)) (fun k => l.length - k) (fun k => [(3, I k)]) (fun k => []) (0) [0] [] [] rfl rfl rfl (.of [] (by (repeat' first | exact trivial | refine And.intro ?_ ?_ | rfl); first | done | fail) (by (repeat' first | exact trivial | refine And.intro ?_ ?_ | rfl); first | done | fail) rfl) ?_ ?_
  · exact ⟨Nat.zero_le _, hW0⟩
  rintro i ⟨h1, h2⟩
  refine nrm rfl rfl ?_
  by_cases hi : i < l.length
  case neg =>
    have : i = l.length := by omega
    subst this
    rw [List.drop_length] at h2
    repeat' first | refine ln ?_ | refine stp lay_ok rfl ?_ | refine fin ?_ | refine n_thn ?_ | refine e_thn ?_ | refine e_hit ?_ | refine e_rr ?_ | refine .seq ?_ | refine reg ?_ | refine .block ?_ | refine .skip ?_ | refine .ret ?_ | refine .exit ?_ | refine c_dec rfl (fun hc => ?_) (fun hc => ?_) | fail
    · exfalso; omega
    · refine f_r [] rfl trivial rfl ⟨?_, rfl⟩
      rw [h2]; rfl
  have hat : (l.map rowN)[((i : Nat) : Int).toNat]? = some (rowN l[i]) := by simp [hi]
  have hf := hk _ (List.getElem_mem hi)
  rw [fromF_step hi] at h2
  have hMd : mayN (l.take i) l[i] = (decide (0 ≤ l[i].client ∧ l[i].client < 8) && decide (many l[i].client (l.take i) < 8) && nameOk l[i].name && !((l.take i).any fun x => decide (x.client = l[i].client) && decide (x.name = l[i].name)) && treeOk l[i].entries && !(l[i].entries.any fun e => decide (e.keys.length > 16))) := rfl
  rw [nameOk_part, treeOk_check] at hMd
  have hpart := refPart_ok l[i].name (by have := hf.1; omega)
  have hchk := refCheck_ok l[i].entries hf.2.1 (fun e he => (hf.2.2 e he).1) (fun e he => (hf.2.2 e he).2)
  have hjr : ∀ j (hj : j < i), (l.map rowN)[((j : Nat) : Int).toNat]? = some (rowN (l[j]'(by omega))) := fun j hj => by simp [show j < l.length by omega]
  generalize mayN (l.take i) l[i] = M at *
  generalize l[i] = s at *
  obtain ⟨c, n, d, es⟩ := s
  simp only at *
  generalize (checkP es).1 = ck at *
  generalize (checkP es).2 = cp at *
  have hme : (List.map rowE es).length = es.length := List.length_map _
  have hle : es.length ≤ 4000000000 := hf.2.1
  repeat' first | refine ln ?_ | refine stp lay_ok rfl ?_ | refine fin ?_ | refine n_thn ?_ | refine e_thn ?_ | refine e_hit ?_ | refine e_rr ?_ | refine .seq ?_ | refine reg ?_ | refine .block ?_ | refine .skip ?_ | refine .ret ?_ | refine .exit ?_ | refine c_dec rfl (fun hc => ?_) (fun hc => ?_) | fail
  all_goals first
    | (exfalso; omega)
    | skip
  repeat' first | refine o_frb 0 [.int .i64 c, .str n, .bool d, .sl 3 (es.map rowE)] rfl rfl rfl (by (repeat' first | exact trivial | refine And.intro ?_ ?_ | rfl); first | done | fail) (by (repeat' first | exact trivial | refine And.intro ?_ ?_ | rfl); first | done | fail) rfl rfl ?_ | refine stp lay_ok rfl ?_ | refine fin ?_ | refine n_thn ?_ | refine r_thn ?_ | refine r_blk ?_ | refine r_rr ?_ | refine .seq ?_ | refine reg ?_ | refine .block ?_ | refine .skip ?_ | refine .ret ?_ | refine cndT rfl ?_ | refine c_dec rfl (fun hc => ?_) (fun hc => ?_) | (refine o_none rfl ?_; (first | refine st_index (rowN ⟨c, n, d, es⟩) lay_ok rfl rfl rfl rfl (by omega) hat ?_ | refine st_pure (hpart) b41 rfl rfl rfl rfl ?_ | refine st_pure (hchk) b42 rfl rfl rfl rfl ?_)) | refine gb (b := (!partOk n)) rfl rfl rfl (fun hg => ?_) (fun hg => ?_) | refine gd rfl rfl rfl (fun hg => ?_) (fun hg => ?_) | fail
  all_goals first
    | (refine f_r [] rfl trivial rfl ⟨?_, rfl⟩
       have hMf : M = false := by rw [hMd]; simp_all; done
       rw [h2, hMf]; rfl)
    | (refine f_r [] rfl trivial rfl ⟨?_, rfl⟩
       have hMf : M = false := by rw [hMd, decide_eq_false (by omega)]; rfl
       rw [h2, hMf]; rfl)
    | skip
  have hP : partOk n = true := by cases h : partOk n <;> simp_all
  have hck : ck = 0 := by omega
  rw [hP, hck, decide_eq_true (show 0 ≤ c ∧ c < 8 by omega), decide_eq_true (rfl : (0 : Int) = 0), Bool.true_and, Bool.and_true, Bool.and_true] at hMd
  clear hpart hchk
  refine lpR (fun j => j ≤ es.length ∧ (es.take j).any (fun e => decide (e.keys.length > 16)) = false) (fun j => es.length - j) (fun j => [(8, I j)]) (fun j => []) (0) [0, 3, 4] [] [] rfl rfl rfl (.of [] (by (repeat' first | exact trivial | refine And.intro ?_ ?_ | rfl); first | done | fail) (by (repeat' first | exact trivial | refine And.intro ?_ ?_ | rfl); first | done | fail) rfl) ?_ ?_
  · exact ⟨Nat.zero_le _, rfl⟩
  rintro j ⟨hj1, hj2⟩
  refine nrm rfl rfl ?_
  by_cases hj : j < es.length
  · have hatj := at_rowE hj
    have htk := any_take (p := fun e : EV => decide (e.keys.length > 16)) hj
    have han := any_at (p := fun e : EV => decide (e.keys.length > 16)) hj
    generalize es[j] = e at *
    obtain ⟨p', z', ks'⟩ := e
    simp only at htk han
    repeat' first | refine wr (by omega) ?_ | refine ln ?_ | refine stp lay_ok rfl ?_ | refine fin ?_ | refine n_thn ?_ | refine n_blk ?_ | refine e_thn ?_ | refine e_hit ?_ | refine r_thn ?_ | refine r_blk ?_ | refine e_rr ?_ | refine r_rr ?_ | refine .seq ?_ | refine reg ?_ | refine .block ?_ | refine .skip ?_ | refine .ret ?_ | refine .exit ?_ | refine c_dec rfl (fun hc => ?_) (fun hc => ?_) | (refine o_none rfl ?_; refine st_index (rowE ⟨p', z', ks'⟩) lay_ok rfl rfl rfl rfl (by omega) hatj ?_) | fail
    all_goals first
      | (exfalso; omega)
      | (have hc2 : (ks'.length : Int) > 16 := hc
         refine f_r [] rfl trivial rfl ⟨?_, rfl⟩
         have := han (by rw [decide_eq_true_eq]; omega)
         have hMf : M = false := by rw [hMd, this]; simp
         rw [h2, hMf]; rfl)
      | (have hc2 : ¬ (ks'.length : Int) > 16 := hc
         refine n_rr (j + 1) ?_ (.of [] (by (repeat' first | exact trivial | refine And.intro ?_ ?_ | rfl); first | done | fail) (by (repeat' first | exact trivial | refine And.intro ?_ ?_ | rfl); first | done | fail) rfl) ?_
         · omega
         · refine ⟨hj, ?_⟩
           rw [htk, hj2, decide_eq_false (by omega)]; rfl)
  have hje : j = es.length := by omega
  subst hje
  rw [List.take_length] at hj2
  rw [hj2, Bool.not_false, Bool.and_true] at hMd
  repeat' first | refine ln ?_ | refine stp lay_ok rfl ?_ | refine fin ?_ | refine n_thn ?_ | refine e_thn ?_ | refine e_hit ?_ | refine e_rr ?_ | refine .seq ?_ | refine reg ?_ | refine .block ?_ | refine .skip ?_ | refine .exit ?_ | refine c_dec rfl (fun hc => ?_) (fun hc => ?_) | fail
  all_goals first
    | (exfalso; omega)
    | skip
  refine lpR (fun j => j ≤ i ∧ (l.take j).any (fun x => decide (x.client = c) && decide (x.name = n)) = false) (fun j => i - j) (fun j => [(9, I (many c (l.take j))), (10, I j)]) (fun j => []) (0) [0, 3, 4] [] [] rfl rfl rfl (.of [] (by (repeat' first | exact trivial | refine And.intro ?_ ?_ | rfl); first | done | fail) (by (repeat' first | exact trivial | refine And.intro ?_ ?_ | rfl); first | done | fail) rfl) ?_ ?_
  · exact ⟨Nat.zero_le _, rfl⟩
  rintro j ⟨hj1, hj3⟩
  refine nrm rfl rfl ?_
  have hml := many_le c (l.take j)
  rw [List.length_take] at hml
  by_cases hj : j < i
  · have hjl : j < l.length := by omega
    have hatj := hjr j hj
    have htk := any_take (p := fun x : NV => decide (x.client = c) && decide (x.name = n)) hjl
    have han : (decide (l[j].client = c) && decide (l[j].name = n)) = true → (l.take i).any (fun x => decide (x.client = c) && decide (x.name = n)) = true := fun h =>
      List.any_eq_true.2 ⟨_, List.mem_take_iff_getElem.2 ⟨j, by omega, rfl⟩, h⟩
    have hmt := many_take c l j hjl
    generalize l[j] = x at *
    obtain ⟨c', n', d', es'⟩ := x
    simp only at htk han hmt
    repeat' first | refine wr (by omega) ?_ | refine stp lay_ok rfl ?_ | refine fin ?_ | refine n_thn ?_ | refine n_blk ?_ | refine e_thn ?_ | refine e_hit ?_ | refine r_thn ?_ | refine r_blk ?_ | refine e_rr ?_ | refine r_rr ?_ | refine .seq ?_ | refine reg ?_ | refine .block ?_ | refine .skip ?_ | refine .ret ?_ | refine .exit ?_ | refine c_dec rfl (fun hc => ?_) (fun hc => ?_) | fail
    all_goals first
      | (exfalso; omega)
      | skip
    refine dreg [(0, [], [67, 71, 72]), (1, [], [66, 71, 72]), (2, [0, 1], [71, 72]), (3, [0, 1, 2], [71, 72]), (4, [0, 1, 2, 3], [71, 72]), (5, [], [66, 67, 68, 69, 70]), (6, [5], [66, 67, 68, 69, 70]), (7, [0, 1, 2, 3, 4, 5, 6], [])] mixed (by kernel_rfl) ?_
    repeat' first | refine wr (by omega) ?_ | refine stp lay_ok rfl ?_ | refine fin ?_ | refine n_thn ?_ | refine n_blk ?_ | refine .seq ?_ | refine reg ?_ | refine .skip ?_ | refine c_dec rfl (fun hc => ?_) (fun hc => ?_) | refine dws lay_ok rfl rfl rfl rfl rfl rfl rfl ?_ | refine dw_end ?_ | refine dwb rfl rfl rfl rfl rfl (by (first | refine st_index (rowN ⟨c', n', d', es'⟩) lay_ok rfl rfl rfl rfl (by omega) hatj ?_); exact fin rfl) rfl rfl ?_ | fail
    · refine dreg [(0, [], [77, 81, 82]), (1, [], [76, 81, 82]), (2, [0, 1], [81, 82]), (3, [0, 1, 2], [81, 82]), (4, [0, 1, 2, 3], [81, 82]), (5, [], [76, 77, 78, 79, 80]), (6, [5], [76, 77, 78, 79, 80]), (7, [0, 1, 2, 3, 4, 5, 6], [])] mixed (by kernel_rfl) ?_
      repeat' first | refine wr (by omega) ?_ | refine stp lay_ok rfl ?_ | refine fin ?_ | refine n_thn ?_ | refine n_blk ?_ | refine r_thn ?_ | refine r_blk ?_ | refine r_rr ?_ | refine .seq ?_ | refine reg ?_ | refine .skip ?_ | refine .ret ?_ | refine c_dec rfl (fun hc => ?_) (fun hc => ?_) | refine dws lay_ok rfl rfl rfl rfl rfl rfl rfl ?_ | refine dw_end ?_ | refine dwb rfl rfl rfl rfl rfl (by (first | refine st_index (rowN ⟨c', n', d', es'⟩) lay_ok rfl rfl rfl rfl (by omega) hatj ?_); exact fin rfl) rfl rfl ?_ | fail
      · refine f_r [] rfl trivial rfl ⟨?_, rfl⟩
        have h9 : c' = c := by assumption
        have h8 : n' = n := by assumption
        have := han (by rw [decide_eq_true h9, decide_eq_true h8]; rfl)
        have hMf : M = false := by rw [hMd, this]; simp
        rw [h2, hMf]; rfl
      · have h9 : c' = c := by assumption
        have h8 : ¬ n' = n := by assumption
        refine n_rr (j + 1) ?_ (.of [] (by (repeat' first | exact trivial | refine And.intro ?_ ?_ | rfl | rw [hmt, if_pos h9]; push_cast; rfl); first | done | fail) (by (repeat' first | exact trivial | refine And.intro ?_ ?_ | rfl | rw [hmt, if_pos h9]; push_cast; rfl); first | done | fail) rfl) ?_
        · omega
        · refine ⟨hj, ?_⟩
          rw [htk, hj3, decide_eq_false h8]; simp
    · have h9 : ¬ c' = c := by assumption
      refine n_rr (j + 1) ?_ (.of [] (by (repeat' first | exact trivial | refine And.intro ?_ ?_ | rfl | rw [hmt, if_neg h9]; rfl); first | done | fail) (by (repeat' first | exact trivial | refine And.intro ?_ ?_ | rfl | rw [hmt, if_neg h9]; rfl); first | done | fail) rfl) ?_
      · omega
      · refine ⟨hj, ?_⟩
        rw [htk, hj3, decide_eq_false h9]; simp
  have hje : j = i := by omega
  subst hje
  rw [hj3, Bool.not_false, Bool.and_true] at hMd
  repeat' first | refine wr (by omega) ?_ | refine stp lay_ok rfl ?_ | refine fin ?_ | refine n_thn ?_ | refine n_blk ?_ | refine e_thn ?_ | refine e_hit ?_ | refine r_thn ?_ | refine r_blk ?_ | refine e_rr ?_ | refine r_rr ?_ | refine .seq ?_ | refine reg ?_ | refine .block ?_ | refine .skip ?_ | refine .ret ?_ | refine .exit ?_ | refine c_dec rfl (fun hc => ?_) (fun hc => ?_) | fail
  all_goals first
    | (exfalso; omega)
    | (refine f_r [] rfl trivial rfl ⟨?_, rfl⟩
       have hMf : M = false := by rw [hMd, decide_eq_false (by omega)]
       rw [h2, hMf]; rfl)
    | (refine n_rr (j + 1) ?_ (.of [] (by (repeat' first | exact trivial | refine And.intro ?_ ?_ | rfl); first | done | fail) (by (repeat' first | exact trivial | refine And.intro ?_ ?_ | rfl); first | done | fail) rfl) ?_
       · omega
       · refine ⟨hi, ?_⟩
         rw [h2, hMd, decide_eq_true (by omega)]; rfl)
end Go.Proofs.YtligkfhplinjlaaGreatDoorFn
namespace Go.Proofs.YtligkfhplinjlaaGreatDoorFn
open Go.Proofs.YtligkfhplinjlaaGreatDoorAl Go.Proofs.Tryz
attribute [local irreducible] IntKind.wrap CodeOk OpsL OpG ACalls thn inBlk rndR cutR WkR Wk fnR DW ExtOk partsOf
theorem b82 : HasBody prog 82 := ⟨f82, func82, Option.some_ne_none _, by decide⟩
theorem b44 : HasBody prog 44 := ⟨f44, func44, Option.some_ne_none _, by decide⟩
theorem b107 : HasBody prog 107 := ⟨f107, func107, Option.some_ne_none _, by decide⟩
/-! ### the document's word on which operations may be -/
theorem refName_ok (s : ByteArray) (hs : s.size ≤ 4000000000 - 1) : ACalls prog 107 0 [Sx s] [] fun r h => r = B (nameOk s) ∧ h = [] := by
  have h1 := refPart_ok s (by omega)
  rw [← nameOk_part] at h1
  refine fnC lay_ok func107 rfl rfl rfl rfl rfl ?_
  repeat' first | refine stp lay_ok rfl ?_ | refine fin ?_ | refine n_thn ?_ | refine .seq ?_ | refine reg ?_ | refine .ret ?_ | (refine o_none rfl ?_; refine st_pure (h1) b41 rfl rfl rfl rfl ?_) | fail
  refine f_r [] rfl trivial rfl ⟨?_, rfl⟩
  rfl
set_option maxHeartbeats 4000000 in
theorem refOp1_ok (nm p : ByteArray) (ks : List ByteArray) (n : Int) (hn : nm.size ≤ 4000000000 - 1) (hp : p.size ≤ 4000000000 - 1) (hk : ks.length ≤ 4000000000) : ACalls prog 82 0 [.st (.agg (rowO ⟨1, nm, p, ks, n⟩))] [] fun r h => r = B (opOk ⟨1, nm, p, ks, n⟩) ∧ h = [] := by
  have e := opOk_of 1 nm p ks n true true false false false rfl rfl rfl rfl rfl
  have h3 := refName_ok nm hn
  have h4 := refPath_ok p hp
  have hm : (List.map rowS ks).length = ks.length := List.length_map _
  by_cases h0 : ks.length ≤ 16 ∧ 0 ≤ n ∧ n ≤ 100
  case neg =>
    have hf : opOk ⟨1, nm, p, ks, n⟩ = false := by
      rw [e, ← Bool.not_eq_true]
      simp only [Bool.and_eq_true, decide_eq_true_eq]
      exact fun h => h0 ⟨h.1.1.1.1.1.1, h.1.1.1.1.2.1, h.1.1.1.1.2.2⟩
    rw [hf]
    clear e
    refine fnC lay_ok func82 rfl rfl rfl rfl rfl ?_
    repeat' first | refine ln ?_ | refine stp lay_ok rfl ?_ | refine fin ?_ | refine n_thn ?_ | refine r_thn ?_ | refine .seq ?_ | refine reg ?_ | refine .block ?_ | refine .skip ?_ | refine .ret ?_ | refine cndT rfl ?_ | refine c_dec rfl (fun hc => ?_) (fun hc => ?_) | refine gd rfl rfl rfl (fun hg => ?_) (fun hg => ?_) | fail
    all_goals first
      | (exfalso; omega)
      | (exfalso; simp only at *; omega)
      | skip
    all_goals
      refine f_r [] rfl trivial rfl ⟨?_, rfl⟩
      rfl
  obtain ⟨g1, g2, g3⟩ := h0
  have e : opOk ⟨1, nm, p, ks, n⟩ = (ks.all keyOk && (if true = true then nameOk nm else decide (nm = ⟨#[]⟩)) && (if false = true then pathOk p else decide (p = ⟨#[]⟩)) && (false || decide (ks.length = 0)) && (false || decide (n = 0))) := by
    rw [e, decide_eq_true g1, decide_eq_true (show 0 ≤ n ∧ n ≤ 100 from ⟨g2, g3⟩)]
    simp
  rw [e]
  clear e
  refine fnC lay_ok func82 rfl rfl rfl rfl rfl ?_
  repeat' first | refine ln ?_ | refine stp lay_ok rfl ?_ | refine fin ?_ | refine n_thn ?_ | refine r_thn ?_ | refine .seq ?_ | refine reg ?_ | refine .block ?_ | refine .skip ?_ | refine .ret ?_ | refine cndT rfl ?_ | refine c_dec rfl (fun hc => ?_) (fun hc => ?_) | refine gd rfl rfl rfl (fun hg => ?_) (fun hg => ?_) | fail
  all_goals first
    | (exfalso; omega)
    | (exfalso; simp only at *; omega)
    | skip
  refine lpR (fun j => j ≤ ks.length ∧ (ks.take j).all keyOk = true) (fun j => ks.length - j) (fun j => [(3, I j)]) (fun j => []) (0) [1] [] [] rfl rfl rfl (.of [] (by (repeat' first | exact trivial | refine And.intro ?_ ?_ | rfl); first | done | fail) (by (repeat' first | exact trivial | refine And.intro ?_ ?_ | rfl); first | done | fail) rfl) ?_ ?_
  · exact ⟨Nat.zero_le _, rfl⟩
  rintro j ⟨j1, j2⟩
  refine nrm rfl rfl ?_
  by_cases hj : j < ks.length
  · have hat := at_rowS hj
    have htk := all_take (p := keyOk) hj
    rw [j2, Bool.true_and] at htk
    have hno := fun h => all_not (p := keyOk) (l := ks) hj h
    generalize ks[j] = y at *
    repeat' first | refine wr (by omega) ?_ | refine ln ?_ | refine stp lay_ok rfl ?_ | refine fin ?_ | refine n_thn ?_ | refine n_blk ?_ | refine e_thn ?_ | refine e_hit ?_ | refine r_thn ?_ | refine r_blk ?_ | refine e_rr ?_ | refine r_rr ?_ | refine .seq ?_ | refine reg ?_ | refine .block ?_ | refine .skip ?_ | refine .ret ?_ | refine .exit ?_ | refine cndT rfl ?_ | refine c_dec rfl (fun hc => ?_) (fun hc => ?_) | ((first | refine o_none rfl ?_ | refine o_yes rfl rfl rfl ?_); refine st_index [SV.str y] lay_ok rfl rfl rfl rfl (by omega) hat ?_) | refine gd rfl rfl rfl (fun hg => ?_) (fun hg => ?_) | fail
    all_goals first
      | (exfalso; omega)
      | (exfalso; simp only at *; omega)
      | skip
    all_goals first
      | (refine f_r [] rfl trivial rfl ⟨?_, rfl⟩
         rw [hno (decide_eq_false (by omega))]; rfl)
      | (refine n_rr (j + 1) ?_ (.of [] (by (repeat' first | exact trivial | refine And.intro ?_ ?_ | rfl | exact congrArg (fun z : Int => some (AV.st (.int .i64 z))) (show (j : Int) + 1 = ((j + 1 : Nat) : Int) by omega)); first | done | fail) (by (repeat' first | exact trivial | refine And.intro ?_ ?_ | rfl | exact congrArg (fun z : Int => some (AV.st (.int .i64 z))) (show (j : Int) + 1 = ((j + 1 : Nat) : Int) by omega)); first | done | fail) rfl) ?_
         · omega
         · exact ⟨hj, by rw [htk]; exact decide_eq_true (by omega)⟩)
  · have hje : j = ks.length := by omega
    subst hje
    rw [List.take_length] at j2
    rw [j2]
    simp only [Bool.true_and, if_true, if_false, Bool.false_eq_true, Bool.true_or, Bool.false_or, Bool.and_true]
    generalize nameOk nm = M at *
    generalize pathOk p = Q at *
    cases M <;> cases Q
    all_goals
      repeat' first | refine ln ?_ | refine stp lay_ok rfl ?_ | refine fin ?_ | refine n_thn ?_ | refine e_thn ?_ | refine e_hit ?_ | refine r_thn ?_ | refine r_blk ?_ | refine e_rr ?_ | refine .seq ?_ | refine reg ?_ | refine .block ?_ | refine .skip ?_ | refine .ret ?_ | refine .exit ?_ | refine cndT rfl ?_ | refine c_dec rfl (fun hc => ?_) (fun hc => ?_) | (refine o_none rfl ?_; (first | refine st_pure (h3) b107 rfl rfl rfl rfl ?_ | refine st_pure (h4) b79 rfl rfl rfl rfl ?_)) | refine gd rfl rfl rfl (fun hg => ?_) (fun hg => ?_) | fail
      all_goals first
        | (exfalso; omega)
        | (exfalso; simp only at *; omega)
        | skip
      all_goals
        refine f_r [] rfl trivial rfl ⟨?_, rfl⟩
        clear h3 h4
        first
          | rfl
          | (simp_all [retOf, B]; done)
          | (simp_all [retOf, B]; omega)
set_option maxHeartbeats 4000000 in
theorem refOp2_ok (nm p : ByteArray) (ks : List ByteArray) (n : Int) (hn : nm.size ≤ 4000000000 - 1) (hp : p.size ≤ 4000000000 - 1) (hk : ks.length ≤ 4000000000) : ACalls prog 82 0 [.st (.agg (rowO ⟨2, nm, p, ks, n⟩))] [] fun r h => r = B (opOk ⟨2, nm, p, ks, n⟩) ∧ h = [] := by
  have e := opOk_of 2 nm p ks n true true true true false rfl rfl rfl rfl rfl
  have h3 := refName_ok nm hn
  have h4 := refPath_ok p hp
  have hm : (List.map rowS ks).length = ks.length := List.length_map _
  by_cases h0 : ks.length ≤ 16 ∧ 0 ≤ n ∧ n ≤ 100
  case neg =>
    have hf : opOk ⟨2, nm, p, ks, n⟩ = false := by
      rw [e, ← Bool.not_eq_true]
      simp only [Bool.and_eq_true, decide_eq_true_eq]
      exact fun h => h0 ⟨h.1.1.1.1.1.1, h.1.1.1.1.2.1, h.1.1.1.1.2.2⟩
    rw [hf]
    clear e
    refine fnC lay_ok func82 rfl rfl rfl rfl rfl ?_
    repeat' first | refine ln ?_ | refine stp lay_ok rfl ?_ | refine fin ?_ | refine n_thn ?_ | refine r_thn ?_ | refine .seq ?_ | refine reg ?_ | refine .block ?_ | refine .skip ?_ | refine .ret ?_ | refine cndT rfl ?_ | refine c_dec rfl (fun hc => ?_) (fun hc => ?_) | refine gd rfl rfl rfl (fun hg => ?_) (fun hg => ?_) | fail
    all_goals first
      | (exfalso; omega)
      | (exfalso; simp only at *; omega)
      | skip
    all_goals
      refine f_r [] rfl trivial rfl ⟨?_, rfl⟩
      rfl
  obtain ⟨g1, g2, g3⟩ := h0
  have e : opOk ⟨2, nm, p, ks, n⟩ = (ks.all keyOk && (if true = true then nameOk nm else decide (nm = ⟨#[]⟩)) && (if true = true then pathOk p else decide (p = ⟨#[]⟩)) && (true || decide (ks.length = 0)) && (false || decide (n = 0))) := by
    rw [e, decide_eq_true g1, decide_eq_true (show 0 ≤ n ∧ n ≤ 100 from ⟨g2, g3⟩)]
    simp
  rw [e]
  clear e
  refine fnC lay_ok func82 rfl rfl rfl rfl rfl ?_
  repeat' first | refine ln ?_ | refine stp lay_ok rfl ?_ | refine fin ?_ | refine n_thn ?_ | refine r_thn ?_ | refine .seq ?_ | refine reg ?_ | refine .block ?_ | refine .skip ?_ | refine .ret ?_ | refine cndT rfl ?_ | refine c_dec rfl (fun hc => ?_) (fun hc => ?_) | refine gd rfl rfl rfl (fun hg => ?_) (fun hg => ?_) | fail
  all_goals first
    | (exfalso; omega)
    | (exfalso; simp only at *; omega)
    | skip
  refine lpR (fun j => j ≤ ks.length ∧ (ks.take j).all keyOk = true) (fun j => ks.length - j) (fun j => [(3, I j)]) (fun j => []) (0) [1] [] [] rfl rfl rfl (.of [] (by (repeat' first | exact trivial | refine And.intro ?_ ?_ | rfl); first | done | fail) (by (repeat' first | exact trivial | refine And.intro ?_ ?_ | rfl); first | done | fail) rfl) ?_ ?_
  · exact ⟨Nat.zero_le _, rfl⟩
  rintro j ⟨j1, j2⟩
  refine nrm rfl rfl ?_
  by_cases hj : j < ks.length
  · have hat := at_rowS hj
    have htk := all_take (p := keyOk) hj
    rw [j2, Bool.true_and] at htk
    have hno := fun h => all_not (p := keyOk) (l := ks) hj h
    generalize ks[j] = y at *
    repeat' first | refine wr (by omega) ?_ | refine ln ?_ | refine stp lay_ok rfl ?_ | refine fin ?_ | refine n_thn ?_ | refine n_blk ?_ | refine e_thn ?_ | refine e_hit ?_ | refine r_thn ?_ | refine r_blk ?_ | refine e_rr ?_ | refine r_rr ?_ | refine .seq ?_ | refine reg ?_ | refine .block ?_ | refine .skip ?_ | refine .ret ?_ | refine .exit ?_ | refine cndT rfl ?_ | refine c_dec rfl (fun hc => ?_) (fun hc => ?_) | ((first | refine o_none rfl ?_ | refine o_yes rfl rfl rfl ?_); refine st_index [SV.str y] lay_ok rfl rfl rfl rfl (by omega) hat ?_) | refine gd rfl rfl rfl (fun hg => ?_) (fun hg => ?_) | fail
    all_goals first
      | (exfalso; omega)
      | (exfalso; simp only at *; omega)
      | skip
    all_goals first
      | (refine f_r [] rfl trivial rfl ⟨?_, rfl⟩
         rw [hno (decide_eq_false (by omega))]; rfl)
      | (refine n_rr (j + 1) ?_ (.of [] (by (repeat' first | exact trivial | refine And.intro ?_ ?_ | rfl | exact congrArg (fun z : Int => some (AV.st (.int .i64 z))) (show (j : Int) + 1 = ((j + 1 : Nat) : Int) by omega)); first | done | fail) (by (repeat' first | exact trivial | refine And.intro ?_ ?_ | rfl | exact congrArg (fun z : Int => some (AV.st (.int .i64 z))) (show (j : Int) + 1 = ((j + 1 : Nat) : Int) by omega)); first | done | fail) rfl) ?_
         · omega
         · exact ⟨hj, by rw [htk]; exact decide_eq_true (by omega)⟩)
  · have hje : j = ks.length := by omega
    subst hje
    rw [List.take_length] at j2
    rw [j2]
    simp only [Bool.true_and, if_true, if_false, Bool.false_eq_true, Bool.true_or, Bool.false_or, Bool.and_true]
    generalize nameOk nm = M at *
    generalize pathOk p = Q at *
    cases M <;> cases Q
    all_goals
      repeat' first | refine ln ?_ | refine stp lay_ok rfl ?_ | refine fin ?_ | refine n_thn ?_ | refine e_thn ?_ | refine e_hit ?_ | refine r_thn ?_ | refine r_blk ?_ | refine e_rr ?_ | refine .seq ?_ | refine reg ?_ | refine .block ?_ | refine .skip ?_ | refine .ret ?_ | refine .exit ?_ | refine cndT rfl ?_ | refine cndF rfl ?_ | refine c_dec rfl (fun hc => ?_) (fun hc => ?_) | (refine o_none rfl ?_; (first | refine st_pure (h3) b107 rfl rfl rfl rfl ?_ | refine st_pure (h4) b79 rfl rfl rfl rfl ?_)) | fail
      all_goals first
        | (exfalso; omega)
        | (exfalso; simp only at *; omega)
        | skip
      all_goals
        refine f_r [] rfl trivial rfl ⟨?_, rfl⟩
        clear h3 h4
        first
          | rfl
          | (simp_all [retOf, B]; done)
          | (simp_all [retOf, B]; omega)
set_option maxHeartbeats 4000000 in
theorem refOp3_ok (nm p : ByteArray) (ks : List ByteArray) (n : Int) (hn : nm.size ≤ 4000000000 - 1) (hp : p.size ≤ 4000000000 - 1) (hk : ks.length ≤ 4000000000) : ACalls prog 82 0 [.st (.agg (rowO ⟨3, nm, p, ks, n⟩))] [] fun r h => r = B (opOk ⟨3, nm, p, ks, n⟩) ∧ h = [] := by
  have e := opOk_of 3 nm p ks n true true false false false rfl rfl rfl rfl rfl
  have h3 := refName_ok nm hn
  have h4 := refPath_ok p hp
  have hm : (List.map rowS ks).length = ks.length := List.length_map _
  by_cases h0 : ks.length ≤ 16 ∧ 0 ≤ n ∧ n ≤ 100
  case neg =>
    have hf : opOk ⟨3, nm, p, ks, n⟩ = false := by
      rw [e, ← Bool.not_eq_true]
      simp only [Bool.and_eq_true, decide_eq_true_eq]
      exact fun h => h0 ⟨h.1.1.1.1.1.1, h.1.1.1.1.2.1, h.1.1.1.1.2.2⟩
    rw [hf]
    clear e
    refine fnC lay_ok func82 rfl rfl rfl rfl rfl ?_
    repeat' first | refine ln ?_ | refine stp lay_ok rfl ?_ | refine fin ?_ | refine n_thn ?_ | refine r_thn ?_ | refine .seq ?_ | refine reg ?_ | refine .block ?_ | refine .skip ?_ | refine .ret ?_ | refine cndT rfl ?_ | refine c_dec rfl (fun hc => ?_) (fun hc => ?_) | refine gd rfl rfl rfl (fun hg => ?_) (fun hg => ?_) | fail
    all_goals first
      | (exfalso; omega)
      | (exfalso; simp only at *; omega)
      | skip
    all_goals
      refine f_r [] rfl trivial rfl ⟨?_, rfl⟩
      rfl
  obtain ⟨g1, g2, g3⟩ := h0
  have e : opOk ⟨3, nm, p, ks, n⟩ = (ks.all keyOk && (if true = true then nameOk nm else decide (nm = ⟨#[]⟩)) && (if false = true then pathOk p else decide (p = ⟨#[]⟩)) && (false || decide (ks.length = 0)) && (false || decide (n = 0))) := by
    rw [e, decide_eq_true g1, decide_eq_true (show 0 ≤ n ∧ n ≤ 100 from ⟨g2, g3⟩)]
    simp
  rw [e]
  clear e
  refine fnC lay_ok func82 rfl rfl rfl rfl rfl ?_
  repeat' first | refine ln ?_ | refine stp lay_ok rfl ?_ | refine fin ?_ | refine n_thn ?_ | refine r_thn ?_ | refine .seq ?_ | refine reg ?_ | refine .block ?_ | refine .skip ?_ | refine .ret ?_ | refine cndT rfl ?_ | refine c_dec rfl (fun hc => ?_) (fun hc => ?_) | refine gd rfl rfl rfl (fun hg => ?_) (fun hg => ?_) | fail
  all_goals first
    | (exfalso; omega)
    | (exfalso; simp only at *; omega)
    | skip
  refine lpR (fun j => j ≤ ks.length ∧ (ks.take j).all keyOk = true) (fun j => ks.length - j) (fun j => [(3, I j)]) (fun j => []) (0) [1] [] [] rfl rfl rfl (.of [] (by (repeat' first | exact trivial | refine And.intro ?_ ?_ | rfl); first | done | fail) (by (repeat' first | exact trivial | refine And.intro ?_ ?_ | rfl); first | done | fail) rfl) ?_ ?_
  · exact ⟨Nat.zero_le _, rfl⟩
  rintro j ⟨j1, j2⟩
  refine nrm rfl rfl ?_
  by_cases hj : j < ks.length
  · have hat := at_rowS hj
    have htk := all_take (p := keyOk) hj
    rw [j2, Bool.true_and] at htk
    have hno := fun h => all_not (p := keyOk) (l := ks) hj h
    generalize ks[j] = y at *
    repeat' first | refine wr (by omega) ?_ | refine ln ?_ | refine stp lay_ok rfl ?_ | refine fin ?_ | refine n_thn ?_ | refine n_blk ?_ | refine e_thn ?_ | refine e_hit ?_ | refine r_thn ?_ | refine r_blk ?_ | refine e_rr ?_ | refine r_rr ?_ | refine .seq ?_ | refine reg ?_ | refine .block ?_ | refine .skip ?_ | refine .ret ?_ | refine .exit ?_ | refine cndT rfl ?_ | refine c_dec rfl (fun hc => ?_) (fun hc => ?_) | ((first | refine o_none rfl ?_ | refine o_yes rfl rfl rfl ?_); refine st_index [SV.str y] lay_ok rfl rfl rfl rfl (by omega) hat ?_) | refine gd rfl rfl rfl (fun hg => ?_) (fun hg => ?_) | fail
    all_goals first
      | (exfalso; omega)
      | (exfalso; simp only at *; omega)
      | skip
    all_goals first
      | (refine f_r [] rfl trivial rfl ⟨?_, rfl⟩
         rw [hno (decide_eq_false (by omega))]; rfl)
      | (refine n_rr (j + 1) ?_ (.of [] (by (repeat' first | exact trivial | refine And.intro ?_ ?_ | rfl | exact congrArg (fun z : Int => some (AV.st (.int .i64 z))) (show (j : Int) + 1 = ((j + 1 : Nat) : Int) by omega)); first | done | fail) (by (repeat' first | exact trivial | refine And.intro ?_ ?_ | rfl | exact congrArg (fun z : Int => some (AV.st (.int .i64 z))) (show (j : Int) + 1 = ((j + 1 : Nat) : Int) by omega)); first | done | fail) rfl) ?_
         · omega
         · exact ⟨hj, by rw [htk]; exact decide_eq_true (by omega)⟩)
  · have hje : j = ks.length := by omega
    subst hje
    rw [List.take_length] at j2
    rw [j2]
    simp only [Bool.true_and, if_true, if_false, Bool.false_eq_true, Bool.true_or, Bool.false_or, Bool.and_true]
    generalize nameOk nm = M at *
    generalize pathOk p = Q at *
    cases M <;> cases Q
    all_goals
      repeat' first | refine ln ?_ | refine stp lay_ok rfl ?_ | refine fin ?_ | refine n_thn ?_ | refine e_thn ?_ | refine e_hit ?_ | refine r_thn ?_ | refine r_blk ?_ | refine e_rr ?_ | refine .seq ?_ | refine reg ?_ | refine .block ?_ | refine .skip ?_ | refine .ret ?_ | refine .exit ?_ | refine cndT rfl ?_ | refine cndF rfl ?_ | refine c_dec rfl (fun hc => ?_) (fun hc => ?_) | (refine o_none rfl ?_; (first | refine st_pure (h3) b107 rfl rfl rfl rfl ?_ | refine st_pure (h4) b79 rfl rfl rfl rfl ?_)) | refine gd rfl rfl rfl (fun hg => ?_) (fun hg => ?_) | fail
      all_goals first
        | (exfalso; omega)
        | (exfalso; simp only at *; omega)
        | skip
      all_goals
        refine f_r [] rfl trivial rfl ⟨?_, rfl⟩
        clear h3 h4
        first
          | rfl
          | (simp_all [retOf, B]; done)
          | (simp_all [retOf, B]; omega)
set_option maxHeartbeats 4000000 in
theorem refOp4_ok (nm p : ByteArray) (ks : List ByteArray) (n : Int) (hn : nm.size ≤ 4000000000 - 1) (hp : p.size ≤ 4000000000 - 1) (hk : ks.length ≤ 4000000000) : ACalls prog 82 0 [.st (.agg (rowO ⟨4, nm, p, ks, n⟩))] [] fun r h => r = B (opOk ⟨4, nm, p, ks, n⟩) ∧ h = [] := by
  have e := opOk_of 4 nm p ks n true true false false false rfl rfl rfl rfl rfl
  have h3 := refName_ok nm hn
  have h4 := refPath_ok p hp
  have hm : (List.map rowS ks).length = ks.length := List.length_map _
  by_cases h0 : ks.length ≤ 16 ∧ 0 ≤ n ∧ n ≤ 100
  case neg =>
    have hf : opOk ⟨4, nm, p, ks, n⟩ = false := by
      rw [e, ← Bool.not_eq_true]
      simp only [Bool.and_eq_true, decide_eq_true_eq]
      exact fun h => h0 ⟨h.1.1.1.1.1.1, h.1.1.1.1.2.1, h.1.1.1.1.2.2⟩
    rw [hf]
    clear e
    refine fnC lay_ok func82 rfl rfl rfl rfl rfl ?_
    repeat' first | refine ln ?_ | refine stp lay_ok rfl ?_ | refine fin ?_ | refine n_thn ?_ | refine r_thn ?_ | refine .seq ?_ | refine reg ?_ | refine .block ?_ | refine .skip ?_ | refine .ret ?_ | refine cndT rfl ?_ | refine c_dec rfl (fun hc => ?_) (fun hc => ?_) | refine gd rfl rfl rfl (fun hg => ?_) (fun hg => ?_) | fail
    all_goals first
      | (exfalso; omega)
      | (exfalso; simp only at *; omega)
      | skip
    all_goals
      refine f_r [] rfl trivial rfl ⟨?_, rfl⟩
      rfl
  obtain ⟨g1, g2, g3⟩ := h0
  have e : opOk ⟨4, nm, p, ks, n⟩ = (ks.all keyOk && (if true = true then nameOk nm else decide (nm = ⟨#[]⟩)) && (if false = true then pathOk p else decide (p = ⟨#[]⟩)) && (false || decide (ks.length = 0)) && (false || decide (n = 0))) := by
    rw [e, decide_eq_true g1, decide_eq_true (show 0 ≤ n ∧ n ≤ 100 from ⟨g2, g3⟩)]
    simp
  rw [e]
  clear e
  refine fnC lay_ok func82 rfl rfl rfl rfl rfl ?_
  repeat' first | refine ln ?_ | refine stp lay_ok rfl ?_ | refine fin ?_ | refine n_thn ?_ | refine r_thn ?_ | refine .seq ?_ | refine reg ?_ | refine .block ?_ | refine .skip ?_ | refine .ret ?_ | refine cndT rfl ?_ | refine c_dec rfl (fun hc => ?_) (fun hc => ?_) | refine gd rfl rfl rfl (fun hg => ?_) (fun hg => ?_) | fail
  all_goals first
    | (exfalso; omega)
    | (exfalso; simp only at *; omega)
    | skip
  refine lpR (fun j => j ≤ ks.length ∧ (ks.take j).all keyOk = true) (fun j => ks.length - j) (fun j => [(3, I j)]) (fun j => []) (0) [1] [] [] rfl rfl rfl (.of [] (by (repeat' first | exact trivial | refine And.intro ?_ ?_ | rfl); first | done | fail) (by (repeat' first | exact trivial | refine And.intro ?_ ?_ | rfl); first | done | fail) rfl) ?_ ?_
  · exact ⟨Nat.zero_le _, rfl⟩
  rintro j ⟨j1, j2⟩
  refine nrm rfl rfl ?_
  by_cases hj : j < ks.length
  · have hat := at_rowS hj
    have htk := all_take (p := keyOk) hj
    rw [j2, Bool.true_and] at htk
    have hno := fun h => all_not (p := keyOk) (l := ks) hj h
    generalize ks[j] = y at *
    repeat' first | refine wr (by omega) ?_ | refine ln ?_ | refine stp lay_ok rfl ?_ | refine fin ?_ | refine n_thn ?_ | refine n_blk ?_ | refine e_thn ?_ | refine e_hit ?_ | refine r_thn ?_ | refine r_blk ?_ | refine e_rr ?_ | refine r_rr ?_ | refine .seq ?_ | refine reg ?_ | refine .block ?_ | refine .skip ?_ | refine .ret ?_ | refine .exit ?_ | refine cndT rfl ?_ | refine c_dec rfl (fun hc => ?_) (fun hc => ?_) | ((first | refine o_none rfl ?_ | refine o_yes rfl rfl rfl ?_); refine st_index [SV.str y] lay_ok rfl rfl rfl rfl (by omega) hat ?_) | refine gd rfl rfl rfl (fun hg => ?_) (fun hg => ?_) | fail
    all_goals first
      | (exfalso; omega)
      | (exfalso; simp only at *; omega)
      | skip
    all_goals first
      | (refine f_r [] rfl trivial rfl ⟨?_, rfl⟩
         rw [hno (decide_eq_false (by omega))]; rfl)
      | (refine n_rr (j + 1) ?_ (.of [] (by (repeat' first | exact trivial | refine And.intro ?_ ?_ | rfl | exact congrArg (fun z : Int => some (AV.st (.int .i64 z))) (show (j : Int) + 1 = ((j + 1 : Nat) : Int) by omega)); first | done | fail) (by (repeat' first | exact trivial | refine And.intro ?_ ?_ | rfl | exact congrArg (fun z : Int => some (AV.st (.int .i64 z))) (show (j : Int) + 1 = ((j + 1 : Nat) : Int) by omega)); first | done | fail) rfl) ?_
         · omega
         · exact ⟨hj, by rw [htk]; exact decide_eq_true (by omega)⟩)
  · have hje : j = ks.length := by omega
    subst hje
    rw [List.take_length] at j2
    rw [j2]
    simp only [Bool.true_and, if_true, if_false, Bool.false_eq_true, Bool.true_or, Bool.false_or, Bool.and_true]
    generalize nameOk nm = M at *
    generalize pathOk p = Q at *
    cases M <;> cases Q
    all_goals
      repeat' first | refine ln ?_ | refine stp lay_ok rfl ?_ | refine fin ?_ | refine n_thn ?_ | refine e_thn ?_ | refine e_hit ?_ | refine r_thn ?_ | refine r_blk ?_ | refine e_rr ?_ | refine .seq ?_ | refine reg ?_ | refine .block ?_ | refine .skip ?_ | refine .ret ?_ | refine .exit ?_ | refine cndT rfl ?_ | refine cndF rfl ?_ | refine c_dec rfl (fun hc => ?_) (fun hc => ?_) | (refine o_none rfl ?_; (first | refine st_pure (h3) b107 rfl rfl rfl rfl ?_ | refine st_pure (h4) b79 rfl rfl rfl rfl ?_)) | refine gd rfl rfl rfl (fun hg => ?_) (fun hg => ?_) | fail
      all_goals first
        | (exfalso; omega)
        | (exfalso; simp only at *; omega)
        | skip
      all_goals
        refine f_r [] rfl trivial rfl ⟨?_, rfl⟩
        clear h3 h4
        first
          | rfl
          | (simp_all [retOf, B]; done)
          | (simp_all [retOf, B]; omega)
set_option maxHeartbeats 4000000 in
theorem refOp5_ok (nm p : ByteArray) (ks : List ByteArray) (n : Int) (hn : nm.size ≤ 4000000000 - 1) (hp : p.size ≤ 4000000000 - 1) (hk : ks.length ≤ 4000000000) : ACalls prog 82 0 [.st (.agg (rowO ⟨5, nm, p, ks, n⟩))] [] fun r h => r = B (opOk ⟨5, nm, p, ks, n⟩) ∧ h = [] := by
  have e := opOk_of 5 nm p ks n true false false false false rfl rfl rfl rfl rfl
  have h3 := refName_ok nm hn
  have h4 := refPath_ok p hp
  have hm : (List.map rowS ks).length = ks.length := List.length_map _
  by_cases h0 : ks.length ≤ 16 ∧ 0 ≤ n ∧ n ≤ 100
  case neg =>
    have hf : opOk ⟨5, nm, p, ks, n⟩ = false := by
      rw [e, ← Bool.not_eq_true]
      simp only [Bool.and_eq_true, decide_eq_true_eq]
      exact fun h => h0 ⟨h.1.1.1.1.1.1, h.1.1.1.1.2.1, h.1.1.1.1.2.2⟩
    rw [hf]
    clear e
    refine fnC lay_ok func82 rfl rfl rfl rfl rfl ?_
    repeat' first | refine ln ?_ | refine stp lay_ok rfl ?_ | refine fin ?_ | refine n_thn ?_ | refine r_thn ?_ | refine .seq ?_ | refine reg ?_ | refine .block ?_ | refine .skip ?_ | refine .ret ?_ | refine cndT rfl ?_ | refine c_dec rfl (fun hc => ?_) (fun hc => ?_) | refine gd rfl rfl rfl (fun hg => ?_) (fun hg => ?_) | fail
    all_goals first
      | (exfalso; omega)
      | (exfalso; simp only at *; omega)
      | skip
    all_goals
      refine f_r [] rfl trivial rfl ⟨?_, rfl⟩
      rfl
  obtain ⟨g1, g2, g3⟩ := h0
  have e : opOk ⟨5, nm, p, ks, n⟩ = (ks.all keyOk && (if false = true then nameOk nm else decide (nm = ⟨#[]⟩)) && (if false = true then pathOk p else decide (p = ⟨#[]⟩)) && (false || decide (ks.length = 0)) && (false || decide (n = 0))) := by
    rw [e, decide_eq_true g1, decide_eq_true (show 0 ≤ n ∧ n ≤ 100 from ⟨g2, g3⟩)]
    simp
  rw [e]
  clear e
  refine fnC lay_ok func82 rfl rfl rfl rfl rfl ?_
  repeat' first | refine ln ?_ | refine stp lay_ok rfl ?_ | refine fin ?_ | refine n_thn ?_ | refine r_thn ?_ | refine .seq ?_ | refine reg ?_ | refine .block ?_ | refine .skip ?_ | refine .ret ?_ | refine cndT rfl ?_ | refine c_dec rfl (fun hc => ?_) (fun hc => ?_) | refine gd rfl rfl rfl (fun hg => ?_) (fun hg => ?_) | fail
  all_goals first
    | (exfalso; omega)
    | (exfalso; simp only at *; omega)
    | skip
  refine lpR (fun j => j ≤ ks.length ∧ (ks.take j).all keyOk = true) (fun j => ks.length - j) (fun j => [(3, I j)]) (fun j => []) (0) [1] [] [] rfl rfl rfl (.of [] (by (repeat' first | exact trivial | refine And.intro ?_ ?_ | rfl); first | done | fail) (by (repeat' first | exact trivial | refine And.intro ?_ ?_ | rfl); first | done | fail) rfl) ?_ ?_
  · exact ⟨Nat.zero_le _, rfl⟩
  rintro j ⟨j1, j2⟩
  refine nrm rfl rfl ?_
  by_cases hj : j < ks.length
  · have hat := at_rowS hj
    have htk := all_take (p := keyOk) hj
    rw [j2, Bool.true_and] at htk
    have hno := fun h => all_not (p := keyOk) (l := ks) hj h
    generalize ks[j] = y at *
    repeat' first | refine wr (by omega) ?_ | refine ln ?_ | refine stp lay_ok rfl ?_ | refine fin ?_ | refine n_thn ?_ | refine n_blk ?_ | refine e_thn ?_ | refine e_hit ?_ | refine r_thn ?_ | refine r_blk ?_ | refine e_rr ?_ | refine r_rr ?_ | refine .seq ?_ | refine reg ?_ | refine .block ?_ | refine .skip ?_ | refine .ret ?_ | refine .exit ?_ | refine cndT rfl ?_ | refine c_dec rfl (fun hc => ?_) (fun hc => ?_) | ((first | refine o_none rfl ?_ | refine o_yes rfl rfl rfl ?_); refine st_index [SV.str y] lay_ok rfl rfl rfl rfl (by omega) hat ?_) | refine gd rfl rfl rfl (fun hg => ?_) (fun hg => ?_) | fail
    all_goals first
      | (exfalso; omega)
      | (exfalso; simp only at *; omega)
      | skip
    all_goals first
      | (refine f_r [] rfl trivial rfl ⟨?_, rfl⟩
         rw [hno (decide_eq_false (by omega))]; rfl)
      | (refine n_rr (j + 1) ?_ (.of [] (by (repeat' first | exact trivial | refine And.intro ?_ ?_ | rfl | exact congrArg (fun z : Int => some (AV.st (.int .i64 z))) (show (j : Int) + 1 = ((j + 1 : Nat) : Int) by omega)); first | done | fail) (by (repeat' first | exact trivial | refine And.intro ?_ ?_ | rfl | exact congrArg (fun z : Int => some (AV.st (.int .i64 z))) (show (j : Int) + 1 = ((j + 1 : Nat) : Int) by omega)); first | done | fail) rfl) ?_
         · omega
         · exact ⟨hj, by rw [htk]; exact decide_eq_true (by omega)⟩)
  · have hje : j = ks.length := by omega
    subst hje
    rw [List.take_length] at j2
    rw [j2]
    simp only [Bool.true_and, if_true, if_false, Bool.false_eq_true, Bool.true_or, Bool.false_or, Bool.and_true]
    generalize nameOk nm = M at *
    generalize pathOk p = Q at *
    cases M <;> cases Q
    all_goals
      repeat' first | refine ln ?_ | refine stp lay_ok rfl ?_ | refine fin ?_ | refine n_thn ?_ | refine n_blk ?_ | refine e_thn ?_ | refine e_hit ?_ | refine e_rr ?_ | refine .seq ?_ | refine reg ?_ | refine .block ?_ | refine .skip ?_ | refine .ret ?_ | refine .exit ?_ | refine cndF rfl ?_ | refine c_dec rfl (fun hc => ?_) (fun hc => ?_) | (refine o_none rfl ?_; (first | refine st_pure (h3) b107 rfl rfl rfl rfl ?_ | refine st_pure (h4) b79 rfl rfl rfl rfl ?_)) | refine gd rfl rfl rfl (fun hg => ?_) (fun hg => ?_) | fail
      all_goals first
        | (exfalso; omega)
        | (exfalso; simp only at *; omega)
        | skip
      all_goals
        refine f_r [] rfl trivial rfl ⟨?_, rfl⟩
        clear h3 h4
        first
          | rfl
          | (simp_all [retOf, B]; done)
          | (simp_all [retOf, B]; omega)
set_option maxHeartbeats 4000000 in
theorem refOp6_ok (nm p : ByteArray) (ks : List ByteArray) (n : Int) (hn : nm.size ≤ 4000000000 - 1) (hp : p.size ≤ 4000000000 - 1) (hk : ks.length ≤ 4000000000) : ACalls prog 82 0 [.st (.agg (rowO ⟨6, nm, p, ks, n⟩))] [] fun r h => r = B (opOk ⟨6, nm, p, ks, n⟩) ∧ h = [] := by
  have e := opOk_of 6 nm p ks n true true true false false rfl rfl rfl rfl rfl
  have h3 := refName_ok nm hn
  have h4 := refPath_ok p hp
  have hm : (List.map rowS ks).length = ks.length := List.length_map _
  by_cases h0 : ks.length ≤ 16 ∧ 0 ≤ n ∧ n ≤ 100
  case neg =>
    have hf : opOk ⟨6, nm, p, ks, n⟩ = false := by
      rw [e, ← Bool.not_eq_true]
      simp only [Bool.and_eq_true, decide_eq_true_eq]
      exact fun h => h0 ⟨h.1.1.1.1.1.1, h.1.1.1.1.2.1, h.1.1.1.1.2.2⟩
    rw [hf]
    clear e
    refine fnC lay_ok func82 rfl rfl rfl rfl rfl ?_
    repeat' first | refine ln ?_ | refine stp lay_ok rfl ?_ | refine fin ?_ | refine n_thn ?_ | refine r_thn ?_ | refine .seq ?_ | refine reg ?_ | refine .block ?_ | refine .skip ?_ | refine .ret ?_ | refine cndT rfl ?_ | refine c_dec rfl (fun hc => ?_) (fun hc => ?_) | refine gd rfl rfl rfl (fun hg => ?_) (fun hg => ?_) | fail
    all_goals first
      | (exfalso; omega)
      | (exfalso; simp only at *; omega)
      | skip
    all_goals
      refine f_r [] rfl trivial rfl ⟨?_, rfl⟩
      rfl
  obtain ⟨g1, g2, g3⟩ := h0
  have e : opOk ⟨6, nm, p, ks, n⟩ = (ks.all keyOk && (if true = true then nameOk nm else decide (nm = ⟨#[]⟩)) && (if true = true then pathOk p else decide (p = ⟨#[]⟩)) && (false || decide (ks.length = 0)) && (false || decide (n = 0))) := by
    rw [e, decide_eq_true g1, decide_eq_true (show 0 ≤ n ∧ n ≤ 100 from ⟨g2, g3⟩)]
    simp
  rw [e]
  clear e
  refine fnC lay_ok func82 rfl rfl rfl rfl rfl ?_
  repeat' first | refine ln ?_ | refine stp lay_ok rfl ?_ | refine fin ?_ | refine n_thn ?_ | refine r_thn ?_ | refine .seq ?_ | refine reg ?_ | refine .block ?_ | refine .skip ?_ | refine .ret ?_ | refine cndT rfl ?_ | refine c_dec rfl (fun hc => ?_) (fun hc => ?_) | refine gd rfl rfl rfl (fun hg => ?_) (fun hg => ?_) | fail
  all_goals first
    | (exfalso; omega)
    | (exfalso; simp only at *; omega)
    | skip
  refine lpR (fun j => j ≤ ks.length ∧ (ks.take j).all keyOk = true) (fun j => ks.length - j) (fun j => [(3, I j)]) (fun j => []) (0) [1] [] [] rfl rfl rfl (.of [] (by (repeat' first | exact trivial | refine And.intro ?_ ?_ | rfl); first | done | fail) (by (repeat' first | exact trivial | refine And.intro ?_ ?_ | rfl); first | done | fail) rfl) ?_ ?_
  · exact ⟨Nat.zero_le _, rfl⟩
  rintro j ⟨j1, j2⟩
  refine nrm rfl rfl ?_
  by_cases hj : j < ks.length
  · have hat := at_rowS hj
    have htk := all_take (p := keyOk) hj
    rw [j2, Bool.true_and] at htk
    have hno := fun h => all_not (p := keyOk) (l := ks) hj h
    generalize ks[j] = y at *
    repeat' first | refine wr (by omega) ?_ | refine ln ?_ | refine stp lay_ok rfl ?_ | refine fin ?_ | refine n_thn ?_ | refine n_blk ?_ | refine e_thn ?_ | refine e_hit ?_ | refine r_thn ?_ | refine r_blk ?_ | refine e_rr ?_ | refine r_rr ?_ | refine .seq ?_ | refine reg ?_ | refine .block ?_ | refine .skip ?_ | refine .ret ?_ | refine .exit ?_ | refine cndT rfl ?_ | refine c_dec rfl (fun hc => ?_) (fun hc => ?_) | ((first | refine o_none rfl ?_ | refine o_yes rfl rfl rfl ?_); refine st_index [SV.str y] lay_ok rfl rfl rfl rfl (by omega) hat ?_) | refine gd rfl rfl rfl (fun hg => ?_) (fun hg => ?_) | fail
    all_goals first
      | (exfalso; omega)
      | (exfalso; simp only at *; omega)
      | skip
    all_goals first
      | (refine f_r [] rfl trivial rfl ⟨?_, rfl⟩
         rw [hno (decide_eq_false (by omega))]; rfl)
      | (refine n_rr (j + 1) ?_ (.of [] (by (repeat' first | exact trivial | refine And.intro ?_ ?_ | rfl | exact congrArg (fun z : Int => some (AV.st (.int .i64 z))) (show (j : Int) + 1 = ((j + 1 : Nat) : Int) by omega)); first | done | fail) (by (repeat' first | exact trivial | refine And.intro ?_ ?_ | rfl | exact congrArg (fun z : Int => some (AV.st (.int .i64 z))) (show (j : Int) + 1 = ((j + 1 : Nat) : Int) by omega)); first | done | fail) rfl) ?_
         · omega
         · exact ⟨hj, by rw [htk]; exact decide_eq_true (by omega)⟩)
  · have hje : j = ks.length := by omega
    subst hje
    rw [List.take_length] at j2
    rw [j2]
    simp only [Bool.true_and, if_true, if_false, Bool.false_eq_true, Bool.true_or, Bool.false_or, Bool.and_true]
    generalize nameOk nm = M at *
    generalize pathOk p = Q at *
    cases M <;> cases Q
    all_goals
      repeat' first | refine ln ?_ | refine stp lay_ok rfl ?_ | refine fin ?_ | refine n_thn ?_ | refine e_thn ?_ | refine e_hit ?_ | refine r_thn ?_ | refine r_blk ?_ | refine e_rr ?_ | refine .seq ?_ | refine reg ?_ | refine .block ?_ | refine .skip ?_ | refine .ret ?_ | refine .exit ?_ | refine cndT rfl ?_ | refine cndF rfl ?_ | refine c_dec rfl (fun hc => ?_) (fun hc => ?_) | (refine o_none rfl ?_; (first | refine st_pure (h3) b107 rfl rfl rfl rfl ?_ | refine st_pure (h4) b79 rfl rfl rfl rfl ?_)) | refine gd rfl rfl rfl (fun hg => ?_) (fun hg => ?_) | fail
      all_goals first
        | (exfalso; omega)
        | (exfalso; simp only at *; omega)
        | skip
      all_goals
        refine f_r [] rfl trivial rfl ⟨?_, rfl⟩
        clear h3 h4
        first
          | rfl
          | (simp_all [retOf, B]; done)
          | (simp_all [retOf, B]; omega)
set_option maxHeartbeats 4000000 in
theorem refOp7_ok (nm p : ByteArray) (ks : List ByteArray) (n : Int) (hn : nm.size ≤ 4000000000 - 1) (hp : p.size ≤ 4000000000 - 1) (hk : ks.length ≤ 4000000000) : ACalls prog 82 0 [.st (.agg (rowO ⟨7, nm, p, ks, n⟩))] [] fun r h => r = B (opOk ⟨7, nm, p, ks, n⟩) ∧ h = [] := by
  have e := opOk_of 7 nm p ks n true true false false false rfl rfl rfl rfl rfl
  have h3 := refName_ok nm hn
  have h4 := refPath_ok p hp
  have hm : (List.map rowS ks).length = ks.length := List.length_map _
  by_cases h0 : ks.length ≤ 16 ∧ 0 ≤ n ∧ n ≤ 100
  case neg =>
    have hf : opOk ⟨7, nm, p, ks, n⟩ = false := by
      rw [e, ← Bool.not_eq_true]
      simp only [Bool.and_eq_true, decide_eq_true_eq]
      exact fun h => h0 ⟨h.1.1.1.1.1.1, h.1.1.1.1.2.1, h.1.1.1.1.2.2⟩
    rw [hf]
    clear e
    refine fnC lay_ok func82 rfl rfl rfl rfl rfl ?_
    repeat' first | refine ln ?_ | refine stp lay_ok rfl ?_ | refine fin ?_ | refine n_thn ?_ | refine r_thn ?_ | refine .seq ?_ | refine reg ?_ | refine .block ?_ | refine .skip ?_ | refine .ret ?_ | refine cndT rfl ?_ | refine c_dec rfl (fun hc => ?_) (fun hc => ?_) | refine gd rfl rfl rfl (fun hg => ?_) (fun hg => ?_) | fail
    all_goals first
      | (exfalso; omega)
      | (exfalso; simp only at *; omega)
      | skip
    all_goals
      refine f_r [] rfl trivial rfl ⟨?_, rfl⟩
      rfl
  obtain ⟨g1, g2, g3⟩ := h0
  have e : opOk ⟨7, nm, p, ks, n⟩ = (ks.all keyOk && (if true = true then nameOk nm else decide (nm = ⟨#[]⟩)) && (if false = true then pathOk p else decide (p = ⟨#[]⟩)) && (false || decide (ks.length = 0)) && (false || decide (n = 0))) := by
    rw [e, decide_eq_true g1, decide_eq_true (show 0 ≤ n ∧ n ≤ 100 from ⟨g2, g3⟩)]
    simp
  rw [e]
  clear e
  refine fnC lay_ok func82 rfl rfl rfl rfl rfl ?_
  repeat' first | refine ln ?_ | refine stp lay_ok rfl ?_ | refine fin ?_ | refine n_thn ?_ | refine r_thn ?_ | refine .seq ?_ | refine reg ?_ | refine .block ?_ | refine .skip ?_ | refine .ret ?_ | refine cndT rfl ?_ | refine c_dec rfl (fun hc => ?_) (fun hc => ?_) | refine gd rfl rfl rfl (fun hg => ?_) (fun hg => ?_) | fail
  all_goals first
    | (exfalso; omega)
    | (exfalso; simp only at *; omega)
    | skip
  refine lpR (fun j => j ≤ ks.length ∧ (ks.take j).all keyOk = true) (fun j => ks.length - j) (fun j => [(3, I j)]) (fun j => []) (0) [1] [] [] rfl rfl rfl (.of [] (by (repeat' first | exact trivial | refine And.intro ?_ ?_ | rfl); first | done | fail) (by (repeat' first | exact trivial | refine And.intro ?_ ?_ | rfl); first | done | fail) rfl) ?_ ?_
  · exact ⟨Nat.zero_le _, rfl⟩
  rintro j ⟨j1, j2⟩
  refine nrm rfl rfl ?_
  by_cases hj : j < ks.length
  · have hat := at_rowS hj
    have htk := all_take (p := keyOk) hj
    rw [j2, Bool.true_and] at htk
    have hno := fun h => all_not (p := keyOk) (l := ks) hj h
    generalize ks[j] = y at *
    repeat' first | refine wr (by omega) ?_ | refine ln ?_ | refine stp lay_ok rfl ?_ | refine fin ?_ | refine n_thn ?_ | refine n_blk ?_ | refine e_thn ?_ | refine e_hit ?_ | refine r_thn ?_ | refine r_blk ?_ | refine e_rr ?_ | refine r_rr ?_ | refine .seq ?_ | refine reg ?_ | refine .block ?_ | refine .skip ?_ | refine .ret ?_ | refine .exit ?_ | refine cndT rfl ?_ | refine c_dec rfl (fun hc => ?_) (fun hc => ?_) | ((first | refine o_none rfl ?_ | refine o_yes rfl rfl rfl ?_); refine st_index [SV.str y] lay_ok rfl rfl rfl rfl (by omega) hat ?_) | refine gd rfl rfl rfl (fun hg => ?_) (fun hg => ?_) | fail
    all_goals first
      | (exfalso; omega)
      | (exfalso; simp only at *; omega)
      | skip
    all_goals first
      | (refine f_r [] rfl trivial rfl ⟨?_, rfl⟩
         rw [hno (decide_eq_false (by omega))]; rfl)
      | (refine n_rr (j + 1) ?_ (.of [] (by (repeat' first | exact trivial | refine And.intro ?_ ?_ | rfl | exact congrArg (fun z : Int => some (AV.st (.int .i64 z))) (show (j : Int) + 1 = ((j + 1 : Nat) : Int) by omega)); first | done | fail) (by (repeat' first | exact trivial | refine And.intro ?_ ?_ | rfl | exact congrArg (fun z : Int => some (AV.st (.int .i64 z))) (show (j : Int) + 1 = ((j + 1 : Nat) : Int) by omega)); first | done | fail) rfl) ?_
         · omega
         · exact ⟨hj, by rw [htk]; exact decide_eq_true (by omega)⟩)
  · have hje : j = ks.length := by omega
    subst hje
    rw [List.take_length] at j2
    rw [j2]
    simp only [Bool.true_and, if_true, if_false, Bool.false_eq_true, Bool.true_or, Bool.false_or, Bool.and_true]
    generalize nameOk nm = M at *
    generalize pathOk p = Q at *
    cases M <;> cases Q
    all_goals
      repeat' first | refine ln ?_ | refine stp lay_ok rfl ?_ | refine fin ?_ | refine n_thn ?_ | refine e_thn ?_ | refine e_hit ?_ | refine r_thn ?_ | refine r_blk ?_ | refine e_rr ?_ | refine .seq ?_ | refine reg ?_ | refine .block ?_ | refine .skip ?_ | refine .ret ?_ | refine .exit ?_ | refine cndT rfl ?_ | refine cndF rfl ?_ | refine c_dec rfl (fun hc => ?_) (fun hc => ?_) | (refine o_none rfl ?_; (first | refine st_pure (h3) b107 rfl rfl rfl rfl ?_ | refine st_pure (h4) b79 rfl rfl rfl rfl ?_)) | refine gd rfl rfl rfl (fun hg => ?_) (fun hg => ?_) | fail
      all_goals first
        | (exfalso; omega)
        | (exfalso; simp only at *; omega)
        | skip
      all_goals
        refine f_r [] rfl trivial rfl ⟨?_, rfl⟩
        clear h3 h4
        first
          | rfl
          | (simp_all [retOf, B]; done)
          | (simp_all [retOf, B]; omega)
set_option maxHeartbeats 4000000 in
theorem refOp8_ok (nm p : ByteArray) (ks : List ByteArray) (n : Int) (hn : nm.size ≤ 4000000000 - 1) (hp : p.size ≤ 4000000000 - 1) (hk : ks.length ≤ 4000000000) : ACalls prog 82 0 [.st (.agg (rowO ⟨8, nm, p, ks, n⟩))] [] fun r h => r = B (opOk ⟨8, nm, p, ks, n⟩) ∧ h = [] := by
  have e := opOk_of 8 nm p ks n true false false false true rfl rfl rfl rfl rfl
  have h3 := refName_ok nm hn
  have h4 := refPath_ok p hp
  have hm : (List.map rowS ks).length = ks.length := List.length_map _
  by_cases h0 : ks.length ≤ 16 ∧ 0 ≤ n ∧ n ≤ 100
  case neg =>
    have hf : opOk ⟨8, nm, p, ks, n⟩ = false := by
      rw [e, ← Bool.not_eq_true]
      simp only [Bool.and_eq_true, decide_eq_true_eq]
      exact fun h => h0 ⟨h.1.1.1.1.1.1, h.1.1.1.1.2.1, h.1.1.1.1.2.2⟩
    rw [hf]
    clear e
    refine fnC lay_ok func82 rfl rfl rfl rfl rfl ?_
    repeat' first | refine ln ?_ | refine stp lay_ok rfl ?_ | refine fin ?_ | refine n_thn ?_ | refine r_thn ?_ | refine .seq ?_ | refine reg ?_ | refine .block ?_ | refine .skip ?_ | refine .ret ?_ | refine cndT rfl ?_ | refine c_dec rfl (fun hc => ?_) (fun hc => ?_) | refine gd rfl rfl rfl (fun hg => ?_) (fun hg => ?_) | fail
    all_goals first
      | (exfalso; omega)
      | (exfalso; simp only at *; omega)
      | skip
    all_goals
      refine f_r [] rfl trivial rfl ⟨?_, rfl⟩
      rfl
  obtain ⟨g1, g2, g3⟩ := h0
  have e : opOk ⟨8, nm, p, ks, n⟩ = (ks.all keyOk && (if false = true then nameOk nm else decide (nm = ⟨#[]⟩)) && (if false = true then pathOk p else decide (p = ⟨#[]⟩)) && (false || decide (ks.length = 0)) && (true || decide (n = 0))) := by
    rw [e, decide_eq_true g1, decide_eq_true (show 0 ≤ n ∧ n ≤ 100 from ⟨g2, g3⟩)]
    simp
  rw [e]
  clear e
  refine fnC lay_ok func82 rfl rfl rfl rfl rfl ?_
  repeat' first | refine ln ?_ | refine stp lay_ok rfl ?_ | refine fin ?_ | refine n_thn ?_ | refine r_thn ?_ | refine .seq ?_ | refine reg ?_ | refine .block ?_ | refine .skip ?_ | refine .ret ?_ | refine cndT rfl ?_ | refine c_dec rfl (fun hc => ?_) (fun hc => ?_) | refine gd rfl rfl rfl (fun hg => ?_) (fun hg => ?_) | fail
  all_goals first
    | (exfalso; omega)
    | (exfalso; simp only at *; omega)
    | skip
  refine lpR (fun j => j ≤ ks.length ∧ (ks.take j).all keyOk = true) (fun j => ks.length - j) (fun j => [(3, I j)]) (fun j => []) (0) [1] [] [] rfl rfl rfl (.of [] (by (repeat' first | exact trivial | refine And.intro ?_ ?_ | rfl); first | done | fail) (by (repeat' first | exact trivial | refine And.intro ?_ ?_ | rfl); first | done | fail) rfl) ?_ ?_
  · exact ⟨Nat.zero_le _, rfl⟩
  rintro j ⟨j1, j2⟩
  refine nrm rfl rfl ?_
  by_cases hj : j < ks.length
  · have hat := at_rowS hj
    have htk := all_take (p := keyOk) hj
    rw [j2, Bool.true_and] at htk
    have hno := fun h => all_not (p := keyOk) (l := ks) hj h
    generalize ks[j] = y at *
    repeat' first | refine wr (by omega) ?_ | refine ln ?_ | refine stp lay_ok rfl ?_ | refine fin ?_ | refine n_thn ?_ | refine n_blk ?_ | refine e_thn ?_ | refine e_hit ?_ | refine r_thn ?_ | refine r_blk ?_ | refine e_rr ?_ | refine r_rr ?_ | refine .seq ?_ | refine reg ?_ | refine .block ?_ | refine .skip ?_ | refine .ret ?_ | refine .exit ?_ | refine cndT rfl ?_ | refine c_dec rfl (fun hc => ?_) (fun hc => ?_) | ((first | refine o_none rfl ?_ | refine o_yes rfl rfl rfl ?_); refine st_index [SV.str y] lay_ok rfl rfl rfl rfl (by omega) hat ?_) | refine gd rfl rfl rfl (fun hg => ?_) (fun hg => ?_) | fail
    all_goals first
      | (exfalso; omega)
      | (exfalso; simp only at *; omega)
      | skip
    all_goals first
      | (refine f_r [] rfl trivial rfl ⟨?_, rfl⟩
         rw [hno (decide_eq_false (by omega))]; rfl)
      | (refine n_rr (j + 1) ?_ (.of [] (by (repeat' first | exact trivial | refine And.intro ?_ ?_ | rfl | exact congrArg (fun z : Int => some (AV.st (.int .i64 z))) (show (j : Int) + 1 = ((j + 1 : Nat) : Int) by omega)); first | done | fail) (by (repeat' first | exact trivial | refine And.intro ?_ ?_ | rfl | exact congrArg (fun z : Int => some (AV.st (.int .i64 z))) (show (j : Int) + 1 = ((j + 1 : Nat) : Int) by omega)); first | done | fail) rfl) ?_
         · omega
         · exact ⟨hj, by rw [htk]; exact decide_eq_true (by omega)⟩)
  · have hje : j = ks.length := by omega
    subst hje
    rw [List.take_length] at j2
    rw [j2]
    simp only [Bool.true_and, if_true, if_false, Bool.false_eq_true, Bool.true_or, Bool.false_or, Bool.and_true]
    generalize nameOk nm = M at *
    generalize pathOk p = Q at *
    cases M <;> cases Q
    all_goals
      repeat' first | refine ln ?_ | refine stp lay_ok rfl ?_ | refine fin ?_ | refine n_thn ?_ | refine e_thn ?_ | refine e_hit ?_ | refine r_thn ?_ | refine r_blk ?_ | refine e_rr ?_ | refine .seq ?_ | refine reg ?_ | refine .block ?_ | refine .skip ?_ | refine .ret ?_ | refine .exit ?_ | refine cndT rfl ?_ | refine cndF rfl ?_ | refine c_dec rfl (fun hc => ?_) (fun hc => ?_) | (refine o_none rfl ?_; (first | refine st_pure (h3) b107 rfl rfl rfl rfl ?_ | refine st_pure (h4) b79 rfl rfl rfl rfl ?_)) | refine gd rfl rfl rfl (fun hg => ?_) (fun hg => ?_) | fail
      all_goals first
        | (exfalso; omega)
        | (exfalso; simp only at *; omega)
        | skip
      all_goals
        refine f_r [] rfl trivial rfl ⟨?_, rfl⟩
        clear h3 h4
        first
          | rfl
          | (simp_all [retOf, B]; done)
          | (simp_all [retOf, B]; omega)
set_option maxHeartbeats 4000000 in
theorem refOp9_ok (nm p : ByteArray) (ks : List ByteArray) (n : Int) (hn : nm.size ≤ 4000000000 - 1) (hp : p.size ≤ 4000000000 - 1) (hk : ks.length ≤ 4000000000) : ACalls prog 82 0 [.st (.agg (rowO ⟨9, nm, p, ks, n⟩))] [] fun r h => r = B (opOk ⟨9, nm, p, ks, n⟩) ∧ h = [] := by
  have e := opOk_of 9 nm p ks n true false false false false rfl rfl rfl rfl rfl
  have h3 := refName_ok nm hn
  have h4 := refPath_ok p hp
  have hm : (List.map rowS ks).length = ks.length := List.length_map _
  by_cases h0 : ks.length ≤ 16 ∧ 0 ≤ n ∧ n ≤ 100
  case neg =>
    have hf : opOk ⟨9, nm, p, ks, n⟩ = false := by
      rw [e, ← Bool.not_eq_true]
      simp only [Bool.and_eq_true, decide_eq_true_eq]
      exact fun h => h0 ⟨h.1.1.1.1.1.1, h.1.1.1.1.2.1, h.1.1.1.1.2.2⟩
    rw [hf]
    clear e
    refine fnC lay_ok func82 rfl rfl rfl rfl rfl ?_
    repeat' first | refine ln ?_ | refine stp lay_ok rfl ?_ | refine fin ?_ | refine n_thn ?_ | refine r_thn ?_ | refine .seq ?_ | refine reg ?_ | refine .block ?_ | refine .skip ?_ | refine .ret ?_ | refine cndT rfl ?_ | refine c_dec rfl (fun hc => ?_) (fun hc => ?_) | refine gd rfl rfl rfl (fun hg => ?_) (fun hg => ?_) | fail
    all_goals first
      | (exfalso; omega)
      | (exfalso; simp only at *; omega)
      | skip
    all_goals
      refine f_r [] rfl trivial rfl ⟨?_, rfl⟩
      rfl
  obtain ⟨g1, g2, g3⟩ := h0
  have e : opOk ⟨9, nm, p, ks, n⟩ = (ks.all keyOk && (if false = true then nameOk nm else decide (nm = ⟨#[]⟩)) && (if false = true then pathOk p else decide (p = ⟨#[]⟩)) && (false || decide (ks.length = 0)) && (false || decide (n = 0))) := by
    rw [e, decide_eq_true g1, decide_eq_true (show 0 ≤ n ∧ n ≤ 100 from ⟨g2, g3⟩)]
    simp
  rw [e]
  clear e
  refine fnC lay_ok func82 rfl rfl rfl rfl rfl ?_
  repeat' first | refine ln ?_ | refine stp lay_ok rfl ?_ | refine fin ?_ | refine n_thn ?_ | refine r_thn ?_ | refine .seq ?_ | refine reg ?_ | refine .block ?_ | refine .skip ?_ | refine .ret ?_ | refine cndT rfl ?_ | refine c_dec rfl (fun hc => ?_) (fun hc => ?_) | refine gd rfl rfl rfl (fun hg => ?_) (fun hg => ?_) | fail
  all_goals first
    | (exfalso; omega)
    | (exfalso; simp only at *; omega)
    | skip
  refine lpR (fun j => j ≤ ks.length ∧ (ks.take j).all keyOk = true) (fun j => ks.length - j) (fun j => [(3, I j)]) (fun j => []) (0) [1] [] [] rfl rfl rfl (.of [] (by (repeat' first | exact trivial | refine And.intro ?_ ?_ | rfl); first | done | fail) (by (repeat' first | exact trivial | refine And.intro ?_ ?_ | rfl); first | done | fail) rfl) ?_ ?_
  · exact ⟨Nat.zero_le _, rfl⟩
  rintro j ⟨j1, j2⟩
  refine nrm rfl rfl ?_
  by_cases hj : j < ks.length
  · have hat := at_rowS hj
    have htk := all_take (p := keyOk) hj
    rw [j2, Bool.true_and] at htk
    have hno := fun h => all_not (p := keyOk) (l := ks) hj h
    generalize ks[j] = y at *
    repeat' first | refine wr (by omega) ?_ | refine ln ?_ | refine stp lay_ok rfl ?_ | refine fin ?_ | refine n_thn ?_ | refine n_blk ?_ | refine e_thn ?_ | refine e_hit ?_ | refine r_thn ?_ | refine r_blk ?_ | refine e_rr ?_ | refine r_rr ?_ | refine .seq ?_ | refine reg ?_ | refine .block ?_ | refine .skip ?_ | refine .ret ?_ | refine .exit ?_ | refine cndT rfl ?_ | refine c_dec rfl (fun hc => ?_) (fun hc => ?_) | ((first | refine o_none rfl ?_ | refine o_yes rfl rfl rfl ?_); refine st_index [SV.str y] lay_ok rfl rfl rfl rfl (by omega) hat ?_) | refine gd rfl rfl rfl (fun hg => ?_) (fun hg => ?_) | fail
    all_goals first
      | (exfalso; omega)
      | (exfalso; simp only at *; omega)
      | skip
    all_goals first
      | (refine f_r [] rfl trivial rfl ⟨?_, rfl⟩
         rw [hno (decide_eq_false (by omega))]; rfl)
      | (refine n_rr (j + 1) ?_ (.of [] (by (repeat' first | exact trivial | refine And.intro ?_ ?_ | rfl | exact congrArg (fun z : Int => some (AV.st (.int .i64 z))) (show (j : Int) + 1 = ((j + 1 : Nat) : Int) by omega)); first | done | fail) (by (repeat' first | exact trivial | refine And.intro ?_ ?_ | rfl | exact congrArg (fun z : Int => some (AV.st (.int .i64 z))) (show (j : Int) + 1 = ((j + 1 : Nat) : Int) by omega)); first | done | fail) rfl) ?_
         · omega
         · exact ⟨hj, by rw [htk]; exact decide_eq_true (by omega)⟩)
  · have hje : j = ks.length := by omega
    subst hje
    rw [List.take_length] at j2
    rw [j2]
    simp only [Bool.true_and, if_true, if_false, Bool.false_eq_true, Bool.true_or, Bool.false_or, Bool.and_true]
    generalize nameOk nm = M at *
    generalize pathOk p = Q at *
    cases M <;> cases Q
    all_goals
      repeat' first | refine ln ?_ | refine stp lay_ok rfl ?_ | refine fin ?_ | refine n_thn ?_ | refine n_blk ?_ | refine e_thn ?_ | refine e_hit ?_ | refine e_rr ?_ | refine .seq ?_ | refine reg ?_ | refine .block ?_ | refine .skip ?_ | refine .ret ?_ | refine .exit ?_ | refine cndF rfl ?_ | refine c_dec rfl (fun hc => ?_) (fun hc => ?_) | (refine o_none rfl ?_; (first | refine st_pure (h3) b107 rfl rfl rfl rfl ?_ | refine st_pure (h4) b79 rfl rfl rfl rfl ?_)) | refine gd rfl rfl rfl (fun hg => ?_) (fun hg => ?_) | fail
      all_goals first
        | (exfalso; omega)
        | (exfalso; simp only at *; omega)
        | skip
      all_goals
        refine f_r [] rfl trivial rfl ⟨?_, rfl⟩
        clear h3 h4
        first
          | rfl
          | (simp_all [retOf, B]; done)
          | (simp_all [retOf, B]; omega)
end Go.Proofs.YtligkfhplinjlaaGreatDoorFn
namespace Go.Proofs.YtligkfhplinjlaaGreatDoorFn
open Go.Proofs.YtligkfhplinjlaaGreatDoorAl Go.Proofs.Tryz
attribute [local irreducible] IntKind.wrap CodeOk OpsL OpG ACalls thn inBlk rndR cutR WkR Wk fnR DW ExtOk partsOf
/-! ### the document's word on which requests may be -/
set_option maxHeartbeats 4000000 in
theorem refOpNo_ok (o : OV) (hk : ¬ (1 ≤ o.kind ∧ o.kind ≤ 9)) : ACalls prog 82 0 [.st (.agg (rowO o))] [] fun r h => r = B (opOk o) ∧ h = [] := by
  have e : opOk o = false := by
    unfold opOk
    rw [decide_eq_false hk]; simp
  rw [e]
  clear e
  obtain ⟨k, nm, p, ks, n⟩ := o
  simp only [rowO] at hk ⊢
  have hm : (List.map rowS ks).length = ks.length := List.length_map _
  refine fnC lay_ok func82 rfl rfl rfl rfl rfl ?_
  repeat' first | refine ln ?_ | refine stp lay_ok rfl ?_ | refine fin ?_ | refine n_thn ?_ | refine r_thn ?_ | refine .seq ?_ | refine reg ?_ | refine .block ?_ | refine .skip ?_ | refine .ret ?_ | refine cndT rfl ?_ | refine c_dec rfl (fun hc => ?_) (fun hc => ?_) | refine gd rfl rfl rfl (fun hg => ?_) (fun hg => ?_) | fail
  all_goals first
    | (exfalso; omega)
    | (refine f_r [] rfl trivial rfl ⟨?_, rfl⟩; rfl)
theorem refOp_ok (o : OV) (ho : o.fit) : ACalls prog 82 0 [.st (.agg (rowO o))] [] fun r h => r = B (opOk o) ∧ h = [] := by
  by_cases hk : 1 ≤ o.kind ∧ o.kind ≤ 9
  · obtain ⟨k, nm, p, ks, n⟩ := o
    obtain ⟨f1, f2, f3⟩ := ho
    simp only at hk f1 f2 f3
    have : k = 1 ∨ k = 2 ∨ k = 3 ∨ k = 4 ∨ k = 5 ∨ k = 6 ∨ k = 7 ∨ k = 8 ∨ k = 9 := by omega
    rcases this with rfl | rfl | rfl | rfl | rfl | rfl | rfl | rfl | rfl
    · exact refOp1_ok nm p ks n f1 f2 f3
    · exact refOp2_ok nm p ks n f1 f2 f3
    · exact refOp3_ok nm p ks n f1 f2 f3
    · exact refOp4_ok nm p ks n f1 f2 f3
    · exact refOp5_ok nm p ks n f1 f2 f3
    · exact refOp6_ok nm p ks n f1 f2 f3
    · exact refOp7_ok nm p ks n f1 f2 f3
    · exact refOp8_ok nm p ks n f1 f2 f3
    · exact refOp9_ok nm p ks n f1 f2 f3
  · exact refOpNo_ok o hk
set_option maxHeartbeats 4000000 in
theorem refReq_ok (c : Int) (o : OV) (ho : o.fit) : ACalls prog 44 0 [.st (.agg (rowQ c 1 o))] [] fun r h => r = B (reqOk c o) ∧ h = [] := by
  have h1 := refOp_ok o ho
  have e : reqOk c o = (decide (0 ≤ c ∧ c < 8) && opOk o) := rfl
  rw [e]
  clear e
  generalize opOk o = K at *
  obtain ⟨k, nm, p, ks, n⟩ := o
  simp only [rowQ, rowO] at h1 ⊢
  refine fnC lay_ok func44 rfl rfl rfl rfl rfl ?_
  cases K
  all_goals
    repeat' first | refine stp lay_ok rfl ?_ | refine fin ?_ | refine n_thn ?_ | refine .seq ?_ | refine reg ?_ | refine .ret ?_ | (refine o_none rfl ?_; refine st_pure (h1) b82 rfl rfl rfl rfl ?_) | refine gd rfl rfl rfl (fun hg => ?_) (fun hg => ?_) | fail
    all_goals
      refine f_r [] rfl trivial rfl ⟨?_, rfl⟩
      first
        | (rw [decide_eq_true (show 0 ≤ c ∧ c < 8 by omega)]; rfl)
        | (rw [decide_eq_false (show ¬ (0 ≤ c ∧ c < 8) by omega)]; rfl)
        | (simp [retOf, B]; done)
        | (simp [retOf, B]; omega)
end Go.Proofs.YtligkfhplinjlaaGreatDoorFn
namespace Go.Proofs.YtligkfhplinjlaaGreatDoorFn
open Go.Proofs.YtligkfhplinjlaaGreatDoorAl Go.Proofs.Tryz
attribute [local irreducible] IntKind.wrap CodeOk OpsL OpG ACalls thn inBlk rndR cutR WkR Wk fnR DW ExtOk partsOf
theorem b23 : HasBody prog 23 := ⟨f23, func23, Option.some_ne_none _, by decide⟩
/-! ### the document's operation, by its kind -/
set_option maxHeartbeats 2000000 in
theorem refDo_no (l : List NV) (c : Int) (o : OV) (hr : reqOk c o = false) (ho : o.fit) : ACalls prog 23 2 [.ptr 0 0, I c, .st (.agg (rowO o))] (catH l) fun r h => r = ansC 1 ∧ h = catO l := by
  have hq := refReq_ok c o ho
  rw [hr] at hq
  have hrf := refNo_ok 1
  obtain ⟨k, nm, p, ks, n⟩ := o
  refine ACalls.drop1 (h1 := catO l ++ [(3, ansX 1)]) ⟨rfl, rfl, trivial⟩ ?_
  refine fnC lay_ok func23 rfl rfl rfl rfl rfl ?_
  repeat' first | refine stp lay_ok rfl ?_ | refine fin ?_ | refine n_thn ?_ | refine r_thn ?_ | refine .seq ?_ | refine reg ?_ | refine .ret ?_ | refine cndT rfl ?_ | (refine o_none rfl ?_; (first | refine st_pure (hq) b44 rfl rfl rfl rfl ?_ | refine st_pure (hrf) b45 rfl rfl rfl rfl ?_)) | fail
  refine f_end (n0 := 4) (t'' := [(6, .ptr 3 0)]) (h'' := [(0, .cells [.lsl 2 4 0 (l.map rowN).length]), (2, .arr 4 (l.map rowN)), (3, ansX 1)]) (WkR.of [1, 3] (by (repeat' first | exact trivial | refine And.intro ?_ ?_ | rfl); first | done | fail) (by (repeat' first | exact trivial | refine And.intro ?_ ?_ | rfl); first | done | fail) rfl) rfl rfl ⟨?_, rfl⟩
  rfl
set_option maxHeartbeats 2000000 in
theorem refDo_8 (l L : List NV) (c : Int) (o : OV) (g : Nat) (hk : o.kind = 8) (hr : reqOk c o = true) (ho : o.fit) (hB : ACalls prog 48 2 [.ptr 0 0, I c, I o.n] (catH l) fun r h => r = ansG g ∧ h = catO L) :
    ACalls prog 23 2 [.ptr 0 0, I c, .st (.agg (rowO o))] (catH l) fun r h => r = ansG g ∧ h = catO L := by
  have hq := refReq_ok c o ho
  rw [hr] at hq
  obtain ⟨k, nm, p, ks, n⟩ := o
  simp only at hk hB
  subst hk
  refine ACalls.drop1 (h1 := catO L ++ [(3, .cells [.st (.int .i64 0), .st (.int .i64 g), .st .nilsl, .st .nilsl, .st .nilsl])]) ⟨rfl, rfl, trivial⟩ ?_
  refine fnC lay_ok func23 rfl rfl rfl rfl rfl ?_
  repeat' first | refine stp lay_ok rfl ?_ | refine fin ?_ | refine n_thn ?_ | refine r_thn ?_ | refine r_blk ?_ | refine .seq ?_ | refine reg ?_ | refine .block ?_ | refine .skip ?_ | refine .ret ?_ | refine cndT rfl ?_ | refine cndF rfl ?_ | (refine o_none rfl ?_; (first | refine st_pure (hq) b44 rfl rfl rfl rfl ?_ | refine st_callG [0,1] 1 (hB) b48 rfl rfl rfl rfl rfl (by (repeat' first | exact trivial | refine And.intro ?_ ?_ | rfl); first | done | fail) rfl ?_)) | fail
  refine f_end (n0 := 4) (t'' := [(6, .ptr 3 0)]) (h'' := [(0, .cells [.lsl 2 4 0 (L.map rowN).length]), (2, .arr 4 (L.map rowN)), (3, .cells [.st (.int .i64 0), .st (.int .i64 g), .st .nilsl, .st .nilsl, .st .nilsl])]) (WkR.of [4, 3] (by (repeat' first | exact trivial | refine And.intro ?_ ?_ | rfl); first | done | fail) (by (repeat' first | exact trivial | refine And.intro ?_ ?_ | rfl); first | done | fail) rfl) rfl rfl ⟨?_, rfl⟩
  rfl
set_option maxHeartbeats 2000000 in
theorem refDo_9 (l : List NV) (c : Int) (o : OV) (H : List ByteArray) (hk : o.kind = 9) (hr : reqOk c o = true) (ho : o.fit) (hB : ACalls prog 49 2 [.ptr 0 0] (catH l) fun r h => r = .st (.sl 1 (H.map rowS)) ∧ h = catH l) :
    ACalls prog 23 2 [.ptr 0 0, I c, .st (.agg (rowO o))] (catH l) fun r h => r = ansH H ∧ h = catO l := by
  have hq := refReq_ok c o ho
  rw [hr] at hq
  obtain ⟨k, nm, p, ks, n⟩ := o
  simp only at hk hB
  subst hk
  refine ACalls.drop1 (h1 := catO l ++ [(3, .cells [.st (.int .i64 0), .st (.int .i64 0), .st .nilsl, .st (.sl 1 (H.map rowS)), .st .nilsl])]) ⟨rfl, rfl, trivial⟩ ?_
  refine fnC lay_ok func23 rfl rfl rfl rfl rfl ?_
  repeat' first | refine stp lay_ok rfl ?_ | refine fin ?_ | refine n_thn ?_ | refine r_thn ?_ | refine r_blk ?_ | refine .seq ?_ | refine reg ?_ | refine .block ?_ | refine .skip ?_ | refine .ret ?_ | refine cndT rfl ?_ | refine cndF rfl ?_ | (refine o_none rfl ?_; (first | refine st_pure (hq) b44 rfl rfl rfl rfl ?_ | refine st_callK [0,1] (hB) b49 rfl rfl rfl rfl rfl (by (repeat' first | exact trivial | refine And.intro ?_ ?_ | rfl); first | done | fail) ?_)) | fail
  refine f_end (n0 := 4) (t'' := [(6, .ptr 3 0)]) (h'' := [(0, .cells [.lsl 2 4 0 (l.map rowN).length]), (2, .arr 4 (l.map rowN)), (3, .cells [.st (.int .i64 0), .st (.int .i64 0), .st .nilsl, .st (.sl 1 (H.map rowS)), .st .nilsl])]) (WkR.of [1, 3] (by (repeat' first | exact trivial | refine And.intro ?_ ?_ | rfl); first | done | fail) (by (repeat' first | exact trivial | refine And.intro ?_ ?_ | rfl); first | done | fail) rfl) rfl rfl ⟨?_, rfl⟩
  rfl
set_option maxHeartbeats 2000000 in
theorem refDo_none2 (l : List NV) (c : Int) (o : OV) (hk : o.kind = 2) (hr : reqOk c o = true) (ho : o.fit) (hF : ACalls prog 47 2 [.ptr 0 0, I c, Sx o.name] (catH l) fun r h => r = I (-1) ∧ h = catH l) :
    ACalls prog 23 2 [.ptr 0 0, I c, .st (.agg (rowO o))] (catH l) fun r h => r = ansC 3 ∧ h = catO l := by
  have hq := refReq_ok c o ho
  rw [hr] at hq
  have hrf := refNo_ok 3
  obtain ⟨k, nm, p, ks, n⟩ := o
  simp only at hk hF
  subst hk
  refine ACalls.drop1 (h1 := catO l ++ [(3, ansX 3)]) ⟨rfl, rfl, trivial⟩ ?_
  refine fnC lay_ok func23 rfl rfl rfl rfl rfl ?_
  repeat' first | refine stp lay_ok rfl ?_ | refine fin ?_ | refine n_thn ?_ | refine n_blk ?_ | refine r_thn ?_ | refine .seq ?_ | refine reg ?_ | refine .block ?_ | refine .skip ?_ | refine .ret ?_ | refine cndT rfl ?_ | refine cndF rfl ?_ | (refine o_none rfl ?_; (first | refine st_pure (hq) b44 rfl rfl rfl rfl ?_ | refine st_callK [0,1] (hF) b47 rfl rfl rfl rfl rfl (by (repeat' first | exact trivial | refine And.intro ?_ ?_ | rfl); first | done | fail) ?_ | refine st_pure (hrf) b45 rfl rfl rfl rfl ?_)) | fail
  all_goals first
    | (exfalso; omega)
    | skip
  refine f_end (n0 := 4) (t'' := [(6, .ptr 3 0)]) (h'' := [(0, .cells [.lsl 2 4 0 (l.map rowN).length]), (2, .arr 4 (l.map rowN)), (3, ansX 3)]) (WkR.of [1, 3] (by (repeat' first | exact trivial | refine And.intro ?_ ?_ | rfl); first | done | fail) (by (repeat' first | exact trivial | refine And.intro ?_ ?_ | rfl); first | done | fail) rfl) rfl rfl ⟨?_, rfl⟩
  rfl
set_option maxHeartbeats 2000000 in
theorem refDo_one2 (l L : List NV) (c : Int) (o : OV) (A : NS) (i : Nat) (hk : o.kind = 2) (hr : reqOk c o = true) (ho : o.fit) (hF : ACalls prog 47 2 [.ptr 0 0, I c, Sx o.name] (catH l) fun r h => r = I i ∧ h = catH l)
    (hB : ACalls prog 50 2 [.ptr 0 0, I i, .st (.agg (rowO o))] (catH l) fun r h => r = ansS A ∧ h = catO L) :
    ACalls prog 23 2 [.ptr 0 0, I c, .st (.agg (rowO o))] (catH l) fun r h => r = ansS A ∧ h = catO L := by
  have hq := refReq_ok c o ho
  rw [hr] at hq
  obtain ⟨k, nm, p, ks, n⟩ := o
  simp only at hk hB hF
  subst hk
  refine ACalls.drop1 (h1 := catO L ++ [(3, ansB A)]) ⟨rfl, rfl, trivial⟩ ?_
  refine fnC lay_ok func23 rfl rfl rfl rfl rfl ?_
  repeat' first | refine stp lay_ok rfl ?_ | refine fin ?_ | refine n_thn ?_ | refine n_blk ?_ | refine .seq ?_ | refine reg ?_ | refine .block ?_ | refine .skip ?_ | refine .ret ?_ | refine cndF rfl ?_ | (refine o_none rfl ?_; (first | refine st_pure (hq) b44 rfl rfl rfl rfl ?_ | refine st_callK [0,1] (hF) b47 rfl rfl rfl rfl rfl (by (repeat' first | exact trivial | refine And.intro ?_ ?_ | rfl); first | done | fail) ?_ | refine st_callG [0,1] 1 (hB) b50 rfl rfl rfl rfl rfl (by (repeat' first | exact trivial | refine And.intro ?_ ?_ | rfl); first | done | fail) rfl ?_)) | fail
  all_goals first
    | (exfalso; omega)
    | skip
  refine f_end (n0 := 4) (t'' := [(6, .ptr 3 0)]) (h'' := [(0, .cells [.lsl 2 4 0 (L.map rowN).length]), (2, .arr 4 (L.map rowN)), (3, ansB A)]) (WkR.of [4, 3] (by (repeat' first | exact trivial | refine And.intro ?_ ?_ | rfl); first | done | fail) (by (repeat' first | exact trivial | refine And.intro ?_ ?_ | rfl); first | done | fail) rfl) rfl rfl ⟨?_, rfl⟩
  rfl
set_option maxHeartbeats 2000000 in
theorem refDo_none3 (l : List NV) (c : Int) (o : OV) (hk : o.kind = 3) (hr : reqOk c o = true) (ho : o.fit) (hF : ACalls prog 47 2 [.ptr 0 0, I c, Sx o.name] (catH l) fun r h => r = I (-1) ∧ h = catH l) :
    ACalls prog 23 2 [.ptr 0 0, I c, .st (.agg (rowO o))] (catH l) fun r h => r = ansC 3 ∧ h = catO l := by
  have hq := refReq_ok c o ho
  rw [hr] at hq
  have hrf := refNo_ok 3
  obtain ⟨k, nm, p, ks, n⟩ := o
  simp only at hk hF
  subst hk
  refine ACalls.drop1 (h1 := catO l ++ [(3, ansX 3)]) ⟨rfl, rfl, trivial⟩ ?_
  refine fnC lay_ok func23 rfl rfl rfl rfl rfl ?_
  repeat' first | refine stp lay_ok rfl ?_ | refine fin ?_ | refine n_thn ?_ | refine n_blk ?_ | refine r_thn ?_ | refine .seq ?_ | refine reg ?_ | refine .block ?_ | refine .skip ?_ | refine .ret ?_ | refine cndT rfl ?_ | refine cndF rfl ?_ | (refine o_none rfl ?_; (first | refine st_pure (hq) b44 rfl rfl rfl rfl ?_ | refine st_callK [0,1] (hF) b47 rfl rfl rfl rfl rfl (by (repeat' first | exact trivial | refine And.intro ?_ ?_ | rfl); first | done | fail) ?_ | refine st_pure (hrf) b45 rfl rfl rfl rfl ?_)) | fail
  all_goals first
    | (exfalso; omega)
    | skip
  refine f_end (n0 := 4) (t'' := [(6, .ptr 3 0)]) (h'' := [(0, .cells [.lsl 2 4 0 (l.map rowN).length]), (2, .arr 4 (l.map rowN)), (3, ansX 3)]) (WkR.of [1, 3] (by (repeat' first | exact trivial | refine And.intro ?_ ?_ | rfl); first | done | fail) (by (repeat' first | exact trivial | refine And.intro ?_ ?_ | rfl); first | done | fail) rfl) rfl rfl ⟨?_, rfl⟩
  rfl
set_option maxHeartbeats 2000000 in
theorem refDo_one3 (l L : List NV) (c : Int) (o : OV) (A : NS) (i : Nat) (hk : o.kind = 3) (hr : reqOk c o = true) (ho : o.fit) (hF : ACalls prog 47 2 [.ptr 0 0, I c, Sx o.name] (catH l) fun r h => r = I i ∧ h = catH l)
    (hB : ACalls prog 50 2 [.ptr 0 0, I i, .st (.agg (rowO o))] (catH l) fun r h => r = ansS A ∧ h = catO L) :
    ACalls prog 23 2 [.ptr 0 0, I c, .st (.agg (rowO o))] (catH l) fun r h => r = ansS A ∧ h = catO L := by
  have hq := refReq_ok c o ho
  rw [hr] at hq
  obtain ⟨k, nm, p, ks, n⟩ := o
  simp only at hk hB hF
  subst hk
  refine ACalls.drop1 (h1 := catO L ++ [(3, ansB A)]) ⟨rfl, rfl, trivial⟩ ?_
  refine fnC lay_ok func23 rfl rfl rfl rfl rfl ?_
  repeat' first | refine stp lay_ok rfl ?_ | refine fin ?_ | refine n_thn ?_ | refine n_blk ?_ | refine .seq ?_ | refine reg ?_ | refine .block ?_ | refine .skip ?_ | refine .ret ?_ | refine cndF rfl ?_ | (refine o_none rfl ?_; (first | refine st_pure (hq) b44 rfl rfl rfl rfl ?_ | refine st_callK [0,1] (hF) b47 rfl rfl rfl rfl rfl (by (repeat' first | exact trivial | refine And.intro ?_ ?_ | rfl); first | done | fail) ?_ | refine st_callG [0,1] 1 (hB) b50 rfl rfl rfl rfl rfl (by (repeat' first | exact trivial | refine And.intro ?_ ?_ | rfl); first | done | fail) rfl ?_)) | fail
  all_goals first
    | (exfalso; omega)
    | skip
  refine f_end (n0 := 4) (t'' := [(6, .ptr 3 0)]) (h'' := [(0, .cells [.lsl 2 4 0 (L.map rowN).length]), (2, .arr 4 (L.map rowN)), (3, ansB A)]) (WkR.of [4, 3] (by (repeat' first | exact trivial | refine And.intro ?_ ?_ | rfl); first | done | fail) (by (repeat' first | exact trivial | refine And.intro ?_ ?_ | rfl); first | done | fail) rfl) rfl rfl ⟨?_, rfl⟩
  rfl
set_option maxHeartbeats 2000000 in
theorem refDo_none4 (l : List NV) (c : Int) (o : OV) (hk : o.kind = 4) (hr : reqOk c o = true) (ho : o.fit) (hF : ACalls prog 47 2 [.ptr 0 0, I c, Sx o.name] (catH l) fun r h => r = I (-1) ∧ h = catH l) :
    ACalls prog 23 2 [.ptr 0 0, I c, .st (.agg (rowO o))] (catH l) fun r h => r = ansC 3 ∧ h = catO l := by
  have hq := refReq_ok c o ho
  rw [hr] at hq
  have hrf := refNo_ok 3
  obtain ⟨k, nm, p, ks, n⟩ := o
  simp only at hk hF
  subst hk
  refine ACalls.drop1 (h1 := catO l ++ [(3, ansX 3)]) ⟨rfl, rfl, trivial⟩ ?_
  refine fnC lay_ok func23 rfl rfl rfl rfl rfl ?_
  repeat' first | refine stp lay_ok rfl ?_ | refine fin ?_ | refine n_thn ?_ | refine n_blk ?_ | refine r_thn ?_ | refine .seq ?_ | refine reg ?_ | refine .block ?_ | refine .skip ?_ | refine .ret ?_ | refine cndT rfl ?_ | refine cndF rfl ?_ | (refine o_none rfl ?_; (first | refine st_pure (hq) b44 rfl rfl rfl rfl ?_ | refine st_callK [0,1] (hF) b47 rfl rfl rfl rfl rfl (by (repeat' first | exact trivial | refine And.intro ?_ ?_ | rfl); first | done | fail) ?_ | refine st_pure (hrf) b45 rfl rfl rfl rfl ?_)) | fail
  all_goals first
    | (exfalso; omega)
    | skip
  refine f_end (n0 := 4) (t'' := [(6, .ptr 3 0)]) (h'' := [(0, .cells [.lsl 2 4 0 (l.map rowN).length]), (2, .arr 4 (l.map rowN)), (3, ansX 3)]) (WkR.of [1, 3] (by (repeat' first | exact trivial | refine And.intro ?_ ?_ | rfl); first | done | fail) (by (repeat' first | exact trivial | refine And.intro ?_ ?_ | rfl); first | done | fail) rfl) rfl rfl ⟨?_, rfl⟩
  rfl
set_option maxHeartbeats 2000000 in
theorem refDo_one4 (l L : List NV) (c : Int) (o : OV) (A : NS) (i : Nat) (hk : o.kind = 4) (hr : reqOk c o = true) (ho : o.fit) (hF : ACalls prog 47 2 [.ptr 0 0, I c, Sx o.name] (catH l) fun r h => r = I i ∧ h = catH l)
    (hB : ACalls prog 50 2 [.ptr 0 0, I i, .st (.agg (rowO o))] (catH l) fun r h => r = ansS A ∧ h = catO L) :
    ACalls prog 23 2 [.ptr 0 0, I c, .st (.agg (rowO o))] (catH l) fun r h => r = ansS A ∧ h = catO L := by
  have hq := refReq_ok c o ho
  rw [hr] at hq
  obtain ⟨k, nm, p, ks, n⟩ := o
  simp only at hk hB hF
  subst hk
  refine ACalls.drop1 (h1 := catO L ++ [(3, ansB A)]) ⟨rfl, rfl, trivial⟩ ?_
  refine fnC lay_ok func23 rfl rfl rfl rfl rfl ?_
  repeat' first | refine stp lay_ok rfl ?_ | refine fin ?_ | refine n_thn ?_ | refine n_blk ?_ | refine .seq ?_ | refine reg ?_ | refine .block ?_ | refine .skip ?_ | refine .ret ?_ | refine cndF rfl ?_ | (refine o_none rfl ?_; (first | refine st_pure (hq) b44 rfl rfl rfl rfl ?_ | refine st_callK [0,1] (hF) b47 rfl rfl rfl rfl rfl (by (repeat' first | exact trivial | refine And.intro ?_ ?_ | rfl); first | done | fail) ?_ | refine st_callG [0,1] 1 (hB) b50 rfl rfl rfl rfl rfl (by (repeat' first | exact trivial | refine And.intro ?_ ?_ | rfl); first | done | fail) rfl ?_)) | fail
  all_goals first
    | (exfalso; omega)
    | skip
  refine f_end (n0 := 4) (t'' := [(6, .ptr 3 0)]) (h'' := [(0, .cells [.lsl 2 4 0 (L.map rowN).length]), (2, .arr 4 (L.map rowN)), (3, ansB A)]) (WkR.of [4, 3] (by (repeat' first | exact trivial | refine And.intro ?_ ?_ | rfl); first | done | fail) (by (repeat' first | exact trivial | refine And.intro ?_ ?_ | rfl); first | done | fail) rfl) rfl rfl ⟨?_, rfl⟩
  rfl
set_option maxHeartbeats 2000000 in
theorem refDo_none6 (l : List NV) (c : Int) (o : OV) (hk : o.kind = 6) (hr : reqOk c o = true) (ho : o.fit) (hF : ACalls prog 47 2 [.ptr 0 0, I c, Sx o.name] (catH l) fun r h => r = I (-1) ∧ h = catH l) :
    ACalls prog 23 2 [.ptr 0 0, I c, .st (.agg (rowO o))] (catH l) fun r h => r = ansC 3 ∧ h = catO l := by
  have hq := refReq_ok c o ho
  rw [hr] at hq
  have hrf := refNo_ok 3
  obtain ⟨k, nm, p, ks, n⟩ := o
  simp only at hk hF
  subst hk
  refine ACalls.drop1 (h1 := catO l ++ [(3, ansX 3)]) ⟨rfl, rfl, trivial⟩ ?_
  refine fnC lay_ok func23 rfl rfl rfl rfl rfl ?_
  repeat' first | refine stp lay_ok rfl ?_ | refine fin ?_ | refine n_thn ?_ | refine n_blk ?_ | refine r_thn ?_ | refine .seq ?_ | refine reg ?_ | refine .block ?_ | refine .skip ?_ | refine .ret ?_ | refine cndT rfl ?_ | refine cndF rfl ?_ | (refine o_none rfl ?_; (first | refine st_pure (hq) b44 rfl rfl rfl rfl ?_ | refine st_callK [0,1] (hF) b47 rfl rfl rfl rfl rfl (by (repeat' first | exact trivial | refine And.intro ?_ ?_ | rfl); first | done | fail) ?_ | refine st_pure (hrf) b45 rfl rfl rfl rfl ?_)) | fail
  all_goals first
    | (exfalso; omega)
    | skip
  refine f_end (n0 := 4) (t'' := [(6, .ptr 3 0)]) (h'' := [(0, .cells [.lsl 2 4 0 (l.map rowN).length]), (2, .arr 4 (l.map rowN)), (3, ansX 3)]) (WkR.of [1, 3] (by (repeat' first | exact trivial | refine And.intro ?_ ?_ | rfl); first | done | fail) (by (repeat' first | exact trivial | refine And.intro ?_ ?_ | rfl); first | done | fail) rfl) rfl rfl ⟨?_, rfl⟩
  rfl
set_option maxHeartbeats 2000000 in
theorem refDo_one6 (l L : List NV) (c : Int) (o : OV) (A : NS) (i : Nat) (hk : o.kind = 6) (hr : reqOk c o = true) (ho : o.fit) (hF : ACalls prog 47 2 [.ptr 0 0, I c, Sx o.name] (catH l) fun r h => r = I i ∧ h = catH l)
    (hB : ACalls prog 50 2 [.ptr 0 0, I i, .st (.agg (rowO o))] (catH l) fun r h => r = ansS A ∧ h = catO L) :
    ACalls prog 23 2 [.ptr 0 0, I c, .st (.agg (rowO o))] (catH l) fun r h => r = ansS A ∧ h = catO L := by
  have hq := refReq_ok c o ho
  rw [hr] at hq
  obtain ⟨k, nm, p, ks, n⟩ := o
  simp only at hk hB hF
  subst hk
  refine ACalls.drop1 (h1 := catO L ++ [(3, ansB A)]) ⟨rfl, rfl, trivial⟩ ?_
  refine fnC lay_ok func23 rfl rfl rfl rfl rfl ?_
  repeat' first | refine stp lay_ok rfl ?_ | refine fin ?_ | refine n_thn ?_ | refine n_blk ?_ | refine .seq ?_ | refine reg ?_ | refine .block ?_ | refine .skip ?_ | refine .ret ?_ | refine cndF rfl ?_ | (refine o_none rfl ?_; (first | refine st_pure (hq) b44 rfl rfl rfl rfl ?_ | refine st_callK [0,1] (hF) b47 rfl rfl rfl rfl rfl (by (repeat' first | exact trivial | refine And.intro ?_ ?_ | rfl); first | done | fail) ?_ | refine st_callG [0,1] 1 (hB) b50 rfl rfl rfl rfl rfl (by (repeat' first | exact trivial | refine And.intro ?_ ?_ | rfl); first | done | fail) rfl ?_)) | fail
  all_goals first
    | (exfalso; omega)
    | skip
  refine f_end (n0 := 4) (t'' := [(6, .ptr 3 0)]) (h'' := [(0, .cells [.lsl 2 4 0 (L.map rowN).length]), (2, .arr 4 (L.map rowN)), (3, ansB A)]) (WkR.of [4, 3] (by (repeat' first | exact trivial | refine And.intro ?_ ?_ | rfl); first | done | fail) (by (repeat' first | exact trivial | refine And.intro ?_ ?_ | rfl); first | done | fail) rfl) rfl rfl ⟨?_, rfl⟩
  rfl
set_option maxHeartbeats 2000000 in
theorem refDo_none7 (l : List NV) (c : Int) (o : OV) (hk : o.kind = 7) (hr : reqOk c o = true) (ho : o.fit) (hF : ACalls prog 47 2 [.ptr 0 0, I c, Sx o.name] (catH l) fun r h => r = I (-1) ∧ h = catH l) :
    ACalls prog 23 2 [.ptr 0 0, I c, .st (.agg (rowO o))] (catH l) fun r h => r = ansC 3 ∧ h = catO l := by
  have hq := refReq_ok c o ho
  rw [hr] at hq
  have hrf := refNo_ok 3
  obtain ⟨k, nm, p, ks, n⟩ := o
  simp only at hk hF
  subst hk
  refine ACalls.drop1 (h1 := catO l ++ [(3, ansX 3)]) ⟨rfl, rfl, trivial⟩ ?_
  refine fnC lay_ok func23 rfl rfl rfl rfl rfl ?_
  repeat' first | refine stp lay_ok rfl ?_ | refine fin ?_ | refine n_thn ?_ | refine n_blk ?_ | refine r_thn ?_ | refine .seq ?_ | refine reg ?_ | refine .block ?_ | refine .skip ?_ | refine .ret ?_ | refine cndT rfl ?_ | refine cndF rfl ?_ | (refine o_none rfl ?_; (first | refine st_pure (hq) b44 rfl rfl rfl rfl ?_ | refine st_callK [0,1] (hF) b47 rfl rfl rfl rfl rfl (by (repeat' first | exact trivial | refine And.intro ?_ ?_ | rfl); first | done | fail) ?_ | refine st_pure (hrf) b45 rfl rfl rfl rfl ?_)) | fail
  all_goals first
    | (exfalso; omega)
    | skip
  refine f_end (n0 := 4) (t'' := [(6, .ptr 3 0)]) (h'' := [(0, .cells [.lsl 2 4 0 (l.map rowN).length]), (2, .arr 4 (l.map rowN)), (3, ansX 3)]) (WkR.of [1, 3] (by (repeat' first | exact trivial | refine And.intro ?_ ?_ | rfl); first | done | fail) (by (repeat' first | exact trivial | refine And.intro ?_ ?_ | rfl); first | done | fail) rfl) rfl rfl ⟨?_, rfl⟩
  rfl
set_option maxHeartbeats 2000000 in
theorem refDo_one7 (l L : List NV) (c : Int) (o : OV) (A : NS) (i : Nat) (hk : o.kind = 7) (hr : reqOk c o = true) (ho : o.fit) (hF : ACalls prog 47 2 [.ptr 0 0, I c, Sx o.name] (catH l) fun r h => r = I i ∧ h = catH l)
    (hB : ACalls prog 50 2 [.ptr 0 0, I i, .st (.agg (rowO o))] (catH l) fun r h => r = ansS A ∧ h = catO L) :
    ACalls prog 23 2 [.ptr 0 0, I c, .st (.agg (rowO o))] (catH l) fun r h => r = ansS A ∧ h = catO L := by
  have hq := refReq_ok c o ho
  rw [hr] at hq
  obtain ⟨k, nm, p, ks, n⟩ := o
  simp only at hk hB hF
  subst hk
  refine ACalls.drop1 (h1 := catO L ++ [(3, ansB A)]) ⟨rfl, rfl, trivial⟩ ?_
  refine fnC lay_ok func23 rfl rfl rfl rfl rfl ?_
  repeat' first | refine stp lay_ok rfl ?_ | refine fin ?_ | refine n_thn ?_ | refine n_blk ?_ | refine .seq ?_ | refine reg ?_ | refine .block ?_ | refine .skip ?_ | refine .ret ?_ | refine cndF rfl ?_ | (refine o_none rfl ?_; (first | refine st_pure (hq) b44 rfl rfl rfl rfl ?_ | refine st_callK [0,1] (hF) b47 rfl rfl rfl rfl rfl (by (repeat' first | exact trivial | refine And.intro ?_ ?_ | rfl); first | done | fail) ?_ | refine st_callG [0,1] 1 (hB) b50 rfl rfl rfl rfl rfl (by (repeat' first | exact trivial | refine And.intro ?_ ?_ | rfl); first | done | fail) rfl ?_)) | fail
  all_goals first
    | (exfalso; omega)
    | skip
  refine f_end (n0 := 4) (t'' := [(6, .ptr 3 0)]) (h'' := [(0, .cells [.lsl 2 4 0 (L.map rowN).length]), (2, .arr 4 (L.map rowN)), (3, ansB A)]) (WkR.of [4, 3] (by (repeat' first | exact trivial | refine And.intro ?_ ?_ | rfl); first | done | fail) (by (repeat' first | exact trivial | refine And.intro ?_ ?_ | rfl); first | done | fail) rfl) rfl rfl ⟨?_, rfl⟩
  rfl
end Go.Proofs.YtligkfhplinjlaaGreatDoorFn
namespace Go.Proofs.YtligkfhplinjlaaGreatDoorFn
open Go.Proofs.YtligkfhplinjlaaGreatDoorAl Go.Proofs.Tryz
attribute [local irreducible] IntKind.wrap CodeOk OpsL OpG ACalls thn inBlk rndR cutR WkR Wk fnR DW ExtOk partsOf
/-! ### the document begins a snapshot, and lists -/
set_option maxHeartbeats 4000000 in
theorem refDo_1 (l : List NV) (c : Int) (o : OV) (hl : l.length ≤ 4000000) (hk : o.kind = 1) (hr : reqOk c o = true) (ho : o.fit) :
    ACalls prog 23 2 [.ptr 0 0, I c, .st (.agg (rowO o))] (catH l) fun r h => r = ansC (begP l c o.name).2 ∧ h = catO (begP l c o.name).1 := by
  have hq := refReq_ok c o ho
  rw [hr] at hq
  obtain ⟨k, nm, p, ks, n⟩ := o
  simp only at hk ⊢
  subst hk
  have h1 := refFind_ok l c nm hl
  have h2 := refMany_ok l c hl
  have hm : (List.map rowN l).length = l.length := List.length_map _
  have hge := find_ge l c nm
  have hml := many_le c l
  have hr4 := refNo_ok 4
  have hr5 := refNo_ok 5
  unfold begP
  generalize findS l c nm = fi at *
  generalize l.countP (isO c true) = D at *
  by_cases hf : 0 ≤ fi
  · rw [if_pos (hge.1 hf)]
    refine ACalls.drop1 (h1 := catO l ++ [(3, ansX 4)]) ⟨rfl, rfl, trivial⟩ ?_
    refine fnC lay_ok func23 rfl rfl rfl rfl rfl ?_
    repeat' first | refine stp lay_ok rfl ?_ | refine fin ?_ | refine n_thn ?_ | refine r_thn ?_ | refine r_blk ?_ | refine .seq ?_ | refine reg ?_ | refine .block ?_ | refine .skip ?_ | refine .ret ?_ | refine cndT rfl ?_ | refine cndF rfl ?_ | refine c_dec rfl (fun hc => ?_) (fun hc => ?_) | (refine o_none rfl ?_; (first | refine st_pure (hq) b44 rfl rfl rfl rfl ?_ | refine st_callK [0,1] (h2) b46 rfl rfl rfl rfl rfl (by (repeat' first | exact trivial | refine And.intro ?_ ?_ | rfl); first | done | fail) ?_ | refine st_callK [0,1] (h1) b47 rfl rfl rfl rfl rfl (by (repeat' first | exact trivial | refine And.intro ?_ ?_ | rfl); first | done | fail) ?_ | refine st_pure (hr4) b45 rfl rfl rfl rfl ?_)) | fail
    all_goals first
      | (exfalso; omega)
      | skip
    refine f_end (n0 := 4) (t'' := [(6, .ptr 3 0)]) (h'' := [(0, .cells [.lsl 2 4 0 (l.map rowN).length]), (2, .arr 4 (l.map rowN)), (3, ansX 4)]) (WkR.of [1, 3] (by (repeat' first | exact trivial | refine And.intro ?_ ?_ | rfl); first | done | fail) (by (repeat' first | exact trivial | refine And.intro ?_ ?_ | rfl); first | done | fail) rfl) rfl rfl ⟨?_, rfl⟩
    rfl
  · have hno : ¬ (l.any (isS c nm)) = true := fun h => hf (hge.2 h)
    rw [if_neg hno]
    by_cases h8 : 8 ≤ many c l
    · rw [if_pos h8]
      refine ACalls.drop1 (h1 := catO l ++ [(3, ansX 5)]) ⟨rfl, rfl, trivial⟩ ?_
      refine fnC lay_ok func23 rfl rfl rfl rfl rfl ?_
      repeat' first | refine stp lay_ok rfl ?_ | refine fin ?_ | refine n_thn ?_ | refine r_thn ?_ | refine r_blk ?_ | refine .seq ?_ | refine reg ?_ | refine .block ?_ | refine .skip ?_ | refine .ret ?_ | refine cndT rfl ?_ | refine cndF rfl ?_ | refine c_dec rfl (fun hc => ?_) (fun hc => ?_) | (refine o_none rfl ?_; (first | refine st_pure (hq) b44 rfl rfl rfl rfl ?_ | refine st_callK [0,1] (h2) b46 rfl rfl rfl rfl rfl (by (repeat' first | exact trivial | refine And.intro ?_ ?_ | rfl); first | done | fail) ?_ | refine st_callK [0,1] (h1) b47 rfl rfl rfl rfl rfl (by (repeat' first | exact trivial | refine And.intro ?_ ?_ | rfl); first | done | fail) ?_ | refine st_pure (hr5) b45 rfl rfl rfl rfl ?_)) | fail
      all_goals first
        | (exfalso; omega)
        | skip
      refine f_end (n0 := 4) (t'' := [(6, .ptr 3 0)]) (h'' := [(0, .cells [.lsl 2 4 0 (l.map rowN).length]), (2, .arr 4 (l.map rowN)), (3, ansX 5)]) (WkR.of [1, 3] (by (repeat' first | exact trivial | refine And.intro ?_ ?_ | rfl); first | done | fail) (by (repeat' first | exact trivial | refine And.intro ?_ ?_ | rfl); first | done | fail) rfl) rfl rfl ⟨?_, rfl⟩
      rfl
    · rw [if_neg h8]
      refine ACalls.drop1 (h1 := catO (l ++ [⟨c, nm, false, []⟩]) ++ [(3, ansX 0)]) ⟨rfl, rfl, trivial⟩ ?_
      have hone : ∀ row ∈ [[SV.int .i64 c, .str nm, .bool false, .nilsl]], ∀ y ∈ row, SV.one y = true := by
        intro row hrow y hy
        simp only [List.mem_singleton] at hrow
        subst hrow
        simp only [List.mem_cons, List.not_mem_nil, or_false] at hy
        rcases hy with rfl | rfl | rfl | rfl <;> rfl
      refine fnC lay_ok func23 rfl rfl rfl rfl rfl ?_
      repeat' first | refine stp lay_ok rfl ?_ | refine fin ?_ | refine n_thn ?_ | refine .seq ?_ | refine reg ?_ | refine .block ?_ | refine .skip ?_ | refine cndT rfl ?_ | refine cndF rfl ?_ | refine c_dec rfl (fun hc => ?_) (fun hc => ?_) | (refine o_none rfl ?_; (first | refine st_pure (hq) b44 rfl rfl rfl rfl ?_ | refine st_callK [0,1] (h2) b46 rfl rfl rfl rfl rfl (by (repeat' first | exact trivial | refine And.intro ?_ ?_ | rfl); first | done | fail) ?_ | refine st_callK [0,1] (h1) b47 rfl rfl rfl rfl rfl (by (repeat' first | exact trivial | refine And.intro ?_ ?_ | rfl); first | done | fail) ?_)) | fail
      all_goals first
        | (exfalso; omega)
        | skip
      refine dreg [(0, [], [41, 42, 43, 44, 45, 46, 47, 48, 49, 50]), (1, [], [40, 45, 46, 47, 48, 49]), (2, [1], [40, 45, 46, 47, 48, 49]), (3, [1, 2], [40, 45, 46, 47, 48, 49]), (4, [1, 2, 3], [40, 45, 46, 47, 48, 49]), (5, [], [40, 41, 42, 43, 44, 46, 47]), (6, [], [40, 41, 42, 43, 44, 45]), (7, [6], [40, 41, 42, 43, 44, 45]), (8, [5, 6, 7], [40, 41, 42, 43, 44]), (9, [5, 6, 7, 8], [40, 41, 42, 43, 44]), (10, [1, 2, 3, 4, 5, 6, 7, 8, 9], [40]), (11, [0, 1, 2, 3, 4, 5, 6, 7, 8, 9, 10], []), (12, [0, 1, 2, 3, 4, 5, 6, 7, 8, 9, 10, 11], []), (13, [0, 1, 2, 3, 4, 5, 6, 7, 8, 9, 10, 11, 12], [])] mixed (by kernel_rfl) ?_
      repeat' first | refine stp lay_ok rfl ?_ | refine fin ?_ | refine n_thn ?_ | refine r_thn ?_ | refine r_blk ?_ | refine .seq ?_ | refine reg ?_ | refine .ret ?_ | refine dws lay_ok rfl rfl rfl rfl rfl rfl rfl ?_ | refine dwu lay_ok rfl rfl rfl rfl rfl rfl rfl rfl rfl ?_ | refine dw_end ?_ | refine dwg rfl rfl rfl rfl rfl (by (first | refine st_append lay_ok rfl rfl rfl rfl rfl rfl rfl rfl (.lsl rfl rfl) (.sl (rows := [[SV.int .i64 c, .str nm, .bool false, .nilsl]])) rfl hone (by simp only [List.length_cons, List.length_nil]; omega) (by simp only [List.length_cons, List.length_nil]; omega) ?_); exact fin rfl) rfl rfl rfl rfl rfl ?_ | fail
      all_goals first
        | (exfalso; omega)
        | skip
      have hlen : (List.map rowN l ++ [[SV.int .i64 c, .str nm, .bool false, .nilsl]]).length = (List.map rowN (l ++ [⟨c, nm, false, []⟩])).length := by simp
      rw [hlen]
      refine f_end (n0 := 4) (t'' := [(6, .ptr 3 0)]) (h'' := [(0, .cells [.lsl 2 4 0 (List.map rowN (l ++ [⟨c, nm, false, []⟩])).length]), (2, .arr 4 (List.map rowN (l ++ [⟨c, nm, false, []⟩]))), (3, ansX 0)]) (Wk.then (Wk.leA (rows' := List.map rowN (l ++ [⟨c, nm, false, []⟩])) 4 rfl hlen.symm (begin_le l c nm) rfl) (WkR.of [4, 3] (by (repeat' first | exact trivial | refine And.intro ?_ ?_ | rfl); first | done | fail) (by (repeat' first | exact trivial | refine And.intro ?_ ?_ | rfl); first | done | fail) rfl)) rfl rfl ⟨?_, rfl⟩
      rfl
theorem lst_take (c : Int) {l : List NV} {k : Nat} (h : k < l.length) : ((l.take (k + 1)).filter (isO c true)).map (·.name) = ((l.take k).filter (isO c true)).map (·.name) ++ if isO c true l[k] = true then [l[k].name] else [] := by
  rw [List.take_succ_eq_append_getElem h, List.filter_append, List.map_append]
  cases hp : isO c true l[k] <;> simp [hp]
set_option maxHeartbeats 8000000 in
theorem refDo_5 (l : List NV) (c : Int) (o : OV) (hl : l.length ≤ 4000000) (hk : o.kind = 5) (hr : reqOk c o = true) (ho : o.fit) :
    ACalls prog 23 2 [.ptr 0 0, I c, .st (.agg (rowO o))] (catH l) fun r h => r = ansN ((l.filter (isO c true)).map (·.name)) ∧ h = catO l := by
  have hq := refReq_ok c o ho
  rw [hr] at hq
  obtain ⟨k, nm, p, ks, n⟩ := o
  simp only at hk ⊢
  subst hk
  have hm : (List.map rowN l).length = l.length := List.length_map _
  generalize hR : (l.filter (isO c true)).map (·.name) = R
  refine ACalls.drop1 (h1 := catO l ++ [(3, .cells [.st (.int .i64 0), .st (.int .i64 0), .st (.sl 1 (R.map rowS)), .st .nilsl, .st .nilsl])]) ⟨rfl, rfl, trivial⟩ ?_
  refine fnC lay_ok func23 rfl rfl rfl rfl rfl ?_
  repeat' first | refine stp lay_ok rfl ?_ | refine fin ?_ | refine n_thn ?_ | refine .seq ?_ | refine reg ?_ | refine .block ?_ | refine .skip ?_ | refine cndT rfl ?_ | refine cndF rfl ?_ | (refine o_none rfl ?_; refine st_pure (hq) b44 rfl rfl rfl rfl ?_) | fail
  refine CodeOk.wk (Wk.nilC 1 4 2 rfl rfl rfl rfl rfl) (Nat.le_succ _) ?_
  refine nrm rfl rfl ?_
  refine lpR (fun (k, out) => k ≤ l.length ∧ out = ((l.take k).filter (isO c true)).map (·.name) ∧ out.length ≤ k) (fun (k, out) => l.length - k) (fun (k, out) => [(11, I k)]) (fun (k, out) => [(4, .cells [.st (.int .i64 0), .st (.int .i64 0), .lsl 6 1 0 (out.map rowS).length, .st .nilsl, .st .nilsl]), (6, .arr 1 (out.map rowS))]) ((0, [])) [0, 1, 6, 10] [4] [5] rfl rfl rfl (.of [5] (by (repeat' first | exact trivial | refine And.intro ?_ ?_ | rfl); first | done | fail) (by (repeat' first | exact trivial | refine And.intro ?_ ?_ | rfl); first | done | fail) rfl) ?_ ?_
  · exact ⟨Nat.zero_le _, rfl, Nat.le_refl _⟩
  rintro ⟨k, out⟩ ⟨g1, g2, g3⟩
  refine nrm rfl rfl ?_
  have hmr : (List.map rowS out).length = out.length := List.length_map _
  by_cases hk : k < l.length
  case neg =>
    have hke : k = l.length := by omega
    subst hke
    rw [List.take_length, hR] at g2
    rw [← g2]
    repeat' first | refine ln ?_ | refine stp lay_ok rfl ?_ | refine fin ?_ | refine n_thn ?_ | refine e_thn ?_ | refine e_hit ?_ | refine r_thn ?_ | refine r_blk ?_ | refine e_rr ?_ | refine .seq ?_ | refine reg ?_ | refine .block ?_ | refine .skip ?_ | refine .ret ?_ | refine .exit ?_ | refine c_dec rfl (fun hc => ?_) (fun hc => ?_) | fail
    all_goals first
      | (exfalso; omega)
      | skip
    refine f_end (n0 := 4) (t'' := [(6, .ptr 3 0)]) (h'' := [(0, .cells [.lsl 2 4 0 (l.map rowN).length]), (2, .arr 4 (l.map rowN)), (3, .cells [.st (.int .i64 0), .st (.int .i64 0), .st (.sl 1 (out.map rowS)), .st .nilsl, .st .nilsl])]) (Wk.then (Wk.frz 6 [6] rfl rfl rfl (by (repeat' first | exact trivial | refine And.intro ?_ ?_ | rfl); first | done | fail) (by (repeat' first | exact trivial | refine And.intro ?_ ?_ | rfl); first | done | fail) rfl rfl) (WkR.of [1, 3] (by (repeat' first | exact trivial | refine And.intro ?_ ?_ | rfl); first | done | fail) (by (repeat' first | exact trivial | refine And.intro ?_ ?_ | rfl); first | done | fail) rfl)) rfl rfl ⟨?_, rfl⟩
    rfl
  have hat : (List.map rowN l)[0 + ((k : Nat) : Int).toNat]? = some (rowN l[k]) := by simp [hk]
  have htk := lst_take c hk
  rw [← g2] at htk
  generalize l[k] = s at *
  obtain ⟨c', n', d', es⟩ := s
  have hr2 : List.map rowS out ++ [[SV.str n']] = List.map rowS (out ++ [n']) := by rw [List.map_append]; rfl
  by_cases hp : isO c true ⟨c', n', d', es⟩ = true
  · rw [if_pos hp] at htk
    unfold isO at hp
    simp only [Bool.not_true, Bool.or_false, Bool.and_eq_true, decide_eq_true_eq] at hp
    obtain ⟨rfl, rfl⟩ := hp
    repeat' first | refine wr (by omega) ?_ | refine ln ?_ | refine stp lay_ok rfl ?_ | refine fin ?_ | refine n_thn ?_ | refine n_blk ?_ | refine e_thn ?_ | refine e_hit ?_ | refine r_thn ?_ | refine r_blk ?_ | refine e_rr ?_ | refine .seq ?_ | refine reg ?_ | refine .block ?_ | refine .skip ?_ | refine .ret ?_ | refine .exit ?_ | refine cndT rfl ?_ | refine cndF rfl ?_ | refine c_dec rfl (fun hc => ?_) (fun hc => ?_) | ((first | refine o_none rfl ?_ | refine o_yes rfl rfl rfl ?_); (first | refine st_indexL lay_ok rfl rfl rfl rfl (by omega) (by omega) ?_ | refine st_loadE [SV.int .i64 c', .str n', .bool true, .sl 3 (es.map rowE)] lay_ok rfl rfl rfl hat rfl rfl rfl ?_)) | refine gd rfl rfl rfl (fun hg => ?_) (fun hg => ?_) | fail
    all_goals first
      | (exfalso; omega)
      | skip
    refine dreg [(0, [], [87, 88, 89, 90, 91, 92, 93, 94, 95]), (1, [0], [87, 88, 89, 90, 91, 92, 93, 94, 95]), (2, [], [85, 86, 91]), (3, [2], [85, 86, 91]), (4, [2, 3], [85, 86, 91]), (5, [2, 3, 4], [85, 86, 91]), (6, [], [85, 86, 87, 88, 89, 90]), (7, [2, 3, 4, 5, 6], [85, 86]), (8, [2, 3, 4, 5, 6, 7], [85, 86]), (9, [2, 3, 4, 5, 6, 7, 8], [85, 86]), (10, [2, 3, 4, 5, 6, 7, 8, 9], [85, 86]), (11, [0, 1, 2, 3, 4, 5, 6, 7, 8, 9, 10], []), (12, [0, 1, 2, 3, 4, 5, 6, 7, 8, 9, 10, 11], []), (13, [0, 1, 2, 3, 4, 5, 6, 7, 8, 9, 10, 11, 12], [])] mixed (by kernel_rfl) ?_
    repeat' first | refine wr (by omega) ?_ | refine stp lay_ok rfl ?_ | refine fin ?_ | refine n_thn ?_ | refine n_blk ?_ | refine reg ?_ | refine dws lay_ok rfl rfl rfl rfl rfl rfl rfl ?_ | refine dwu lay_ok rfl rfl rfl rfl rfl rfl rfl rfl rfl ?_ | refine dw_end ?_ | refine dwb rfl rfl rfl rfl rfl (by (first | refine st_indexL lay_ok rfl rfl rfl rfl (by omega) (by omega) ?_ | refine st_loadE [SV.int .i64 c', .str n', .bool true, .sl 3 (es.map rowE)] lay_ok rfl rfl rfl hat rfl rfl rfl ?_ | refine st_append lay_ok rfl rfl rfl rfl rfl rfl rfl rfl (.lsl rfl rfl) (.sl (rows := [[SV.str n']])) rfl (rowS_one1 n') (by simp only [List.length_cons, List.length_nil]; omega) (by simp only [List.length_cons, List.length_nil]; omega) ?_); exact fin rfl) rfl rfl ?_ | refine dwg rfl rfl rfl rfl rfl (by (first | refine st_indexL lay_ok rfl rfl rfl rfl (by omega) (by omega) ?_ | refine st_loadE [SV.int .i64 c', .str n', .bool true, .sl 3 (es.map rowE)] lay_ok rfl rfl rfl hat rfl rfl rfl ?_ | refine st_append lay_ok rfl rfl rfl rfl rfl rfl rfl rfl (.lsl rfl rfl) (.sl (rows := [[SV.str n']])) rfl (rowS_one1 n') (by simp only [List.length_cons, List.length_nil]; omega) (by simp only [List.length_cons, List.length_nil]; omega) ?_); exact fin rfl) rfl rfl rfl rfl rfl ?_ | fail
    all_goals first
      | (exfalso; omega)
      | skip
    rw [hr2]
    refine n_rr ((k + 1, out ++ [n'])) ?_ (.of [7] (by (repeat' first | exact trivial | refine And.intro ?_ ?_ | rfl | exact congrArg (fun z : Int => some (AV.st (.int .i64 z))) (show (k : Int) + 1 = ((k + 1 : Nat) : Int) by omega)); first | done | fail) (by (repeat' first | exact trivial | refine And.intro ?_ ?_ | rfl | exact congrArg (fun z : Int => some (AV.st (.int .i64 z))) (show (k : Int) + 1 = ((k + 1 : Nat) : Int) by omega)); first | done | fail) rfl) ?_
    · show l.length - (k + 1) < l.length - k; omega
    · exact ⟨hk, htk.symm, by simp; omega⟩
  · rw [if_neg hp, List.append_nil] at htk
    unfold isO at hp
    simp only [Bool.not_true, Bool.or_false, Bool.and_eq_true, decide_eq_true_eq, not_and] at hp
    cases d'
    all_goals
      repeat' first | refine wr (by omega) ?_ | refine ln ?_ | refine stp lay_ok rfl ?_ | refine fin ?_ | refine n_thn ?_ | refine n_blk ?_ | refine e_thn ?_ | refine e_hit ?_ | refine r_thn ?_ | refine r_blk ?_ | refine e_rr ?_ | refine .seq ?_ | refine reg ?_ | refine .block ?_ | refine .skip ?_ | refine .ret ?_ | refine .exit ?_ | refine cndT rfl ?_ | refine cndF rfl ?_ | refine c_dec rfl (fun hc => ?_) (fun hc => ?_) | ((first | refine o_none rfl ?_ | refine o_yes rfl rfl rfl ?_); (first | refine st_indexL lay_ok rfl rfl rfl rfl (by omega) (by omega) ?_ | refine st_loadE [SV.int .i64 c', .str n', .bool _, .sl 3 (es.map rowE)] lay_ok rfl rfl rfl hat rfl rfl rfl ?_)) | refine gd rfl rfl rfl (fun hg => ?_) (fun hg => ?_) | fail
      all_goals first
        | (exfalso; omega)
        | (exfalso; simp_all; done)
        | skip
      all_goals
        refine n_rr ((k + 1, out)) ?_ (.of [6] (by (repeat' first | exact trivial | refine And.intro ?_ ?_ | rfl | exact congrArg (fun z : Int => some (AV.st (.int .i64 z))) (show (k : Int) + 1 = ((k + 1 : Nat) : Int) by omega)); first | done | fail) (by (repeat' first | exact trivial | refine And.intro ?_ ?_ | rfl | exact congrArg (fun z : Int => some (AV.st (.int .i64 z))) (show (k : Int) + 1 = ((k + 1 : Nat) : Int) by omega)); first | done | fail) rfl) ?_
        · show l.length - (k + 1) < l.length - k; omega
        · exact ⟨hk, htk.symm, by omega⟩
end Go.Proofs.YtligkfhplinjlaaGreatDoorFn
namespace Go.Proofs.YtligkfhplinjlaaGreatDoorFn
open Go.Proofs.YtligkfhplinjlaaGreatDoorAl Go.Proofs.Tryz
attribute [local irreducible] IntKind.wrap CodeOk OpsL OpG ACalls thn inBlk rndR cutR WkR Wk fnR DW ExtOk partsOf
/-! ### the document's catalog does as the plain one -/
theorem refOne_ok (l : List NV) (c : Int) (i : Nat) (o : OV) (hi : i < l.length) (hC : CatP l) (hr : reqOk c o = true) (hk : o.kind = 2 ∨ o.kind = 3 ∨ o.kind = 4 ∨ o.kind = 6 ∨ o.kind = 7) (ho : o.fit) :
    ACalls prog 50 2 [.ptr 0 0, I i, .st (.agg (rowO o))] (catH l) fun r h => r = ansS (oneP l i l[i] o).2 ∧ h = catO (oneP l i l[i] o).1 := by
  have hl := catP_len hC
  obtain ⟨ht1, ht2⟩ := reqOk_tot hr
  have hS := hC.one _ (List.getElem_mem hi)
  obtain ⟨_, z2, z3⟩ := hS.small
  have hop : o.path.size ≤ 4000000000 - 1 := ho.2.1
  have hps : ∀ e ∈ l[i].entries, e.path.size ≤ 4000000000 - 1 := fun e he => by have := (z3 e he).1; omega
  have hks : ∀ e ∈ l[i].entries, e.keys.length ≤ 4000000000 := fun e he => by have := (z3 e he).2.1; omega
  rcases hk with h | h | h | h | h
  · have e0 : oneP l i l[i] o = (l.set i (addP l[i] o).1, (addP l[i] o).2) := by unfold oneP; rw [if_pos h]
    rw [e0]
    have hup : l[i].entries.Pairwise fun x y => ltC cmE y x = false := hS.tr.up.imp fun {x y} hxy => by
      rw [ltC_str]
      cases hyx : strLt y.path x.path with
      | false => rfl
      | true => have := strLt_trans hxy hyx; rw [strLt_irrefl] at this; cases this
    have hA : (addP l[i] o).2 = noA (addP l[i] o).2.code := by
      unfold addP
      split
      · rfl
      · split
        · rfl
        · split
          · rfl
          · split <;> rfl
    refine acalls_le (refOne2_ok l _ i o _ hi (by omega) h (refAdd_ok l i o hi (by omega) (by omega) (by omega) (by omega) hps hop hup hS.tr.distinct)) ?_
    have := ansC_le (addP l[i] o).2.code
    rw [← hA] at this
    exact this
  · have e0 : oneP l i l[i] o = if l[i].done = true then (l, noA 6) else (l.set i ⟨l[i].client, l[i].name, true, l[i].entries⟩, noA 0) := by unfold oneP; rw [if_neg (by omega), if_pos h]
    rw [e0]
    by_cases hd : l[i].done = true
    · rw [if_pos hd]
      exact acalls_le (refOne3no_ok l i o hi (by omega) h hd) (ansC_le 6)
    · rw [if_neg hd]
      exact acalls_le (refOne3_ok l i o hi (by omega) h (by simpa using hd)) (ansC_le 0)
  · have e0 : oneP l i l[i] o = if l[i].done = true then (l, noA 6) else (l.eraseIdx i, noA 0) := by unfold oneP; rw [if_neg (by omega), if_neg (by omega), if_pos h]
    rw [e0]
    by_cases hd : l[i].done = true
    · rw [if_pos hd]
      exact acalls_le (refOne4no_ok l i o hi (by omega) h hd) (ansC_le 6)
    · rw [if_neg hd]
      exact acalls_le (refOne4_ok l i o hi (by omega) h (by simpa using hd)) (ansC_le 0)
  · have e0 : oneP l i l[i] o = if l[i].done = false then (l, noA 6) else (l, match l[i].entries.find? fun e => decide (e.path = o.path) with
        | some e => ⟨0, e.size, [], e.keys, []⟩
        | none => noA 3) := by unfold oneP; rw [if_neg (by omega), if_neg (by omega), if_neg (by omega)]; split <;> first | rfl | (rw [if_pos h] <;> rfl)
    rw [e0]
    by_cases hd : l[i].done = false
    · rw [if_pos hd]
      exact acalls_le (refOne6no_ok l i o hi (by omega) h hd) (ansC_le 6)
    · rw [if_neg hd]
      have hlk := refOne6_ok l i o hi (by omega) h (by simpa using hd) (by omega) hks
      unfold lookN at hlk
      cases hfe : l[i].entries.find? fun e => decide (e.path = o.path) with
      | some e =>
        rw [hfe] at hlk
        exact acalls_le hlk (ansK_le _ _)
      | none =>
        rw [hfe] at hlk
        exact acalls_le hlk (ansC_le 3)
  · have e0 : oneP l i l[i] o = if l[i].done = false then (l, noA 6) else (l, ⟨0, 0, [], [], l[i].entries⟩) := by unfold oneP; rw [if_neg (by omega), if_neg (by omega), if_neg (by omega)]; split <;> first | rfl | (rw [if_neg (by omega)] <;> rfl)
    rw [e0]
    by_cases hd : l[i].done = false
    · rw [if_pos hd]
      exact acalls_le (refOne7no_ok l i o hi (by omega) h hd) (ansC_le 6)
    · rw [if_neg hd]
      exact acalls_le (refOne7_ok l i o hi (by omega) h (by simpa using hd) (by omega) hks) (ansP_le _)
theorem refDo_ok (l : List NV) (c : Int) (o : OV) (hC : CatP l) (ho : o.fit) : ACalls prog 23 2 [.ptr 0 0, I c, .st (.agg (rowO o))] (catH l) fun r h => r = ansS (doP l c o).2 ∧ h = catO (doP l c o).1 := by
  have hl := catP_len hC
  cases hr : reqOk c o with
  | false =>
    have e1 : doP l c o = (l, noA 1) := by unfold doP; rw [if_pos hr]
    rw [e1]
    exact acalls_le (refDo_no l c o hr ho) (ansC_le 1)
  | true =>
    obtain ⟨_, hk, _, _, hn, _⟩ := reqOk_parts hr
    have hF0 := refFind_ok l c o.name (by omega)
    have : o.kind = 1 ∨ o.kind = 5 ∨ o.kind = 8 ∨ o.kind = 9 ∨ (o.kind = 2 ∨ o.kind = 3 ∨ o.kind = 4 ∨ o.kind = 6 ∨ o.kind = 7) := by omega
    rcases this with h | h | h | h | h
    · have e1 : doP l c o = ((begP l c o.name).1, noA (begP l c o.name).2) := by
        unfold doP begP
        rw [if_neg (by simp [hr]), if_pos h]
        split
        · rfl
        · split <;> rfl
      rw [e1]
      exact acalls_le (refDo_1 l c o (by omega) h hr ho) (ansC_le _)
    · have e1 : doP l c o = (l, ⟨0, 0, (l.filter (isO c true)).map (·.name), [], []⟩) := by unfold doP; rw [if_neg (by simp [hr]), if_neg (by omega), if_pos h]
      rw [e1]
      exact acalls_le (refDo_5 l c o (by omega) h hr ho) (ansN_le _)
    · have e1 : doP l c o = (remK (isO c true) (goneP l c o.n) l, ⟨0, goneP l c o.n, [], [], []⟩) := by unfold doP; rw [if_neg (by simp [hr]), if_neg (by omega), if_neg (by omega), if_pos h]
      rw [e1]
      exact acalls_le (refDo_8 l _ c o _ h hr ho (refPrune_ok l c o.n hn (by omega))) (ansG_le _)
    · have e1 : doP l c o = (l, ⟨0, 0, [], heldS l, []⟩) := by unfold doP; rw [if_neg (by simp [hr]), if_neg (by omega), if_neg (by omega), if_neg (by omega), if_pos h]
      rw [e1]
      have ha := allS_len hC
      exact acalls_le (refDo_9 l c o _ h hr ho (refHeld_ok l (by omega) (fun s hs => by have := (hC.one s hs).small.2.1; omega) (fun s hs e he => by have := ((hC.one s hs).small.2.2 e he).2.1; omega) (by omega))) (ansH_le _)
    · cases hf : l.findIdx? (isS c o.name) with
      | none =>
        rw [findS_none hf] at hF0
        rw [doP_none hr h hf]
        rcases h with h | h | h | h | h
        · exact acalls_le (refDo_none2 l c o h hr ho hF0) (ansC_le 3)
        · exact acalls_le (refDo_none3 l c o h hr ho hF0) (ansC_le 3)
        · exact acalls_le (refDo_none4 l c o h hr ho hF0) (ansC_le 3)
        · exact acalls_le (refDo_none6 l c o h hr ho hF0) (ansC_le 3)
        · exact acalls_le (refDo_none7 l c o h hr ho hF0) (ansC_le 3)
      | some i =>
        obtain ⟨hi, hfs, _⟩ := findS_some hf
        rw [hfs] at hF0
        rw [doP_some hr h hf hi]
        have hB := refOne_ok l c i o hi hC hr h ho
        rcases h with h | h | h | h | h
        · exact refDo_one2 l _ c o _ i h hr ho hF0 hB
        · exact refDo_one3 l _ c o _ i h hr ho hF0 hB
        · exact refDo_one4 l _ c o _ i h hr ho hF0 hB
        · exact refDo_one6 l _ c o _ i h hr ho hF0 hB
        · exact refDo_one7 l _ c o _ i h hr ho hF0 hB
end Go.Proofs.YtligkfhplinjlaaGreatDoorFn
namespace Go.Proofs.YtligkfhplinjlaaGreatDoorFn
open Go.Proofs.YtligkfhplinjlaaGreatDoorAl Go.Proofs.Tryz Go.ChangeAt Go.RowKit
/-! ### what arguments of the laws' types read as -/
abbrev ΦI (xs : List SV) : Prop := ∃ n, xs = [.int .i64 n] ∧ (Lit.int .i64 n).wf = true
theorem rdI : Rd prog 3 ΦI := rd_int underlying3
abbrev ΦB (xs : List SV) : Prop := ∃ b, xs = [.bool b]
theorem rdB : Rd prog 4 ΦB := rd_bool underlying4
abbrev ΦS (xs : List SV) : Prop := ∃ s : ByteArray, xs = [.str s] ∧ s.size ≤ reachBytes
theorem rdS : Rd prog 9 ΦS := rd_str underlying9
abbrev ΦL (sz bytes : Nat) (Φ : List SV → Prop) (xs : List SV) : Prop := ∃ rows, xs = [.sl sz rows] ∧ (∀ row ∈ rows, Φ row) ∧ rows.length * bytes ≤ reachBytes
theorem rdLS : Rd prog 27 (ΦL 1 16 ΦS) := rd_slice underlying27 (by kernel_rfl) (by kernel_rfl) rfl rdS
theorem cI : prog.cellsOf 3 = 1 := by kernel_rfl
theorem cB : prog.cellsOf 4 = 1 := by kernel_rfl
theorem cS : prog.cellsOf 9 = 1 := by kernel_rfl
theorem cLS : prog.cellsOf 27 = 1 := by kernel_rfl
theorem cE : prog.cellsOf 39 = 3 := by kernel_rfl
theorem cLE : prog.cellsOf 28 = 1 := by kernel_rfl
abbrev ΦE : List SV → Prop := Pieces [ΦS, ΦI, ΦL 1 16 ΦS]
theorem rdE : Rd prog 39 ΦE := rd_struct underlying39 ⟨rfl, rdS, by rw [cS], rdI, by rw [cI, cS], rdLS, by rw [cE, cI, cS, cLS]; rfl⟩
theorem rdLE : Rd prog 28 (ΦL 3 48 ΦE) := rd_slice underlying28 (by kernel_rfl) (by kernel_rfl) rfl rdE
/-- What is true of whatever a reader of memory brings: sizes that memory has room for. -/
def EV.inMem (e : EV) : Prop := e.path.size ≤ reachBytes ∧ e.keys.length * 16 ≤ reachBytes ∧ ∀ k ∈ e.keys, k.size ≤ reachBytes
theorem ofSs {rows : List (List SV)} (h : ∀ row ∈ rows, ΦS row) : ∃ l : List ByteArray, rows = l.map rowS ∧ ∀ s ∈ l, s.size ≤ reachBytes :=
  rows_map (f := rowS) (Ok := fun s => s.size ≤ reachBytes) h
theorem ofE {xs : List SV} (h : ΦE xs) : ∃ e : EV, xs = rowE e ∧ e.inMem := by
  obtain ⟨_, _, rfl, ⟨p, rfl, hp⟩, _, _, rfl, ⟨z, rfl, _⟩, _, _, rfl, ⟨rows, rfl, hr, hl⟩, rfl⟩ := h
  obtain ⟨l, rfl, hs⟩ := ofSs hr
  exact ⟨⟨p, z, l⟩, rfl, hp, by simpa using hl, hs⟩
/-! ### files and cuts -/
end Go.Proofs.YtligkfhplinjlaaGreatDoorFn
namespace Go.Proofs.YtligkfhplinjlaaGreatDoorFn
open Go.Proofs.YtligkfhplinjlaaGreatDoorAl Go.Proofs.Tryz Go.ChangeAt Go.RowKit
theorem cN : prog.cellsOf 47 = 4 := by kernel_rfl
abbrev ΦN : List SV → Prop := Pieces [ΦI, ΦS, ΦB, ΦL 3 48 ΦE]
theorem rdN : Rd prog 47 ΦN := rd_struct underlying47 ⟨rfl, rdI, by rw [cI], rdS, by rw [cI, cS], rdB, by rw [cI, cS, cB], rdLE, by rw [cN, cI, cS, cB, cLE]; rfl⟩
theorem rdLN : Rd prog 42 (ΦL 4 56 ΦN) := rd_slice underlying42 (by kernel_rfl) (by kernel_rfl) rfl rdN
def NV.inMem (s : NV) : Prop := s.name.size ≤ reachBytes ∧ s.entries.length * 48 ≤ reachBytes ∧ ∀ e ∈ s.entries, e.inMem
theorem ofN {xs : List SV} (h : ΦN xs) : ∃ s : NV, xs = rowN s ∧ s.inMem := by
  obtain ⟨_, _, rfl, ⟨c, rfl, _⟩, _, _, rfl, ⟨n, rfl, hn⟩, _, _, rfl, ⟨b, rfl⟩, _, _, rfl, ⟨rows, rfl, hr, hl⟩, rfl⟩ := h
  obtain ⟨l, rfl, hs⟩ := rows_map (f := rowE) (Ok := EV.inMem) (fun row hm => ofE (hr row hm))
  exact ⟨⟨c, n, b, l⟩, rfl, hn, by simpa using hl, hs⟩
end Go.Proofs.YtligkfhplinjlaaGreatDoorFn
namespace Go.Proofs.YtligkfhplinjlaaGreatDoorFn
open Go.Proofs.YtligkfhplinjlaaGreatDoorAl Go.Proofs.Tryz Go.ChangeAt Go.RowKit
/-! ### deeds, as arguments -/
theorem cO : prog.cellsOf 33 = 5 := by kernel_rfl
abbrev ΦO : List SV → Prop := Pieces [ΦI, ΦS, ΦS, ΦL 1 16 ΦS, ΦI]
theorem rdO : Rd prog 33 ΦO := rd_struct underlying33 ⟨rfl, rdI, by simp only [cI], rdS, by simp only [cI, cS], rdS, by simp only [cI, cS], rdLS, by simp only [cI, cS, cLS], rdI, by simp only [cO, cI, cS, cLS]; rfl⟩
abbrev ΦD : List SV → Prop := Pieces [ΦI, ΦO]
theorem cD : prog.cellsOf 35 = 6 := by kernel_rfl
theorem rdD : Rd prog 35 ΦD := rd_struct underlying35 ⟨rfl, rdI, by simp only [cI], rdO, by simp only [cD, cI, cO]; rfl⟩
theorem rdLD : Rd prog 22 (ΦL 6 80 ΦD) := rd_slice underlying22 (by kernel_rfl) (by kernel_rfl) rfl rdD
def OV.inMem (o : OV) : Prop := o.name.size ≤ reachBytes ∧ o.path.size ≤ reachBytes ∧ o.keys.length * 16 ≤ reachBytes ∧ ∀ k ∈ o.keys, k.size ≤ reachBytes
def DV.inMem (d : DV) : Prop := d.op.inMem
theorem ofO {xs : List SV} (h : ΦO xs) : ∃ o : OV, xs = rowO o ∧ o.inMem := by
  obtain ⟨_, _, rfl, ⟨k, rfl, _⟩, _, _, rfl, ⟨nm, rfl, hn⟩, _, _, rfl, ⟨p, rfl, hp⟩, _, _, rfl, ⟨rows, rfl, hr, hl⟩, _, _, rfl, ⟨n, rfl, _⟩, rfl⟩ := h
  obtain ⟨l, rfl, hs⟩ := ofSs hr
  exact ⟨⟨k, nm, p, l, n⟩, rfl, hn, hp, by simpa using hl, hs⟩
theorem ofD {xs : List SV} (h : ΦD xs) : ∃ d : DV, xs = rowD d ∧ d.inMem := by
  obtain ⟨_, _, rfl, ⟨c, rfl, _⟩, _, _, rfl, ho, rfl⟩ := h
  obtain ⟨o, rfl, hm⟩ := ofO ho
  exact ⟨⟨c, o⟩, rfl, hm⟩
end Go.Proofs.YtligkfhplinjlaaGreatDoorFn
namespace Go.Proofs.YtligkfhplinjlaaGreatDoorFn
open Go.Proofs.YtligkfhplinjlaaGreatDoorAl Go.Proofs.Tryz
attribute [local irreducible] IntKind.wrap CodeOk OpsL OpG ACalls thn inBlk rndR cutR WkR Wk fnR DW ExtOk partsOf
theorem b39 : HasBody prog 39 := ⟨f39, func39, Option.some_ne_none _, by decide⟩
def shortK (l : List ByteArray) : Bool := l.all fun k => decide (k.size ≤ 2000)
def shortV (e : EV) : Bool := decide (e.path.size ≤ 2000) && decide (e.keys.length ≤ 1200) && shortK e.keys
def shortE (l : List EV) : Bool := decide (l.length ≤ 100) && l.all shortV
set_option maxRecDepth 4000 in
theorem short4_ok (l : List EV) : ACalls prog 39 0 [.st (.sl 3 (l.map rowE))] [] fun r h => r = B (shortE l) ∧ h = [] := by
  have hm : (List.map rowE l).length = l.length := List.length_map _
  have hW : shortE l = (decide (l.length ≤ 100) && l.all shortV) := rfl
  generalize shortE l = W at *
  refine fnC lay_ok func39 rfl rfl rfl rfl rfl ?_
  repeat' first | refine ln ?_ | refine stp lay_ok rfl ?_ | refine fin ?_ | refine n_thn ?_ | refine r_thn ?_ | refine .seq ?_ | refine reg ?_ | refine .block ?_ | refine .skip ?_ | refine .ret ?_ | refine c_dec rfl (fun hc => ?_) (fun hc => ?_) | fail
  · refine f_r [] rfl trivial rfl ⟨?_, rfl⟩
    rw [hW, decide_eq_false (by omega)]; rfl
  have h100 : l.length ≤ 100 := by omega
  rw [decide_eq_true h100, Bool.true_and] at hW
  refine lpR (fun k => k ≤ l.length ∧ (l.take k).all shortV = true) (fun k => l.length - k) (fun k => [(3, I k)]) (fun k => []) (0) [0] [] [] rfl rfl rfl (.of [] (by (repeat' first | exact trivial | refine And.intro ?_ ?_ | rfl); first | done | fail) (by (repeat' first | exact trivial | refine And.intro ?_ ?_ | rfl); first | done | fail) rfl) ?_ ?_
  · exact ⟨Nat.zero_le _, rfl⟩
  rintro k ⟨h1, h2⟩
  refine nrm rfl rfl ?_
  by_cases hk : k < l.length
  case neg =>
    have hke : k = l.length := by omega
    subst hke
    rw [List.take_length] at h2
    repeat' first | refine ln ?_ | refine stp lay_ok rfl ?_ | refine fin ?_ | refine n_thn ?_ | refine e_thn ?_ | refine e_hit ?_ | refine e_rr ?_ | refine .seq ?_ | refine reg ?_ | refine .block ?_ | refine .skip ?_ | refine .ret ?_ | refine .exit ?_ | refine c_dec rfl (fun hc => ?_) (fun hc => ?_) | fail
    all_goals first
      | (exfalso; omega)
      | (refine f_r [] rfl trivial rfl ⟨?_, rfl⟩; rw [hW, h2]; rfl)
  have hat := at_rowE hk
  have ha := all_take (p := shortV) hk
  have hna := all_not (p := shortV) hk
  have hsv : shortV l[k] = (decide (l[k].path.size ≤ 2000) && decide (l[k].keys.length ≤ 1200) && shortK l[k].keys) := rfl
  generalize l[k] = e at *
  obtain ⟨p, z, ks⟩ := e
  simp only at hsv
  generalize shortV ⟨p, z, ks⟩ = V at *
  have hmk : (List.map rowS ks).length = ks.length := List.length_map _
  by_cases hc1 : p.size ≤ 2000 ∧ ks.length ≤ 1200
  case neg =>
    have hV : V = false := by
      rw [hsv]
      rcases Nat.lt_or_ge 2000 p.size with h | h
      · rw [decide_eq_false (by omega)]; rfl
      · rw [decide_eq_false (p := ks.length ≤ 1200) (by omega)]; simp
    have hWf := hW.trans (hna hV)
    repeat' first | refine ln ?_ | refine stp lay_ok rfl ?_ | refine fin ?_ | refine n_thn ?_ | refine e_thn ?_ | refine e_hit ?_ | refine r_thn ?_ | refine r_blk ?_ | refine e_rr ?_ | refine r_rr ?_ | refine .seq ?_ | refine reg ?_ | refine .block ?_ | refine .skip ?_ | refine .ret ?_ | refine .exit ?_ | refine cndT rfl ?_ | refine c_dec rfl (fun hc => ?_) (fun hc => ?_) | ((first | refine o_none rfl ?_ | refine o_yes rfl rfl rfl ?_); refine st_index (rowE ⟨p, z, ks⟩) lay_ok rfl rfl rfl rfl (by omega) hat ?_) | refine gd rfl rfl rfl (fun hg => ?_) (fun hg => ?_) | fail
    all_goals first
      | (exfalso; omega)
      | (refine f_r [] rfl trivial rfl ⟨?_, rfl⟩; rw [hWf]; rfl)
      | (exfalso; simp only at *; omega)
  rw [decide_eq_true hc1.1, decide_eq_true hc1.2, Bool.true_and, Bool.true_and] at hsv
  repeat' first | refine ln ?_ | refine stp lay_ok rfl ?_ | refine fin ?_ | refine n_thn ?_ | refine e_thn ?_ | refine e_hit ?_ | refine r_thn ?_ | refine r_blk ?_ | refine e_rr ?_ | refine r_rr ?_ | refine .seq ?_ | refine reg ?_ | refine .block ?_ | refine .skip ?_ | refine .ret ?_ | refine .exit ?_ | refine cndT rfl ?_ | refine c_dec rfl (fun hc => ?_) (fun hc => ?_) | ((first | refine o_none rfl ?_ | refine o_yes rfl rfl rfl ?_); refine st_index (rowE ⟨p, z, ks⟩) lay_ok rfl rfl rfl rfl (by omega) hat ?_) | refine gd rfl rfl rfl (fun hg => ?_) (fun hg => ?_) | fail
  all_goals first
    | (exfalso; omega)
    | (exfalso; simp only at *; omega)
    | skip
  refine lpR (fun j => j ≤ ks.length ∧ shortK (ks.take j) = true) (fun j => ks.length - j) (fun j => [(4, I j)]) (fun j => []) (0) [0, 3] [] [] rfl rfl rfl (.of [] (by (repeat' first | exact trivial | refine And.intro ?_ ?_ | rfl); first | done | fail) (by (repeat' first | exact trivial | refine And.intro ?_ ?_ | rfl); first | done | fail) rfl) ?_ ?_
  · exact ⟨Nat.zero_le _, rfl⟩
  rintro j ⟨j1, j2⟩
  refine nrm rfl rfl ?_
  by_cases hj : j < ks.length
  · have hatk := at_rowS hj
    have hak := all_take (p := fun k : ByteArray => decide (k.size ≤ 2000)) hj
    have hnk := all_not (p := fun k : ByteArray => decide (k.size ≤ 2000)) hj
    generalize ks[j] = x at *
    by_cases hx : x.size ≤ 2000
    · repeat' first | refine wr (by omega) ?_ | refine ln ?_ | refine stp lay_ok rfl ?_ | refine fin ?_ | refine n_thn ?_ | refine n_blk ?_ | refine e_thn ?_ | refine e_hit ?_ | refine r_thn ?_ | refine r_blk ?_ | refine e_rr ?_ | refine r_rr ?_ | refine .seq ?_ | refine reg ?_ | refine .block ?_ | refine .skip ?_ | refine .ret ?_ | refine .exit ?_ | refine c_dec rfl (fun hc => ?_) (fun hc => ?_) | (refine o_none rfl ?_; (first | refine st_index (rowE ⟨p, z, ks⟩) lay_ok rfl rfl rfl rfl (by omega) hat ?_ | refine st_index (rowS x) lay_ok rfl rfl rfl rfl (by omega) hatk ?_)) | fail
      all_goals first
        | (exfalso; omega)
        | (exfalso; simp only at *; omega)
        | skip
      refine n_rr (j + 1) ?_ (.of [] (by (repeat' first | exact trivial | refine And.intro ?_ ?_ | rfl); first | done | fail) (by (repeat' first | exact trivial | refine And.intro ?_ ?_ | rfl); first | done | fail) rfl) ?_
      · omega
      · refine ⟨hj, ?_⟩
        show (List.take (j + 1) ks).all (fun k : ByteArray => decide (k.size ≤ 2000)) = true
        rw [hak, show (List.take j ks).all (fun k : ByteArray => decide (k.size ≤ 2000)) = true from j2, decide_eq_true hx]; rfl
    · have hkf : shortK ks = false := hnk (decide_eq_false hx)
      have hWf := hW.trans (hna (hsv.trans hkf))
      repeat' first | refine wr (by omega) ?_ | refine ln ?_ | refine stp lay_ok rfl ?_ | refine fin ?_ | refine n_thn ?_ | refine n_blk ?_ | refine e_thn ?_ | refine e_hit ?_ | refine r_thn ?_ | refine r_blk ?_ | refine e_rr ?_ | refine r_rr ?_ | refine .seq ?_ | refine reg ?_ | refine .block ?_ | refine .skip ?_ | refine .ret ?_ | refine .exit ?_ | refine c_dec rfl (fun hc => ?_) (fun hc => ?_) | (refine o_none rfl ?_; (first | refine st_index (rowE ⟨p, z, ks⟩) lay_ok rfl rfl rfl rfl (by omega) hat ?_ | refine st_index (rowS x) lay_ok rfl rfl rfl rfl (by omega) hatk ?_)) | fail
      all_goals first
        | (exfalso; omega)
        | (exfalso; simp only at *; omega)
        | (refine f_r [] rfl trivial rfl ⟨?_, rfl⟩; rw [hWf]; rfl)
  · have hje : j = ks.length := by omega
    subst hje
    rw [List.take_length] at j2
    repeat' first | refine wr (by omega) ?_ | refine ln ?_ | refine stp lay_ok rfl ?_ | refine fin ?_ | refine n_thn ?_ | refine n_blk ?_ | refine e_thn ?_ | refine e_hit ?_ | refine e_rr ?_ | refine .seq ?_ | refine reg ?_ | refine .block ?_ | refine .skip ?_ | refine .exit ?_ | refine c_dec rfl (fun hc => ?_) (fun hc => ?_) | (refine o_none rfl ?_; refine st_index (rowE ⟨p, z, ks⟩) lay_ok rfl rfl rfl rfl (by omega) hat ?_) | fail
    all_goals first
      | (exfalso; omega)
      | (exfalso; simp only at *; omega)
      | skip
    refine n_rr (k + 1) ?_ (.of [] (by (repeat' first | exact trivial | refine And.intro ?_ ?_ | rfl); first | done | fail) (by (repeat' first | exact trivial | refine And.intro ?_ ?_ | rfl); first | done | fail) rfl) ?_
    · omega
    · exact ⟨hk, by rw [ha, h2, hsv, j2]; rfl⟩
theorem short_bounds' {l : List EV} (h : shortE l = true) : l.length ≤ 100 ∧ ∀ e ∈ l, e.path.size ≤ 2000 ∧ e.keys.length ≤ 1200 := by
  unfold shortE at h
  rw [Bool.and_eq_true, decide_eq_true_eq] at h
  refine ⟨h.1, fun e he => ?_⟩
  have := List.all_eq_true.1 h.2 e he
  unfold shortV at this
  simp only [Bool.and_eq_true, decide_eq_true_eq] at this
  exact this.1
end Go.Proofs.YtligkfhplinjlaaGreatDoorFn
namespace Go.Proofs.YtligkfhplinjlaaGreatDoorFn
open Go.Proofs.YtligkfhplinjlaaGreatDoorAl Go.Proofs.Tryz
attribute [local irreducible] IntKind.wrap CodeOk OpsL OpG ACalls thn inBlk rndR cutR WkR Wk fnR DW ExtOk partsOf
theorem b19 : HasBody prog 19 := ⟨f19, func19, Option.some_ne_none _, by decide⟩
def shortN (l : List NV) : Bool := decide (l.length ≤ 100) && l.all fun s => shortE s.entries && decide (s.name.size ≤ 2000)
theorem short9_ok (l : List NV) : ACalls prog 19 0 [.st (.sl 4 (l.map rowN))] [] fun r h => r = B (shortN l) ∧ h = [] := by
  have hm : (List.map rowN l).length = l.length := List.length_map _
  have hW : shortN l = (decide (l.length ≤ 100) && l.all fun s => shortE s.entries && decide (s.name.size ≤ 2000)) := rfl
  generalize shortN l = W at *
  refine fnC lay_ok func19 rfl rfl rfl rfl rfl ?_
  repeat' first | refine ln ?_ | refine stp lay_ok rfl ?_ | refine fin ?_ | refine n_thn ?_ | refine r_thn ?_ | refine .seq ?_ | refine reg ?_ | refine .block ?_ | refine .skip ?_ | refine .ret ?_ | refine c_dec rfl (fun hc => ?_) (fun hc => ?_) | fail
  · refine f_r [] rfl trivial rfl ⟨?_, rfl⟩
    rw [hW, decide_eq_false (by omega)]; rfl
  have h100 : l.length ≤ 100 := by omega
  rw [decide_eq_true h100, Bool.true_and] at hW
  refine lpR (fun k => k ≤ l.length ∧ (l.take k).all (fun s => shortE s.entries && decide (s.name.size ≤ 2000)) = true) (fun k => l.length - k) (fun k => [(3, I k)]) (fun k => []) (0) [0] [] [] rfl rfl rfl (.of [] (by (repeat' first | exact trivial | refine And.intro ?_ ?_ | rfl); first | done | fail) (by (repeat' first | exact trivial | refine And.intro ?_ ?_ | rfl); first | done | fail) rfl) ?_ ?_
  · exact ⟨Nat.zero_le _, rfl⟩
  rintro k ⟨h1, h2⟩
  refine nrm rfl rfl ?_
  by_cases hk : k < l.length
  case neg =>
    have hke : k = l.length := by omega
    subst hke
    rw [List.take_length] at h2
    repeat' first | refine ln ?_ | refine stp lay_ok rfl ?_ | refine fin ?_ | refine n_thn ?_ | refine e_thn ?_ | refine e_hit ?_ | refine e_rr ?_ | refine .seq ?_ | refine reg ?_ | refine .block ?_ | refine .skip ?_ | refine .ret ?_ | refine .exit ?_ | refine c_dec rfl (fun hc => ?_) (fun hc => ?_) | fail
    all_goals first
      | (exfalso; omega)
      | (refine f_r [] rfl trivial rfl ⟨?_, rfl⟩; rw [hW, h2]; rfl)
  have hat : (l.map rowN)[((k : Nat) : Int).toNat]? = some (rowN l[k]) := by simp [hk]
  have ha := all_take (p := fun s : NV => shortE s.entries && decide (s.name.size ≤ 2000)) hk
  have hna := all_not (p := fun s : NV => shortE s.entries && decide (s.name.size ≤ 2000)) hk
  have hs := short4_ok l[k].entries
  generalize l[k] = s at *
  obtain ⟨c, n, d, es⟩ := s
  simp only at ha hna hs
  cases hb : shortE es <;> rw [hb] at hs ha hna
  · have hWf := hW.trans (hna rfl)
    repeat' first | refine ln ?_ | refine stp lay_ok rfl ?_ | refine fin ?_ | refine n_thn ?_ | refine e_thn ?_ | refine e_hit ?_ | refine r_thn ?_ | refine r_blk ?_ | refine e_rr ?_ | refine r_rr ?_ | refine .seq ?_ | refine reg ?_ | refine .block ?_ | refine .skip ?_ | refine .ret ?_ | refine .exit ?_ | refine cndT rfl ?_ | refine c_dec rfl (fun hc => ?_) (fun hc => ?_) | (refine o_none rfl ?_; (first | refine st_index (rowN ⟨c, n, d, es⟩) lay_ok rfl rfl rfl rfl (by omega) hat ?_ | refine st_pure (hs) b39 rfl rfl rfl rfl ?_)) | fail
    all_goals first
      | (exfalso; omega)
      | (refine f_r [] rfl trivial rfl ⟨?_, rfl⟩; rw [hWf]; rfl)
  · by_cases hn : n.size ≤ 2000
    · repeat' first | refine wr (by omega) ?_ | refine ln ?_ | refine stp lay_ok rfl ?_ | refine fin ?_ | refine n_thn ?_ | refine n_blk ?_ | refine e_thn ?_ | refine e_hit ?_ | refine r_thn ?_ | refine r_blk ?_ | refine e_rr ?_ | refine r_rr ?_ | refine .seq ?_ | refine reg ?_ | refine .block ?_ | refine .skip ?_ | refine .ret ?_ | refine .exit ?_ | refine c_dec rfl (fun hc => ?_) (fun hc => ?_) | ((first | refine o_none rfl ?_ | refine o_yes rfl rfl rfl ?_); (first | refine st_index (rowN ⟨c, n, d, es⟩) lay_ok rfl rfl rfl rfl (by omega) hat ?_ | refine st_pure (hs) b39 rfl rfl rfl rfl ?_)) | fail
      all_goals first
        | (exfalso; omega)
        | (exfalso; simp only at *; omega)
        | skip
      refine n_rr (k + 1) ?_ (.of [] (by (repeat' first | exact trivial | refine And.intro ?_ ?_ | rfl); first | done | fail) (by (repeat' first | exact trivial | refine And.intro ?_ ?_ | rfl); first | done | fail) rfl) ?_
      · omega
      · exact ⟨hk, by rw [ha, h2, decide_eq_true hn]; rfl⟩
    · have hWf := hW.trans (hna (by rw [decide_eq_false hn]; rfl))
      repeat' first | refine wr (by omega) ?_ | refine ln ?_ | refine stp lay_ok rfl ?_ | refine fin ?_ | refine n_thn ?_ | refine n_blk ?_ | refine e_thn ?_ | refine e_hit ?_ | refine r_thn ?_ | refine r_blk ?_ | refine e_rr ?_ | refine r_rr ?_ | refine .seq ?_ | refine reg ?_ | refine .block ?_ | refine .skip ?_ | refine .ret ?_ | refine .exit ?_ | refine c_dec rfl (fun hc => ?_) (fun hc => ?_) | ((first | refine o_none rfl ?_ | refine o_yes rfl rfl rfl ?_); (first | refine st_index (rowN ⟨c, n, d, es⟩) lay_ok rfl rfl rfl rfl (by omega) hat ?_ | refine st_pure (hs) b39 rfl rfl rfl rfl ?_)) | fail
      all_goals first
        | (exfalso; omega)
        | (exfalso; simp only at *; omega)
        | (refine f_r [] rfl trivial rfl ⟨?_, rfl⟩; rw [hWf]; rfl)
end Go.Proofs.YtligkfhplinjlaaGreatDoorFn
namespace Go.Proofs.YtligkfhplinjlaaGreatDoorFn
open Go.Proofs.YtligkfhplinjlaaGreatDoorAl Go.Proofs.Tryz
attribute [local irreducible] IntKind.wrap CodeOk OpsL OpG ACalls thn inBlk rndR cutR WkR Wk fnR DW ExtOk partsOf
/-! ### what any operations come to -/
theorem shortN_bounds {l : List NV} (h : shortN l = true) : l.length ≤ 100 ∧ ∀ s ∈ l, s.name.size ≤ 2000 ∧ s.entries.length ≤ 100 ∧ ∀ e ∈ s.entries, e.path.size ≤ 2000 ∧ e.keys.length ≤ 1200 := by
  unfold shortN at h
  rw [Bool.and_eq_true, decide_eq_true_eq] at h
  refine ⟨h.1, fun s hs => ?_⟩
  have := List.all_eq_true.1 h.2 s hs
  rw [Bool.and_eq_true, decide_eq_true_eq] at this
  obtain ⟨b1, b2⟩ := short_bounds' this.1
  exact ⟨this.2, b1, b2⟩
theorem shortN_fit {l : List NV} (h : shortN l = true) : l.length ≤ 4000000000 ∧ ∀ s ∈ l, s.fit := by
  obtain ⟨h1, h2⟩ := shortN_bounds h
  refine ⟨by omega, fun s hs => ?_⟩
  obtain ⟨a1, a2, a3⟩ := h2 s hs
  exact ⟨by omega, by omega, fun e he => by obtain ⟨b1, b2⟩ := a3 e he; exact ⟨by omega, by omega⟩⟩
set_option maxHeartbeats 8000000 in
set_option maxRecDepth 4000 in
theorem lawPlays_ok (l0 : List NV) (ds : List DV) : ACalls prog 8 0 [.st (.sl 4 (l0.map rowN)), .st (.sl 6 (ds.map rowD))] [] fun r h => r = B true ∧ h = [] := by
  have hup := up9_ok
  have hsh := shortD_ok ds
  have hsn := short9_ok l0
  have hm : (List.map rowD ds).length = ds.length := List.length_map _
  by_cases hSS : shortD ds = true ∧ shortN l0 = true
  case neg =>
    refine fnC lay_ok func8 rfl rfl rfl rfl rfl ?_
    cases hS : shortD ds <;> cases hM : shortN l0 <;> rw [hS] at hsh <;> rw [hM] at hsn
    all_goals first
      | (exfalso; exact hSS ⟨hS, hM⟩)
      | skip
    all_goals
      repeat' first | refine stp lay_ok rfl ?_ | refine fin ?_ | refine n_thn ?_ | refine r_thn ?_ | refine .seq ?_ | refine reg ?_ | refine .ret ?_ | refine cndT rfl ?_ | (refine o_none rfl ?_; (first | refine st_pure (hup) b11 rfl rfl rfl rfl ?_ | refine st_pure (hsh) b12 rfl rfl rfl rfl ?_ | refine st_pure (hsn) b19 rfl rfl rfl rfl ?_)) | fail
      refine f_r [] rfl trivial rfl ⟨?_, rfl⟩
      rfl
  obtain ⟨hS, hM⟩ := hSS
  rw [hS] at hsh
  rw [hM] at hsn
  obtain ⟨f1, f2⟩ := shortN_fit hM
  obtain ⟨b1, b2⟩ := shortN_bounds hM
  have hmay := refMay_ok l0 f1 f2
  cases hB : fromB l0 with
  | false =>
    rw [hB] at hmay
    have hno := from_no l0 f1 f2 hB
    refine fnC lay_ok func8 rfl rfl rfl rfl rfl ?_
    repeat' first | refine stp lay_ok rfl ?_ | refine fin ?_ | refine n_thn ?_ | refine r_thn ?_ | refine .seq ?_ | refine reg ?_ | refine .skip ?_ | refine .ret ?_ | refine cndT rfl ?_ | refine cndF rfl ?_ | (refine o_none rfl ?_; (first | refine st_pure (hup) b11 rfl rfl rfl rfl ?_ | refine st_pure (hsh) b12 rfl rfl rfl rfl ?_ | refine st_pure (hsn) b19 rfl rfl rfl rfl ?_ | refine st_pure (hno) b20 rfl rfl rfl rfl ?_ | refine st_pure (hmay) b21 rfl rfl rfl rfl ?_)) | fail
    refine f_r [] rfl trivial rfl ⟨?_, rfl⟩
    rfl
  | true =>
  rw [hB] at hmay
  have hfr := fromC_ok l0 f1 f2 hB
  have hcp := refCopy9_ok l0 (by omega) (fun s hs => by have := (b2 s hs).2.1; omega) (fun s hs e he => by have := ((b2 s hs).2.2 e he).2; omega)
  have hC0 := (fromB_iff l0).1 hB
  refine fnC lay_ok func8 rfl rfl rfl rfl rfl ?_
  repeat' first | refine stp lay_ok rfl ?_ | refine fin ?_ | refine n_thn ?_ | refine .seq ?_ | refine reg ?_ | refine .block ?_ | refine .skip ?_ | refine cndF rfl ?_ | (refine o_none rfl ?_; (first | refine st_pure (hup) b11 rfl rfl rfl rfl ?_ | refine st_pure (hsh) b12 rfl rfl rfl rfl ?_ | refine st_pure (hsn) b19 rfl rfl rfl rfl ?_ | refine st_callF 2 (hfr) b20 rfl rfl rfl rfl rfl rfl (by (repeat' first | exact trivial | refine And.intro ?_ ?_ | rfl); first | done | fail) rfl ?_ | refine st_pure (hmay) b21 rfl rfl rfl rfl ?_ | refine st_callF 1 (hcp) b22 rfl rfl rfl rfl rfl rfl (by (repeat' first | exact trivial | refine And.intro ?_ ?_ | rfl); first | done | fail) rfl ?_)) | fail
  all_goals first
    | (exfalso; omega)
    | skip
  clear hfr hcp hmay hsh hsn hup
  refine lpR (fun (j, l, b) => j ≤ ds.length ∧ j ≤ 80 ∧ CatP l ∧ (b = true → l = [])) (fun (j, l, b) => ds.length - j) (fun (j, l, b) => [(12, I j)]) (fun (j, l, b) => [(0, .cells [.lsl 4 4 (gN b) (l.map rowN).length]), (4, .arr 4 (l.map rowN ++ gR b)), (3, .cells [.lsl 5 4 0 (l.map rowN).length]), (5, .arr 4 (l.map rowN))]) ((0, l0, false)) [1, 5, 8, 11] [0, 3] [1, 2] rfl rfl rfl (.of [1, 2] (by (repeat' first | exact trivial | refine And.intro ?_ ?_ | rfl); first | done | fail) (by (repeat' first | exact trivial | refine And.intro ?_ ?_ | rfl); first | done | fail) rfl) ?_ ?_
  · exact ⟨Nat.zero_le _, Nat.zero_le _, hC0, by simp⟩
  rintro ⟨j, l, b⟩ ⟨j1, j2, g3, g4⟩
  refine nrm rfl rfl ?_
  by_cases hj : j < ds.length ∧ j < 80
  case neg =>
    repeat' first | refine ln ?_ | refine stp lay_ok rfl ?_ | refine fin ?_ | refine n_thn ?_ | refine e_thn ?_ | refine e_hit ?_ | refine e_rr ?_ | refine .seq ?_ | refine reg ?_ | refine .block ?_ | refine .skip ?_ | refine .ret ?_ | refine .exit ?_ | refine cndF rfl ?_ | refine c_dec rfl (fun hc => ?_) (fun hc => ?_) | refine gd rfl rfl rfl (fun hg => ?_) (fun hg => ?_) | fail
    all_goals first
      | (exfalso; omega)
      | skip
    all_goals
      refine f_r [] rfl trivial rfl ⟨?_, rfl⟩
      rfl
  obtain ⟨hj, hj80⟩ := hj
  have hat : (ds.map rowD)[((j : Nat) : Int).toNat]? = some (rowD ds[j]) := by simp [hj]
  have hfit := shortD_at hS hj hj80
  generalize ds[j] = d at *
  obtain ⟨c, o⟩ := d
  simp only at hfit
  have hdo := do_ok l b c o g4 g3 hfit
  have hdo' := refDo_ok l c o g3 hfit
  have hC2 := doP_cat c o g3
  have hB2 := fun h => doB_nil (c := c) (o := o) g4 h
  have hal := alike_ok (doP l c o).2 (doP l c o).2 (doP_fit c o g3) (doP_fit c o g3)
  rw [alike_same] at hal
  generalize doP l c o = R at *
  generalize doB l b c o = b2 at *
  obtain ⟨l2, a⟩ := R
  simp only at hC2 hB2 hdo hdo' hal
  obtain ⟨c1, c2⟩ := catP_fits hC2
  have hsp := snapsX_ok l2 b2 hB2 c1 c2
  have hsame := same9O_ok l2 l2 c1 c1 c2 c2
  rw [decide_eq_true rfl] at hsame
  obtain ⟨kd, nm, p, oks, n⟩ := o
  obtain ⟨xc, xn, xs, xk, xe⟩ := a
  repeat' first | refine ln ?_ | refine stp lay_ok rfl ?_ | refine fin ?_ | refine n_thn ?_ | refine e_thn ?_ | refine e_hit ?_ | refine e_rr ?_ | refine .seq ?_ | refine reg ?_ | refine .block ?_ | refine .skip ?_ | refine .ret ?_ | refine .exit ?_ | refine cndF rfl ?_ | refine c_dec rfl (fun hc => ?_) (fun hc => ?_) | refine gd rfl rfl rfl (fun hg => ?_) (fun hg => ?_) | fail
  all_goals first
    | (exfalso; omega)
    | skip
  refine dreg [(0, [], [67, 68, 69, 70, 71, 72, 73, 74, 75, 76, 13]), (1, [], [66, 68, 72, 73, 74, 75, 76, 13]), (2, [], [66, 67, 72, 73, 74, 75, 76, 13]), (3, [1, 2], [66, 72, 73, 74, 75, 76, 13]), (4, [1, 2, 3], [66, 72, 73, 74, 75, 76, 13]), (5, [1, 2, 3, 4], [66, 72, 73, 74, 75, 76, 13]), (6, [], [66, 67, 68, 69, 70, 71, 73, 13]), (7, [], [66, 67, 68, 69, 70, 71, 72, 13]), (8, [6, 7], [66, 67, 68, 69, 70, 71, 13]), (9, [6, 7, 8], [66, 67, 68, 69, 70, 71, 13]), (10, [6, 7, 8, 9], [66, 67, 68, 69, 70, 71, 13]), (11, [0, 1, 2, 3, 4, 5, 6, 7, 8, 9, 10], [13]), (12, [], [66, 67, 68, 69, 70, 71, 72, 73, 74, 75, 76, 77]), (13, [0, 1, 2, 3, 4, 5, 6, 7, 8, 9, 10, 11, 12], [])] mixed (by kernel_rfl) ?_
  repeat' first | refine n_thn ?_ | refine .seq ?_ | refine dws lay_ok rfl rfl rfl rfl rfl rfl rfl ?_ | refine dwu lay_ok rfl rfl rfl rfl rfl rfl rfl rfl rfl ?_ | refine dw_end ?_ | refine dwn lay_ok rfl rfl rfl rfl rfl ?_ | refine dwG [0,4] rfl rfl rfl rfl (by refine st_callG [0,4] 1 (hdo) b14 rfl rfl rfl rfl rfl (by (repeat' first | exact trivial | refine And.intro ?_ ?_ | rfl); first | done | fail) rfl ?_; exact fin rfl) rfl rfl rfl rfl rfl ?_ | refine dwb rfl rfl rfl rfl rfl (by (first | refine st_index (rowD ⟨c, kd, nm, p, oks, n⟩) lay_ok rfl rfl rfl rfl (by omega) hat ?_ | refine st_callG [0,4] 1 (hdo) b14 rfl rfl rfl rfl rfl (by (repeat' first | exact trivial | refine And.intro ?_ ?_ | rfl); first | done | fail) rfl ?_); exact fin rfl) rfl rfl ?_ | fail
  refine dreg [(0, [], [79, 80, 81, 82, 83, 84, 85, 86, 87, 88, 89, 90]), (1, [], [78, 80, 81, 82, 83, 84, 85, 86, 87, 88, 89]), (2, [], [78, 79, 81, 85, 86, 87, 88, 89]), (3, [], [78, 79, 80, 85, 86, 87, 88, 89]), (4, [2, 3], [78, 79, 85, 86, 87, 88, 89]), (5, [2, 3, 4], [78, 79, 85, 86, 87, 88, 89]), (6, [2, 3, 4, 5], [78, 79, 85, 86, 87, 88, 89]), (7, [], [78, 79, 80, 81, 82, 83, 84, 86]), (8, [], [78, 79, 80, 81, 82, 83, 84, 85]), (9, [7, 8], [78, 79, 80, 81, 82, 83, 84]), (10, [7, 8, 9], [78, 79, 80, 81, 82, 83, 84]), (11, [7, 8, 9, 10], [78, 79, 80, 81, 82, 83, 84]), (12, [1, 2, 3, 4, 5, 6, 7, 8, 9, 10, 11], [78]), (13, [0, 1, 2, 3, 4, 5, 6, 7, 8, 9, 10, 11, 12], []), (14, [0, 1, 2, 3, 4, 5, 6, 7, 8, 9, 10, 11, 12, 13], [])] mixed (by kernel_rfl) ?_
  repeat' first | refine n_thn ?_ | refine .seq ?_ | refine dws lay_ok rfl rfl rfl rfl rfl rfl rfl ?_ | refine dw_end ?_ | refine dwG [3,5] rfl rfl rfl rfl (by refine st_callG [3,5] 1 (hdo') b23 rfl rfl rfl rfl rfl (by (repeat' first | exact trivial | refine And.intro ?_ ?_ | rfl); first | done | fail) rfl ?_; exact fin rfl) rfl rfl rfl rfl rfl ?_ | refine dwb rfl rfl rfl rfl rfl (by (first | refine st_index (rowD ⟨c, kd, nm, p, oks, n⟩) lay_ok rfl rfl rfl rfl (by omega) hat ?_ | refine st_callG [3,5] 1 (hdo') b23 rfl rfl rfl rfl rfl (by (repeat' first | exact trivial | refine And.intro ?_ ?_ | rfl); first | done | fail) rfl ?_ | refine st_pure (hal) b15 rfl rfl rfl rfl ?_); exact fin rfl) rfl rfl ?_ | fail
  refine dreg [(0, [], []), (1, [0], []), (2, [0, 1], []), (3, [0, 1, 2], [97, 98, 99, 100]), (4, [0, 1, 2, 3], [97, 98, 99, 100]), (5, [0, 1, 2], [95, 96]), (6, [0, 1, 2, 5], [95, 96]), (7, [0, 1, 2, 5, 6], [95, 96]), (8, [0, 1, 2, 5, 6, 7], [95, 96]), (9, [0, 1, 2, 3, 4, 5, 6, 7, 8], []), (10, [0, 1, 2, 3, 4, 5, 6, 7, 8, 9], []), (11, [0, 1, 2, 3, 4, 5, 6, 7, 8, 9, 10], [])] mixed (by kernel_rfl) ?_
  repeat' first | refine wr (by omega) ?_ | refine stp lay_ok rfl ?_ | refine fin ?_ | refine n_thn ?_ | refine n_blk ?_ | refine reg ?_ | refine .skip ?_ | refine cndF rfl ?_ | refine dws lay_ok rfl rfl rfl rfl rfl rfl rfl ?_ | refine dw_end ?_ | refine dwG [0,6] rfl rfl rfl rfl (by refine st_callK [0,6] (hsp) b17 rfl rfl rfl rfl rfl (by (repeat' first | exact trivial | refine And.intro ?_ ?_ | rfl); first | done | fail) ?_; exact fin rfl) rfl rfl rfl rfl rfl ?_ | refine dwG [8] rfl rfl rfl rfl (by refine st_callK [8] (hsame) b18 rfl rfl rfl rfl rfl (by (repeat' first | exact trivial | refine And.intro ?_ ?_ | rfl); first | done | fail) ?_; exact fin rfl) rfl rfl rfl rfl rfl ?_ | fail
  refine n_rr ((j + 1, l2, b2)) ?_ (.of [6, 8] (by (repeat' first | exact trivial | refine And.intro ?_ ?_ | rfl | exact congrArg (fun z : Int => some (AV.st (.int .i64 z))) (show (j : Int) + 1 = ((j + 1 : Nat) : Int) by omega)); first | done | fail) (by (repeat' first | exact trivial | refine And.intro ?_ ?_ | rfl | exact congrArg (fun z : Int => some (AV.st (.int .i64 z))) (show (j : Int) + 1 = ((j + 1 : Nat) : Int) by omega)); first | done | fail) rfl) ?_
  · show ds.length - (j + 1) < ds.length - j; omega
  · exact ⟨hj, hj80, hC2, hB2⟩
end Go.Proofs.YtligkfhplinjlaaGreatDoorFn
namespace Go.Proofs.YtligkfhplinjlaaGreatDoor
open Go.Proofs.YtligkfhplinjlaaGreatDoorAl Go.ChangeAt Go.RowKit
open Go.Proofs.YtligkfhplinjlaaGreatDoorFn
theorem own : ownKnob Tryz.prog.godebug = none := by kernel_rfl
theorem laidOut : laidOutB Tryz.prog = true := by kernel_rfl
def pars : List Par := [⟨42, false, ΦL 4 56 ΦN⟩, ⟨22, false, ΦL 6 80 ΦD⟩]
theorem pars_ok : ParsOk Tryz.prog pars :=
  ⟨rdLN, ⟨_, Tryz.underlying42, rfl⟩, by kernel_rfl, of_decide_eq_true (by kernel_rfl),
   rdLD, ⟨_, Tryz.underlying22, rfl⟩, by kernel_rfl, of_decide_eq_true (by kernel_rfl), trivial⟩
theorem law_ok : LawOk Tryz.prog 8 pars := by
  rintro svs ⟨_, _, rfl, ⟨r0, h0, hr0, hl0⟩, _, _, rfl, ⟨r1, h1, hr1, hl1⟩, rfl⟩
  cases h0
  obtain ⟨x0, rfl, hm0⟩ := rows_map (f := rowN) (Ok := NV.inMem) (fun row hm => ofN (hr0 row hm))
  simp only [List.length_map] at hl0
  cases h1
  obtain ⟨x1, rfl, hm1⟩ := rows_map (f := rowD) (Ok := DV.inMem) (fun row hm => ofD (hr1 row hm))
  simp only [List.length_map] at hl1
  have hreach : reachBytes ≤ 140737488351232 := by decide
  exact lawPlays_ok x0 x1
set_option maxRecDepth 100000 in
theorem law_lift (os : Os) (started : os.Started) (H : Type) (enc : TypeId × Value → H) :
    ReturnsInHanded {} Tryz.checked os 8 .any (fun w args => (Rows.catalogPlaysSpec.pre enc Tryz.prog Tryz.f8 [] false w args ∧ laidMetH Tryz.prog Rows.catalogPlaysRow.laid w) ∧ sizedMet enc Tryz.prog Tryz.f8 (OpenSpec.ofChange Rows.catalogPlaysSpec) false w args) (Rows.catalogPlaysSpec.post enc Tryz.prog Tryz.f8 false true false false) :=
  law_liftedL (C := Tryz.checked) (ps := pars) own started (by kernel_rfl) Tryz.func8
    (ChangeSpec.witness_shaped (enc := enc) (C := Tryz.checked) (os := os) (X := fun w _ => laidMetH Tryz.prog Rows.catalogPlaysRow.laid w) false (World.laidAll Tryz.prog os Rows.catalogPlaysRow.laid) #[.slice none 0 0, .slice none 0 0] 8 (World.laidAll_os _ _ _)
      (World.shaped_of_ZipB (by kernel_rfl) (by kernel_rfl)) (by kernel_rfl) (by kernel_rfl) (by kernel_rfl)
      (by rw [MakeChecks.laidMetH_plain _ _ _ (by kernel_rfl)]; exact laidMet_laidAll _ (by kernel_rfl) (by kernel_rfl)))
    laidOut rfl rfl Tryz.underlying4 rfl
    (fun ds hds => by
      match ds, hds with
      | [_, _], _ => rfl) pars_ok law_ok
theorem law_over : Rows.catalogPlaysRow.holds Tryz.pinned (OpenSpec.ofChange Rows.catalogPlaysSpec) :=
  OpenClaim.holds_of_wide 8 Tryz.f8 rfl rfl rfl rfl rfl rfl rfl ⟨rfl, rfl, rfl, rfl, rfl⟩ rfl rfl rfl rfl rfl (by kernel_rfl) Tryz.func8 (by kernel_rfl)
    (of_decide_eq_true (by kernel_rfl)) (by unfold Func.isWrapper; first | (rw [if_pos (by decide +kernel)]; kernel_rfl) | (rw [if_neg (by decide +kernel)]; exact ⟨rfl, rfl⟩))
    (fun os started H enc _ => law_lift os started H enc)
theorem CatalogPlays_holds : Rows.CatalogPlaysCardSaid :=
  Claim7.holds_tied_plain_at .later [] [.data, .pinned] true Rows.catalogPlaysCard.stood.harness Rows.catalogPlaysCard.stood.looks law_over (fun _ h => by cases h) (by kernel_rfl) (fun _ h => by cases h) catalogPlays_row_tie rfl ⟨rfl, rfl⟩ (by kernel_rfl) rfl
    (fun f fn hf hfn => by
      obtain rfl : f = 8 := Option.some.inj ((show Tryz.prog.funcNamed "becket/becketlaw09.CatalogPlays" = some 8 by kernel_rfl).symm.trans hf) |>.symm
      obtain rfl : fn = Tryz.f8 := (Option.some.inj (Tryz.func8.symm.trans hfn)).symm
      exact ⟨by kernel_rfl, fun j t ht => by
        have hm : t ∈ ([42, 22] : List Nat) := by
          have e := Array.mem_of_getElem? ht
          rw [Tryz.params8] at e
          simpa using e
        have hall : (([42, 22] : List Nat).all fun u => !Tryz.prog.wantsStandIn u) = true := by kernel_rfl
        exact (show Tryz.prog.wantsStandIn t = false by simpa using List.all_eq_true.1 hall t hm)⟩)
    (by kernel_rfl)
#print axioms CatalogPlays_holds
end Go.Proofs.YtligkfhplinjlaaGreatDoor
