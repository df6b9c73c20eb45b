/- The law CatalogFrom: for every input it says true: A catalog of a catalog's snapshots goes on as it does. No condition. -/
import Derived.Test.YtligkfhplinjlaaGreatDoorP3
import Derived.Test.YtligkfhplinjlaaGreatDoorRows
import Derived.Test.YtligkfhplinjlaaGreatDoorTie
import Derived.Test.YtligkfhplinjlaaGreatDoorCards
set_option linter.all false
namespace Go.Proofs.YtligkfhplinjlaaGreatDoorFn
open Go.Proofs.YtligkfhplinjlaaGreatDoorAl Go.Proofs.Tryz
attribute [local irreducible] IntKind.wrap CodeOk OpsL OpG ACalls thn inBlk rndR cutR WkR Wk fnR DW ExtOk partsOf
theorem b15 : HasBody prog 15 := ⟨f15, func15, Option.some_ne_none _, by decide⟩
/-! ### answers alike; a catalog of snapshots -/
def alikeB (a b : NS) : Bool := decide (a.code = b.code) && decide (a.n = b.n) && decide (a.names = b.names) && decide (a.keys = b.keys) && decide (a.entries = b.entries)
def NS.fit (a : NS) : Prop := a.names.length ≤ 4000000000 ∧ a.keys.length ≤ 4000000000 ∧ a.entries.length ≤ 4000000000 ∧ ∀ e ∈ a.entries, e.keys.length ≤ 4000000000
set_option maxHeartbeats 2000000 in
theorem alike_ok (a b : NS) (ha : a.fit) (hb : b.fit) : ACalls prog 15 0 [ansS a, ansS b] [] fun r h => r = B (alikeB a b) ∧ h = [] := by
  obtain ⟨a1, a2, a3, a4⟩ := ha
  obtain ⟨b1, b2, b3, b4⟩ := hb
  have h1 := same3_ok a.names b.names a1 b1
  have h2 := same3_ok a.keys b.keys a2 b2
  have h3 := sameAll_ok a.entries b.entries a3 b3 a4 b4
  have he : alikeB a b = (decide (a.code = b.code) && decide (a.n = b.n) && decide (a.names = b.names) && decide (a.keys = b.keys) && decide (a.entries = b.entries)) := rfl
  generalize decide (a.names = b.names) = X at *
  generalize decide (a.keys = b.keys) = Y at *
  generalize decide (a.entries = b.entries) = Z at *
  generalize alikeB a b = W at *
  obtain ⟨ac, an, ans, aks, aes⟩ := a
  obtain ⟨bc, bn, bns, bks, bes⟩ := b
  simp only at h1 h2 h3 he
  refine fnC lay_ok func15 rfl rfl rfl rfl rfl ?_
  cases X <;> cases Y <;> cases Z
  all_goals
    repeat' first | refine wr (by omega) ?_ | refine ln ?_ | refine stp lay_ok rfl ?_ | refine fin ?_ | refine n_thn ?_ | refine n_blk ?_ | refine e_thn ?_ | refine e_hit ?_ | refine e_miss rfl ?_ | refine r_thn ?_ | refine r_blk ?_ | refine e_rr ?_ | refine r_rr ?_ | refine e_cr ?_ | refine r_cr ?_ | refine .seq ?_ | refine reg ?_ | refine .block ?_ | refine .skip ?_ | refine .ret ?_ | refine .exit ?_ | refine cndT rfl ?_ | refine cndF rfl ?_ | refine c_dec rfl (fun hc => ?_) (fun hc => ?_) | refine c_ndec rfl (fun hc => ?_) (fun hc => ?_) | refine cnd rfl (fun hc => ?_) (fun hc => ?_) | ((first | refine o_none rfl ?_ | refine o_none_ ?_ | refine o_yes rfl rfl rfl ?_ | refine o_yes_ rfl rfl ?_); first | refine st_pure (h1) b36 rfl rfl rfl rfl ?_ | refine st_pure (h2) b36 rfl rfl rfl rfl ?_ | refine st_pure (h3) b37 rfl rfl rfl rfl ?_) | refine gd rfl rfl rfl (fun hg => ?_) (fun hg => ?_) | refine gn rfl rfl rfl (fun hg => ?_) (fun hg => ?_)
    all_goals
      refine f_r [] rfl trivial rfl ⟨?_, rfl⟩
      rw [he]
      clear h1 h2 h3 he
      first
        | (simp_all [retOf, B]; done)
        | rfl
theorem alike_same (a : NS) : alikeB a a = true := by
  unfold alikeB
  simp
theorem doP_fit {l : List NV} (c : Int) (o : OV) (h : CatP l) : (doP l c o).2.fit := by
  have hl := catP_len h
  have no : ∀ n, (noA n).fit := fun n => ⟨by simp [noA], by simp [noA], by simp [noA], by simp [noA]⟩
  unfold doP
  split
  · exact no _
  split
  · split
    · exact no _
    split
    · exact no _
    · exact no _
  split
  · refine ⟨?_, by simp, by simp, by simp⟩
    show (List.map _ _).length ≤ _
    rw [List.length_map]
    have := List.length_filter_le (isO c true) l
    omega
  split
  · exact ⟨by simp, by simp, by simp, by simp⟩
  split
  · refine ⟨by simp, ?_, by simp, by simp⟩
    have h1 := allS_len h
    obtain ⟨_, _, h3⟩ := addF_facts (fun _ => True) (allS l) [] .nil (by simp) (by simp)
    show (heldS l).length ≤ _
    unfold heldS sortS
    rw [List.length_map, List.length_mergeSort, List.length_map]
    simp only [List.length_nil] at h3
    omega
  split
  · exact no _
  split
  · rename_i s hs
    have hS : SnapP s := h.one s (List.mem_of_getElem? hs)
    obtain ⟨_, z2, z3⟩ := hS.small
    unfold oneP
    split
    · unfold addP
      repeat' split
      all_goals exact no _
    split
    · split <;> exact no _
    split
    · split <;> exact no _
    split
    · exact no _
    split
    · simp only
      split
      · rename_i e he
        have hm : e ∈ s.entries := List.mem_of_find?_eq_some he
        have := (z3 e hm).2.1
        exact ⟨by simp, by show e.keys.length ≤ _; omega, by simp, by simp⟩
      · exact no _
    · exact ⟨by simp, by simp, by show s.entries.length ≤ _; omega, fun e he => by have := (z3 e he).2.1; omega⟩
  · exact no _
theorem snapshotsOO_ok (b : List NV) (hb : b.length ≤ 4000000000) (hk : ∀ s ∈ b, s.fit) : ACalls prog 38 0 [.st (.sl 4 (b.map rowN))] [] fun r h => r = .lsl 0 4 0 (b.map rowN).length ∧ h = [(0, .arr 4 (b.map rowN))] := by
  refine fnC lay_ok func38 rfl rfl rfl rfl rfl ?_
  have hm : (List.map rowN b).length = b.length := List.length_map _
  have h1 := cloneN_ok b hb
  repeat' first | refine wr (by omega) ?_ | refine ln ?_ | refine stp lay_ok rfl ?_ | refine fin ?_ | refine n_thn ?_ | refine n_blk ?_ | refine e_thn ?_ | refine e_hit ?_ | refine e_miss rfl ?_ | refine r_thn ?_ | refine r_blk ?_ | refine e_rr ?_ | refine r_rr ?_ | refine e_cr ?_ | refine r_cr ?_ | refine .seq ?_ | refine reg ?_ | refine .block ?_ | refine .skip ?_ | refine .ret ?_ | refine .exit ?_ | refine cndT rfl ?_ | refine cndF rfl ?_ | refine c_dec rfl (fun hc => ?_) (fun hc => ?_) | refine c_ndec rfl (fun hc => ?_) (fun hc => ?_) | refine cnd rfl (fun hc => ?_) (fun hc => ?_) | ((first | refine o_none rfl ?_ | refine o_none_ ?_ | refine o_yes rfl rfl rfl ?_ | refine o_yes_ rfl rfl ?_); first | refine st_callF 1 (h1) b70 rfl rfl rfl rfl rfl rfl (by (repeat' first | exact trivial | refine And.intro ?_ ?_ | rfl); first | done | fail) rfl ?_) | refine gd rfl rfl rfl (fun hg => ?_) (fun hg => ?_) | refine gn rfl rfl rfl (fun hg => ?_) (fun hg => ?_)
  refine lpR (fun k => k ≤ b.length) (fun k => b.length - k) (fun k => [(9, I k), (3, .lsl 0 4 0 (b.map rowN).length)]) (fun k => [(0, .arr 4 (b.map rowN))]) (0) [3, 8] [0] [] rfl rfl rfl (.of [] (by (repeat' first | exact trivial | refine And.intro ?_ ?_ | rfl); first | done | fail) (by (repeat' first | exact trivial | refine And.intro ?_ ?_ | rfl); first | done | fail) rfl) ?_ ?_
  · exact Nat.zero_le _
  rintro k hk0
  refine nrm rfl rfl ?_
  repeat' first | refine wr (by omega) ?_ | refine ln ?_ | refine stp lay_ok rfl ?_ | refine fin ?_ | refine n_thn ?_ | refine n_blk ?_ | refine e_thn ?_ | refine e_hit ?_ | refine e_miss rfl ?_ | refine r_thn ?_ | refine r_blk ?_ | refine e_rr ?_ | refine r_rr ?_ | refine e_cr ?_ | refine r_cr ?_ | refine .seq ?_ | refine reg ?_ | refine .block ?_ | refine .skip ?_ | refine .ret ?_ | refine .exit ?_ | refine cndT rfl ?_ | refine cndF rfl ?_ | refine c_dec rfl (fun hc => ?_) (fun hc => ?_) | refine c_ndec rfl (fun hc => ?_) (fun hc => ?_) | refine cnd rfl (fun hc => ?_) (fun hc => ?_) | refine gd rfl rfl rfl (fun hg => ?_) (fun hg => ?_) | refine gn rfl rfl rfl (fun hg => ?_) (fun hg => ?_)
  · have hk' : k < b.length := by omega
    have hfit := hk _ (List.getElem_mem hk')
    have hcl := entries_ok b[k].entries hfit.2.1 (fun e he => (hfit.2.2 e he).2)
    have hat : (b.map rowN)[0 + ((k : Nat) : Int).toNat]? = some (rowN b[k]) := by simp [hk']
    have hset : (b.map rowN).set (0 + ((k : Nat) : Int).toNat) (putAt (rowN b[k]) 3 [.sl 3 (b[k].entries.map rowE)]) = b.map rowN := set_same hat
    generalize b[k] = e at *
    repeat' first | refine wr (by omega) ?_ | refine ln ?_ | refine stp lay_ok rfl ?_ | refine fin ?_ | refine n_thn ?_ | refine n_blk ?_ | refine e_thn ?_ | refine e_hit ?_ | refine e_miss rfl ?_ | refine r_thn ?_ | refine r_blk ?_ | refine e_rr ?_ | refine r_rr ?_ | refine e_cr ?_ | refine r_cr ?_ | refine .seq ?_ | refine reg ?_ | refine .block ?_ | refine .skip ?_ | refine .ret ?_ | refine .exit ?_ | refine cndT rfl ?_ | refine cndF rfl ?_ | refine c_dec rfl (fun hc => ?_) (fun hc => ?_) | refine c_ndec rfl (fun hc => ?_) (fun hc => ?_) | refine cnd rfl (fun hc => ?_) (fun hc => ?_) | ((first | refine o_none rfl ?_ | refine o_none_ ?_ | refine o_yes rfl rfl rfl ?_ | refine o_yes_ rfl rfl ?_); first | refine st_indexL lay_ok rfl rfl rfl rfl (by omega) (by omega) ?_ | refine st_loadE (rowN e) lay_ok rfl rfl rfl hat rfl rfl rfl ?_ | refine st_pure (hcl) b35 rfl rfl rfl rfl ?_) | refine o_none_ (st_storeE lay_ok rfl rfl rfl hat rfl rfl rfl rfl ?_) | refine gd rfl rfl rfl (fun hg => ?_) (fun hg => ?_) | refine gn rfl rfl rfl (fun hg => ?_) (fun hg => ?_)
    refine n_rr (k + 1) ?_ (.of [] (by (repeat' first | exact trivial | refine And.intro ?_ ?_ | rfl | exact congrArg (fun r => some (AO.arr 4 r)) hset); first | done | fail) (by (repeat' first | exact trivial | refine And.intro ?_ ?_ | rfl | exact congrArg (fun r => some (AO.arr 4 r)) hset); first | done | fail) rfl) ?_
    · omega
    · exact hk'
  · refine f_end (n0 := 1) (t'' := [(2, .lsl 0 4 0 (b.map rowN).length)]) (h'' := [(0, .arr 4 (b.map rowN))]) (WkR.of [0] (by (repeat' first | exact trivial | refine And.intro ?_ ?_ | rfl); first | done | fail) (by (repeat' first | exact trivial | refine And.intro ?_ ?_ | rfl); first | done | fail) rfl) rfl rfl ⟨?_, rfl⟩
    rfl
end Go.Proofs.YtligkfhplinjlaaGreatDoorFn
namespace Go.Proofs.YtligkfhplinjlaaGreatDoorFn
open Go.Proofs.YtligkfhplinjlaaGreatDoorAl Go.Proofs.Tryz
attribute [local irreducible] IntKind.wrap CodeOk OpsL OpG ACalls thn inBlk rndR cutR WkR Wk fnR DW ExtOk partsOf
/-! ### a catalog of a catalog's snapshots goes on as it does -/
theorem fromC_ok (l : List NV) (hl : l.length ≤ 4000000000) (hk : ∀ s ∈ l, s.fit) (hb : fromB l = true) :
    ACalls prog 20 0 [.st (.sl 4 (l.map rowN))] [] fun r h => r = .tuple [.ptr 0 0, nilE] ∧ h = catX 1 l false := by
  rw [catX_no 1]
  have hsn := snapshotsOO_ok l hl hk
  have hm : (List.map rowN l).length = l.length := List.length_map _
  refine fnC lay_ok func20 rfl rfl rfl rfl rfl ?_
  repeat' first | refine wr (by omega) ?_ | refine ln ?_ | refine stp lay_ok rfl ?_ | refine fin ?_ | refine n_thn ?_ | refine n_blk ?_ | refine e_thn ?_ | refine e_hit ?_ | refine e_miss rfl ?_ | refine r_thn ?_ | refine r_blk ?_ | refine e_rr ?_ | refine r_rr ?_ | refine e_cr ?_ | refine r_cr ?_ | refine .seq ?_ | refine reg ?_ | refine .block ?_ | refine .skip ?_ | refine .ret ?_ | refine .exit ?_ | refine cndT rfl ?_ | refine cndF rfl ?_ | refine c_dec rfl (fun hc => ?_) (fun hc => ?_) | refine c_ndec rfl (fun hc => ?_) (fun hc => ?_) | refine cnd rfl (fun hc => ?_) (fun hc => ?_) | refine gd rfl rfl rfl (fun hg => ?_) (fun hg => ?_) | refine gn rfl rfl rfl (fun hg => ?_) (fun hg => ?_)
  refine lpR (fun k => k ≤ l.length ∧ fromF (l.take k) (l.drop k) = true) (fun k => l.length - k) (fun k => [(8, I k)]) (fun k => []) (0) [0, 6, 7] [] [] rfl rfl rfl (.of [] (by (repeat' first | exact trivial | refine And.intro ?_ ?_ | rfl); first | done | fail) (by (repeat' first | exact trivial | refine And.intro ?_ ?_ | rfl); first | done | fail) rfl) ?_ ?_
  · exact ⟨Nat.zero_le _, hb⟩
  rintro k ⟨hk0, hk2⟩
  refine nrm rfl rfl ?_
  repeat' first | refine wr (by omega) ?_ | refine ln ?_ | refine stp lay_ok rfl ?_ | refine fin ?_ | refine n_thn ?_ | refine n_blk ?_ | refine e_thn ?_ | refine e_hit ?_ | refine e_miss rfl ?_ | refine r_thn ?_ | refine r_blk ?_ | refine e_rr ?_ | refine r_rr ?_ | refine e_cr ?_ | refine r_cr ?_ | refine .seq ?_ | refine reg ?_ | refine .block ?_ | refine .skip ?_ | refine .ret ?_ | refine .exit ?_ | refine cndT rfl ?_ | refine cndF rfl ?_ | refine c_dec rfl (fun hc => ?_) (fun hc => ?_) | refine c_ndec rfl (fun hc => ?_) (fun hc => ?_) | refine cnd rfl (fun hc => ?_) (fun hc => ?_) | refine gd rfl rfl rfl (fun hg => ?_) (fun hg => ?_) | refine gn rfl rfl rfl (fun hg => ?_) (fun hg => ?_)
  · have hk' : k < l.length := by omega
    have hfit := hk _ (List.getElem_mem hk')
    have hmy := may_ok' (l.take k) l[k] (by simp; omega) hfit
    have hat : (l.map rowN)[((k : Nat) : Int).toNat]? = some (rowN l[k]) := by simp [hk']
    rw [fromF_step hk', Bool.and_eq_true] at hk2
    rw [hk2.1, List.map_take] at hmy
    generalize l[k] = s at *
    obtain ⟨c, n, d, es⟩ := s
    repeat' first | refine o_frb 0 [.int .i64 c, .str n, .bool d, .sl 3 (es.map rowE)] rfl rfl rfl (by (repeat' first | exact trivial | refine And.intro ?_ ?_ | rfl); first | done | fail) (by (repeat' first | exact trivial | refine And.intro ?_ ?_ | rfl); first | done | fail) rfl rfl ?_ | refine wr (by omega) ?_ | refine ln ?_ | refine stp lay_ok rfl ?_ | refine fin ?_ | refine n_thn ?_ | refine n_blk ?_ | refine e_thn ?_ | refine e_hit ?_ | refine e_miss rfl ?_ | refine r_thn ?_ | refine r_blk ?_ | refine e_rr ?_ | refine r_rr ?_ | refine e_cr ?_ | refine r_cr ?_ | refine .seq ?_ | refine reg ?_ | refine .block ?_ | refine .skip ?_ | refine .ret ?_ | refine .exit ?_ | refine cndT rfl ?_ | refine cndF rfl ?_ | refine c_dec rfl (fun hc => ?_) (fun hc => ?_) | refine c_ndec rfl (fun hc => ?_) (fun hc => ?_) | refine cnd rfl (fun hc => ?_) (fun hc => ?_) | ((first | refine o_none rfl ?_ | refine o_none_ ?_ | refine o_yes rfl rfl rfl ?_ | refine o_yes_ rfl rfl ?_); first | refine st_index (rowN ⟨c, n, d, es⟩) lay_ok rfl rfl rfl rfl (by omega) hat ?_) | refine gd rfl rfl rfl (fun hg => ?_) (fun hg => ?_) | refine gn rfl rfl rfl (fun hg => ?_) (fun hg => ?_)
    refine dreg [(0, [], [14, 16]), (1, [], [13, 16]), (2, [0, 1], [16]), (3, [], [13, 14, 15]), (4, [0, 1, 2, 3], []), (5, [0, 1, 2, 3, 4], [])] mixed (by kernel_rfl) ?_
    repeat' first | refine wr (by omega) ?_ | refine ln ?_ | refine stp lay_ok rfl ?_ | refine fin ?_ | refine n_thn ?_ | refine n_blk ?_ | refine e_thn ?_ | refine e_hit ?_ | refine e_miss rfl ?_ | refine r_thn ?_ | refine r_blk ?_ | refine e_rr ?_ | refine r_rr ?_ | refine e_cr ?_ | refine r_cr ?_ | refine .seq ?_ | refine reg ?_ | refine .block ?_ | refine .skip ?_ | refine .ret ?_ | refine .exit ?_ | refine cndT rfl ?_ | refine cndF rfl ?_ | refine c_dec rfl (fun hc => ?_) (fun hc => ?_) | refine c_ndec rfl (fun hc => ?_) (fun hc => ?_) | refine cnd rfl (fun hc => ?_) (fun hc => ?_) | ((first | refine o_none rfl ?_ | refine o_none_ ?_ | refine o_yes rfl rfl rfl ?_ | refine o_yes_ rfl rfl ?_); first | refine st_subL 0 k lay_ok rfl rfl rfl rfl ⟨_, _, rfl, rfl⟩ (Nat.zero_le _) (by omega) ?_ | refine st_pure (hmy) b40 rfl rfl rfl rfl ?_) | refine gd rfl rfl rfl (fun hg => ?_) (fun hg => ?_) | refine gn rfl rfl rfl (fun hg => ?_) (fun hg => ?_) | refine dwr (by omega) ?_ | refine dwl ?_ | refine dws lay_ok rfl rfl rfl rfl rfl rfl rfl ?_ | refine dwu lay_ok rfl rfl rfl rfl rfl rfl rfl rfl rfl ?_ | refine dw_end ?_ | refine dw_skip rfl rfl rfl ?_ | refine dwn lay_ok rfl rfl rfl rfl rfl ?_ | refine dwb rfl rfl rfl rfl rfl (by (first | refine st_subL 0 k lay_ok rfl rfl rfl rfl ⟨_, _, rfl, rfl⟩ (Nat.zero_le _) (by omega) ?_ | refine st_pure (hmy) b40 rfl rfl rfl rfl ?_); exact fin rfl) rfl rfl ?_ | refine dwg rfl rfl rfl rfl rfl (by (first | refine st_subL 0 k lay_ok rfl rfl rfl rfl ⟨_, _, rfl, rfl⟩ (Nat.zero_le _) (by omega) ?_ | refine st_pure (hmy) b40 rfl rfl rfl rfl ?_); exact fin rfl) rfl rfl rfl rfl rfl ?_ | refine dw_dec rfl rfl rfl (fun hg => ?_) (fun hg => ?_) | refine dw_ndec rfl rfl rfl (fun hg => ?_) (fun hg => ?_)
    refine n_rr (k + 1) ?_ (.of [] (by (repeat' first | exact trivial | refine And.intro ?_ ?_ | rfl); first | done | fail) (by (repeat' first | exact trivial | refine And.intro ?_ ?_ | rfl); first | done | fail) rfl) ?_
    · omega
    · exact ⟨hk', hk2.2⟩
  · repeat' first | refine wr (by omega) ?_ | refine ln ?_ | refine stp lay_ok rfl ?_ | refine fin ?_ | refine n_thn ?_ | refine n_blk ?_ | refine e_thn ?_ | refine e_hit ?_ | refine e_miss rfl ?_ | refine r_thn ?_ | refine r_blk ?_ | refine e_rr ?_ | refine r_rr ?_ | refine e_cr ?_ | refine r_cr ?_ | refine .seq ?_ | refine reg ?_ | refine .block ?_ | refine .skip ?_ | refine .ret ?_ | refine .exit ?_ | refine cndT rfl ?_ | refine cndF rfl ?_ | refine c_dec rfl (fun hc => ?_) (fun hc => ?_) | refine c_ndec rfl (fun hc => ?_) (fun hc => ?_) | refine cnd rfl (fun hc => ?_) (fun hc => ?_) | ((first | refine o_none rfl ?_ | refine o_none_ ?_ | refine o_yes rfl rfl rfl ?_ | refine o_yes_ rfl rfl ?_); first | refine st_callF 1 (hsn) b38 rfl rfl rfl rfl rfl rfl (by (repeat' first | exact trivial | refine And.intro ?_ ?_ | rfl); first | done | fail) rfl ?_) | refine gd rfl rfl rfl (fun hg => ?_) (fun hg => ?_) | refine gn rfl rfl rfl (fun hg => ?_) (fun hg => ?_) | refine dwr (by omega) ?_ | refine dwl ?_ | refine dws lay_ok rfl rfl rfl rfl rfl rfl rfl ?_ | refine dwu lay_ok rfl rfl rfl rfl rfl rfl rfl rfl rfl ?_ | refine dw_end ?_ | refine dw_skip rfl rfl rfl ?_ | refine dwn lay_ok rfl rfl rfl rfl rfl ?_ | refine dwb rfl rfl rfl rfl rfl (by (first | refine st_callF 1 (hsn) b38 rfl rfl rfl rfl rfl rfl (by (repeat' first | exact trivial | refine And.intro ?_ ?_ | rfl); first | done | fail) rfl ?_); exact fin rfl) rfl rfl ?_ | refine dwg rfl rfl rfl rfl rfl (by (first | refine st_callF 1 (hsn) b38 rfl rfl rfl rfl rfl rfl (by (repeat' first | exact trivial | refine And.intro ?_ ?_ | rfl); first | done | fail) rfl ?_); exact fin rfl) rfl rfl rfl rfl rfl ?_ | refine dw_dec rfl rfl rfl (fun hg => ?_) (fun hg => ?_) | refine dw_ndec rfl rfl rfl (fun hg => ?_) (fun hg => ?_)
    refine f_end (n0 := 2) (t'' := [(2, .ptr 0 0), (3, nilE)]) (h'' := [(0, .cells [.lsl 1 4 0 (l.map rowN).length]), (1, .arr 4 (l.map rowN))]) (WkR.of [1, 0] (by (repeat' first | exact trivial | refine And.intro ?_ ?_ | rfl); first | done | fail) (by (repeat' first | exact trivial | refine And.intro ?_ ?_ | rfl); first | done | fail) rfl) rfl rfl ⟨?_, rfl⟩
    rfl
set_option maxHeartbeats 16000000 in
set_option maxRecDepth 4000 in
theorem lawFrom_ok (ds ms : List DV) : ACalls prog 10 0 [.st (.sl 6 (ds.map rowD)), .st (.sl 6 (ms.map rowD))] [] fun r h => r = B true ∧ h = [] := by
  have hup := up9_ok
  have hsh := shortD_ok ds
  have hsm := shortD_ok ms
  have hN := newC_ok
  have hm : (List.map rowD ds).length = ds.length := List.length_map _
  have hmm : (List.map rowD ms).length = ms.length := List.length_map _
  by_cases hSS : shortD ds = true ∧ shortD ms = true
  case neg =>
    refine fnC lay_ok func10 rfl rfl rfl rfl rfl ?_
    cases hS : shortD ds <;> cases hM : shortD ms <;> rw [hS] at hsh <;> rw [hM] at hsm
    all_goals first
      | (exfalso; exact hSS ⟨hS, hM⟩)
      | skip
    all_goals
      repeat' first | refine wr (by omega) ?_ | refine ln ?_ | refine stp lay_ok rfl ?_ | refine fin ?_ | refine n_thn ?_ | refine n_blk ?_ | refine e_thn ?_ | refine e_hit ?_ | refine e_miss rfl ?_ | refine r_thn ?_ | refine r_blk ?_ | refine e_rr ?_ | refine r_rr ?_ | refine e_cr ?_ | refine r_cr ?_ | refine .seq ?_ | refine reg ?_ | refine .block ?_ | refine .skip ?_ | refine .ret ?_ | refine .exit ?_ | refine cndT rfl ?_ | refine cndF rfl ?_ | refine c_dec rfl (fun hc => ?_) (fun hc => ?_) | refine c_ndec rfl (fun hc => ?_) (fun hc => ?_) | refine cnd rfl (fun hc => ?_) (fun hc => ?_) | ((first | refine o_none rfl ?_ | refine o_none_ ?_ | refine o_yes rfl rfl rfl ?_ | refine o_yes_ rfl rfl ?_); first | refine st_pure (hup) b11 rfl rfl rfl rfl ?_ | refine st_pure (hsh) b12 rfl rfl rfl rfl ?_ | refine st_pure (hsm) b12 rfl rfl rfl rfl ?_ | refine st_callF 2 (hN) b13 rfl rfl rfl rfl rfl rfl (by (repeat' first | exact trivial | refine And.intro ?_ ?_ | rfl); first | done | fail) rfl ?_) | refine gd rfl rfl rfl (fun hg => ?_) (fun hg => ?_) | refine gn rfl rfl rfl (fun hg => ?_) (fun hg => ?_)
      refine f_r [] rfl trivial rfl ⟨?_, rfl⟩
      rfl
  obtain ⟨hS, hM⟩ := hSS
  rw [hS] at hsh
  rw [hM] at hsm
  refine fnC lay_ok func10 rfl rfl rfl rfl rfl ?_
  repeat' first | refine wr (by omega) ?_ | refine ln ?_ | refine stp lay_ok rfl ?_ | refine fin ?_ | refine n_thn ?_ | refine n_blk ?_ | refine e_thn ?_ | refine e_hit ?_ | refine e_miss rfl ?_ | refine r_thn ?_ | refine r_blk ?_ | refine e_rr ?_ | refine r_rr ?_ | refine e_cr ?_ | refine r_cr ?_ | refine .seq ?_ | refine reg ?_ | refine .block ?_ | refine .skip ?_ | refine .ret ?_ | refine .exit ?_ | refine cndT rfl ?_ | refine cndF rfl ?_ | refine c_dec rfl (fun hc => ?_) (fun hc => ?_) | refine c_ndec rfl (fun hc => ?_) (fun hc => ?_) | refine cnd rfl (fun hc => ?_) (fun hc => ?_) | ((first | refine o_none rfl ?_ | refine o_none_ ?_ | refine o_yes rfl rfl rfl ?_ | refine o_yes_ rfl rfl ?_); first | refine st_pure (hup) b11 rfl rfl rfl rfl ?_ | refine st_pure (hsh) b12 rfl rfl rfl rfl ?_ | refine st_pure (hsm) b12 rfl rfl rfl rfl ?_ | refine st_callF 2 (hN) b13 rfl rfl rfl rfl rfl rfl (by (repeat' first | exact trivial | refine And.intro ?_ ?_ | rfl); first | done | fail) rfl ?_) | refine gd rfl rfl rfl (fun hg => ?_) (fun hg => ?_) | refine gn rfl rfl rfl (fun hg => ?_) (fun hg => ?_)
  refine lpR (fun (k, l, b) => k ≤ ds.length ∧ k ≤ 80 ∧ CatP l ∧ (b = true → l = [])) (fun (k, l, b) => ds.length - k) (fun (k, l, b) => [(8, I k)]) (fun (k, l, b) => [(0, .cells [.lsl 2 4 (gN b) (l.map rowN).length]), (2, .arr 4 (l.map rowN ++ gR b))]) ((0, [], false)) [0, 1, 5, 7] [0] [1] rfl rfl rfl (.of [1] (by (repeat' first | exact trivial | refine And.intro ?_ ?_ | rfl); first | done | fail) (by (repeat' first | exact trivial | refine And.intro ?_ ?_ | rfl); first | done | fail) rfl) ?_ ?_
  · exact ⟨Nat.zero_le _, Nat.zero_le _, catP_nil, by simp⟩
  rintro ⟨k, l, b⟩ ⟨g1, g2, g3, g4⟩
  refine nrm rfl rfl ?_
  by_cases hk : k < ds.length ∧ k < 80
  · obtain ⟨hk, hk80⟩ := hk
    have hat : (ds.map rowD)[((k : Nat) : Int).toNat]? = some (rowD ds[k]) := by simp [hk]
    have hfit := shortD_at hS hk hk80
    generalize ds[k] = d at *
    obtain ⟨c, o⟩ := d
    simp only at hfit
    have hdo := do_ok l b c o g4 g3 hfit
    have hC2 := doP_cat c o g3
    have hB2 := fun h => doB_nil (c := c) (o := o) g4 h
    generalize doP l c o = R at *
    generalize doB l b c o = b2 at *
    obtain ⟨l2, a⟩ := R
    simp only at hC2 hB2 hdo
    obtain ⟨kd, nm, p, oks, n⟩ := o
    repeat' first | refine wr (by omega) ?_ | refine ln ?_ | refine stp lay_ok rfl ?_ | refine fin ?_ | refine n_thn ?_ | refine n_blk ?_ | refine e_thn ?_ | refine e_hit ?_ | refine e_miss rfl ?_ | refine r_thn ?_ | refine r_blk ?_ | refine e_rr ?_ | refine r_rr ?_ | refine e_cr ?_ | refine r_cr ?_ | refine .seq ?_ | refine reg ?_ | refine .block ?_ | refine .skip ?_ | refine .ret ?_ | refine .exit ?_ | refine cndT rfl ?_ | refine cndF rfl ?_ | refine c_dec rfl (fun hc => ?_) (fun hc => ?_) | refine c_ndec rfl (fun hc => ?_) (fun hc => ?_) | refine cnd rfl (fun hc => ?_) (fun hc => ?_) | refine gd rfl rfl rfl (fun hg => ?_) (fun hg => ?_) | refine gn rfl rfl rfl (fun hg => ?_) (fun hg => ?_)
    all_goals first
      | (exfalso; omega)
      | skip
    refine dreg [(0, [], [44, 45, 46, 47, 48, 49, 50, 51, 52, 53]), (1, [], [43, 45, 49, 50, 51, 52, 53]), (2, [], [43, 44, 49, 50, 51, 52, 53]), (3, [1, 2], [43, 49, 50, 51, 52, 53]), (4, [1, 2, 3], [43, 49, 50, 51, 52, 53]), (5, [1, 2, 3, 4], [43, 49, 50, 51, 52, 53]), (6, [], [43, 44, 45, 46, 47, 48, 50]), (7, [], [43, 44, 45, 46, 47, 48, 49]), (8, [6, 7], [43, 44, 45, 46, 47, 48]), (9, [6, 7, 8], [43, 44, 45, 46, 47, 48]), (10, [6, 7, 8, 9], [43, 44, 45, 46, 47, 48]), (11, [0, 1, 2, 3, 4, 5, 6, 7, 8, 9, 10], [])] mixed (by kernel_rfl) ?_
    repeat' first | refine wr (by omega) ?_ | refine ln ?_ | refine stp lay_ok rfl ?_ | refine fin ?_ | refine n_thn ?_ | refine n_blk ?_ | refine e_thn ?_ | refine e_hit ?_ | refine e_miss rfl ?_ | refine r_thn ?_ | refine r_blk ?_ | refine e_rr ?_ | refine r_rr ?_ | refine e_cr ?_ | refine r_cr ?_ | refine .seq ?_ | refine reg ?_ | refine .block ?_ | refine .skip ?_ | refine .ret ?_ | refine .exit ?_ | refine cndT rfl ?_ | refine cndF rfl ?_ | refine c_dec rfl (fun hc => ?_) (fun hc => ?_) | refine c_ndec rfl (fun hc => ?_) (fun hc => ?_) | refine cnd rfl (fun hc => ?_) (fun hc => ?_) | ((first | refine o_none rfl ?_ | refine o_none_ ?_ | refine o_yes rfl rfl rfl ?_ | refine o_yes_ rfl rfl ?_); first | refine st_index (rowD ⟨c, kd, nm, p, oks, n⟩) lay_ok rfl rfl rfl rfl (by omega) hat ?_ | refine st_callG [0,2] 1 (hdo) b14 rfl rfl rfl rfl rfl (by (repeat' first | exact trivial | refine And.intro ?_ ?_ | rfl); first | done | fail) rfl ?_) | refine gd rfl rfl rfl (fun hg => ?_) (fun hg => ?_) | refine gn rfl rfl rfl (fun hg => ?_) (fun hg => ?_) | refine dwr (by omega) ?_ | refine dwl ?_ | refine dws lay_ok rfl rfl rfl rfl rfl rfl rfl ?_ | refine dwu lay_ok rfl rfl rfl rfl rfl rfl rfl rfl rfl ?_ | refine dw_end ?_ | refine dw_skip rfl rfl rfl ?_ | refine dwn lay_ok rfl rfl rfl rfl rfl ?_ | refine dwG [0,2] rfl rfl rfl rfl (by refine st_callG [0,2] 1 (hdo) b14 rfl rfl rfl rfl rfl (by (repeat' first | exact trivial | refine And.intro ?_ ?_ | rfl); first | done | fail) rfl ?_; exact fin rfl) rfl rfl rfl rfl rfl ?_ | refine dwb rfl rfl rfl rfl rfl (by (first | refine st_index (rowD ⟨c, kd, nm, p, oks, n⟩) lay_ok rfl rfl rfl rfl (by omega) hat ?_ | refine st_callG [0,2] 1 (hdo) b14 rfl rfl rfl rfl rfl (by (repeat' first | exact trivial | refine And.intro ?_ ?_ | rfl); first | done | fail) rfl ?_); exact fin rfl) rfl rfl ?_ | refine dwg rfl rfl rfl rfl rfl (by (first | refine st_index (rowD ⟨c, kd, nm, p, oks, n⟩) lay_ok rfl rfl rfl rfl (by omega) hat ?_ | refine st_callG [0,2] 1 (hdo) b14 rfl rfl rfl rfl rfl (by (repeat' first | exact trivial | refine And.intro ?_ ?_ | rfl); first | done | fail) rfl ?_); exact fin rfl) rfl rfl rfl rfl rfl ?_ | refine dw_dec rfl rfl rfl (fun hg => ?_) (fun hg => ?_) | refine dw_ndec rfl rfl rfl (fun hg => ?_) (fun hg => ?_)
    refine n_rr ((k + 1, l2, b2)) ?_ (.of [3] (by (repeat' first | exact trivial | refine And.intro ?_ ?_ | rfl | exact congrArg (fun z : Int => some (AV.st (.int .i64 z))) (show (k : Int) + 1 = ((k + 1 : Nat) : Int) by omega)); first | done | fail) (by (repeat' first | exact trivial | refine And.intro ?_ ?_ | rfl | exact congrArg (fun z : Int => some (AV.st (.int .i64 z))) (show (k : Int) + 1 = ((k + 1 : Nat) : Int) by omega)); first | done | fail) rfl) ?_
    · show ds.length - (k + 1) < ds.length - k; omega
    · exact ⟨hk, hk80, hC2, hB2⟩
  obtain ⟨c1, c2⟩ := catP_fits g3
  have hsn := snapsX_ok l b g4 c1 c2
  have hfr := fromC_ok l c1 c2 ((fromB_iff l).2 g3)
  repeat' first | refine wr (by omega) ?_ | refine ln ?_ | refine stp lay_ok rfl ?_ | refine fin ?_ | refine n_thn ?_ | refine n_blk ?_ | refine e_thn ?_ | refine e_hit ?_ | refine e_miss rfl ?_ | refine r_thn ?_ | refine r_blk ?_ | refine e_rr ?_ | refine r_rr ?_ | refine e_cr ?_ | refine r_cr ?_ | refine .seq ?_ | refine reg ?_ | refine .block ?_ | refine .skip ?_ | refine .ret ?_ | refine .exit ?_ | refine cndT rfl ?_ | refine cndF rfl ?_ | refine c_dec rfl (fun hc => ?_) (fun hc => ?_) | refine c_ndec rfl (fun hc => ?_) (fun hc => ?_) | refine cnd rfl (fun hc => ?_) (fun hc => ?_) | ((first | refine o_none rfl ?_ | refine o_none_ ?_ | refine o_yes rfl rfl rfl ?_ | refine o_yes_ rfl rfl ?_); first | refine st_callK [0,2] (hsn) b17 rfl rfl rfl rfl rfl (by (repeat' first | exact trivial | refine And.intro ?_ ?_ | rfl); first | done | fail) ?_ | refine st_callF 2 (hfr) b20 rfl rfl rfl rfl rfl rfl (by (repeat' first | exact trivial | refine And.intro ?_ ?_ | rfl); first | done | fail) rfl ?_) | refine gd rfl rfl rfl (fun hg => ?_) (fun hg => ?_) | refine gn rfl rfl rfl (fun hg => ?_) (fun hg => ?_) | refine dwr (by omega) ?_ | refine dwl ?_ | refine dws lay_ok rfl rfl rfl rfl rfl rfl rfl ?_ | refine dwu lay_ok rfl rfl rfl rfl rfl rfl rfl rfl rfl ?_ | refine dw_end ?_ | refine dw_skip rfl rfl rfl ?_ | refine dwn lay_ok rfl rfl rfl rfl rfl ?_ | refine dwG [0,2] rfl rfl rfl rfl (by refine st_callK [0,2] (hsn) b17 rfl rfl rfl rfl rfl (by (repeat' first | exact trivial | refine And.intro ?_ ?_ | rfl); first | done | fail) ?_; exact fin rfl) rfl rfl rfl rfl rfl ?_ | refine dwb rfl rfl rfl rfl rfl (by (first | refine st_callK [0,2] (hsn) b17 rfl rfl rfl rfl rfl (by (repeat' first | exact trivial | refine And.intro ?_ ?_ | rfl); first | done | fail) ?_ | refine st_callF 2 (hfr) b20 rfl rfl rfl rfl rfl rfl (by (repeat' first | exact trivial | refine And.intro ?_ ?_ | rfl); first | done | fail) rfl ?_); exact fin rfl) rfl rfl ?_ | refine dwg rfl rfl rfl rfl rfl (by (first | refine st_callK [0,2] (hsn) b17 rfl rfl rfl rfl rfl (by (repeat' first | exact trivial | refine And.intro ?_ ?_ | rfl); first | done | fail) ?_ | refine st_callF 2 (hfr) b20 rfl rfl rfl rfl rfl rfl (by (repeat' first | exact trivial | refine And.intro ?_ ?_ | rfl); first | done | fail) rfl ?_); exact fin rfl) rfl rfl rfl rfl rfl ?_ | refine dw_dec rfl rfl rfl (fun hg => ?_) (fun hg => ?_) | refine dw_ndec rfl rfl rfl (fun hg => ?_) (fun hg => ?_)
  all_goals first
    | (exfalso; omega)
    | skip
  clear hsn hfr c1 c2
  all_goals
    refine lpR (fun (j, l, b, b') => j ≤ ms.length ∧ j ≤ 80 ∧ CatP l ∧ (b = true → l = []) ∧ (b' = true → l = [])) (fun (j, l, b, b') => ms.length - j) (fun (j, l, b, b') => [(11, I j)]) (fun (j, l, b, b') => [(0, .cells [.lsl 5 4 (gN b) (l.map rowN).length]), (5, .arr 4 (l.map rowN ++ gR b)), (3, .cells [.lsl 6 4 (gN b') (l.map rowN).length]), (6, .arr 4 (l.map rowN ++ gR b'))]) ((0, l, b, false)) [1, 5, 7, 9] [0, 3] [2, 4] rfl rfl rfl (.of [2, 4] (by (repeat' first | exact trivial | refine And.intro ?_ ?_ | rfl); first | done | fail) (by (repeat' first | exact trivial | refine And.intro ?_ ?_ | rfl); first | done | fail) rfl) ?_ ?_
    · exact ⟨Nat.zero_le _, Nat.zero_le _, g3, g4, by simp⟩
    clear g3 g4
    rintro ⟨j, l, b, b'⟩ ⟨j1, j2, g3, g4, g5⟩
    refine nrm rfl rfl ?_
    by_cases hj : j < ms.length ∧ j < 80
    · obtain ⟨hj, hj80⟩ := hj
      have hat : (ms.map rowD)[((j : Nat) : Int).toNat]? = some (rowD ms[j]) := by simp [hj]
      have hfit := shortD_at hM hj hj80
      generalize ms[j] = d at *
      obtain ⟨c, o⟩ := d
      simp only at hfit
      have hdo := do_ok l b c o g4 g3 hfit
      have hdo' := do_ok l b' c o g5 g3 hfit
      have hC2 := doP_cat c o g3
      have hB2 := fun h => doB_nil (c := c) (o := o) g4 h
      have hB3 := fun h => doB_nil (c := c) (o := o) g5 h
      have hal := alike_ok (doP l c o).2 (doP l c o).2 (doP_fit c o g3) (doP_fit c o g3)
      rw [alike_same] at hal
      generalize doP l c o = R at *
      generalize doB l b c o = b2 at *
      generalize doB l b' c o = b3 at *
      obtain ⟨l2, a⟩ := R
      simp only at hC2 hB2 hB3 hdo hdo' hal
      obtain ⟨kd, nm, p, oks, n⟩ := o
      obtain ⟨xc, xn, xs, xk, xe⟩ := a
      repeat' first | refine wr (by omega) ?_ | refine ln ?_ | refine stp lay_ok rfl ?_ | refine fin ?_ | refine n_thn ?_ | refine n_blk ?_ | refine e_thn ?_ | refine e_hit ?_ | refine e_miss rfl ?_ | refine r_thn ?_ | refine r_blk ?_ | refine e_rr ?_ | refine r_rr ?_ | refine e_cr ?_ | refine r_cr ?_ | refine .seq ?_ | refine reg ?_ | refine .block ?_ | refine .skip ?_ | refine .ret ?_ | refine .exit ?_ | refine cndT rfl ?_ | refine cndF rfl ?_ | refine c_dec rfl (fun hc => ?_) (fun hc => ?_) | refine c_ndec rfl (fun hc => ?_) (fun hc => ?_) | refine cnd rfl (fun hc => ?_) (fun hc => ?_) | refine gd rfl rfl rfl (fun hg => ?_) (fun hg => ?_) | refine gn rfl rfl rfl (fun hg => ?_) (fun hg => ?_)
      all_goals first
        | (exfalso; omega)
        | skip
      refine dreg [(0, [], [78, 79, 80, 81, 82, 83, 84, 85, 86, 87, 12]), (1, [], [77, 79, 83, 84, 85, 86, 87, 12]), (2, [], [77, 78, 83, 84, 85, 86, 87, 12]), (3, [1, 2], [77, 83, 84, 85, 86, 87, 12]), (4, [1, 2, 3], [77, 83, 84, 85, 86, 87, 12]), (5, [1, 2, 3, 4], [77, 83, 84, 85, 86, 87, 12]), (6, [], [77, 78, 79, 80, 81, 82, 84, 12]), (7, [], [77, 78, 79, 80, 81, 82, 83, 12]), (8, [6, 7], [77, 78, 79, 80, 81, 82, 12]), (9, [6, 7, 8], [77, 78, 79, 80, 81, 82, 12]), (10, [6, 7, 8, 9], [77, 78, 79, 80, 81, 82, 12]), (11, [0, 1, 2, 3, 4, 5, 6, 7, 8, 9, 10], [12]), (12, [], [77, 78, 79, 80, 81, 82, 83, 84, 85, 86, 87, 88]), (13, [0, 1, 2, 3, 4, 5, 6, 7, 8, 9, 10, 11, 12], [])] mixed (by kernel_rfl) ?_
      repeat' first | refine wr (by omega) ?_ | refine ln ?_ | refine stp lay_ok rfl ?_ | refine fin ?_ | refine n_thn ?_ | refine n_blk ?_ | refine e_thn ?_ | refine e_hit ?_ | refine e_miss rfl ?_ | refine r_thn ?_ | refine r_blk ?_ | refine e_rr ?_ | refine r_rr ?_ | refine e_cr ?_ | refine r_cr ?_ | refine .seq ?_ | refine reg ?_ | refine .block ?_ | refine .skip ?_ | refine .ret ?_ | refine .exit ?_ | refine cndT rfl ?_ | refine cndF rfl ?_ | refine c_dec rfl (fun hc => ?_) (fun hc => ?_) | refine c_ndec rfl (fun hc => ?_) (fun hc => ?_) | refine cnd rfl (fun hc => ?_) (fun hc => ?_) | ((first | refine o_none rfl ?_ | refine o_none_ ?_ | refine o_yes rfl rfl rfl ?_ | refine o_yes_ rfl rfl ?_); first | refine st_index (rowD ⟨c, kd, nm, p, oks, n⟩) lay_ok rfl rfl rfl rfl (by omega) hat ?_ | refine st_callG [0,5] 1 (hdo) b14 rfl rfl rfl rfl rfl (by (repeat' first | exact trivial | refine And.intro ?_ ?_ | rfl); first | done | fail) rfl ?_) | refine gd rfl rfl rfl (fun hg => ?_) (fun hg => ?_) | refine gn rfl rfl rfl (fun hg => ?_) (fun hg => ?_) | refine dwr (by omega) ?_ | refine dwl ?_ | refine dws lay_ok rfl rfl rfl rfl rfl rfl rfl ?_ | refine dwu lay_ok rfl rfl rfl rfl rfl rfl rfl rfl rfl ?_ | refine dw_end ?_ | refine dw_skip rfl rfl rfl ?_ | refine dwn lay_ok rfl rfl rfl rfl rfl ?_ | refine dwG [0,5] rfl rfl rfl rfl (by refine st_callG [0,5] 1 (hdo) b14 rfl rfl rfl rfl rfl (by (repeat' first | exact trivial | refine And.intro ?_ ?_ | rfl); first | done | fail) rfl ?_; exact fin rfl) rfl rfl rfl rfl rfl ?_ | refine dwb rfl rfl rfl rfl rfl (by (first | refine st_index (rowD ⟨c, kd, nm, p, oks, n⟩) lay_ok rfl rfl rfl rfl (by omega) hat ?_ | refine st_callG [0,5] 1 (hdo) b14 rfl rfl rfl rfl rfl (by (repeat' first | exact trivial | refine And.intro ?_ ?_ | rfl); first | done | fail) rfl ?_); exact fin rfl) rfl rfl ?_ | refine dwg rfl rfl rfl rfl rfl (by (first | refine st_index (rowD ⟨c, kd, nm, p, oks, n⟩) lay_ok rfl rfl rfl rfl (by omega) hat ?_ | refine st_callG [0,5] 1 (hdo) b14 rfl rfl rfl rfl rfl (by (repeat' first | exact trivial | refine And.intro ?_ ?_ | rfl); first | done | fail) rfl ?_); exact fin rfl) rfl rfl rfl rfl rfl ?_ | refine dw_dec rfl rfl rfl (fun hg => ?_) (fun hg => ?_) | refine dw_ndec rfl rfl rfl (fun hg => ?_) (fun hg => ?_)
      refine dreg [(0, [], [90, 91, 92, 93, 94, 95, 96, 97, 98, 99, 13]), (1, [], [89, 91, 95, 96, 97, 98, 99, 13]), (2, [], [89, 90, 95, 96, 97, 98, 99, 13]), (3, [1, 2], [89, 95, 96, 97, 98, 99, 13]), (4, [1, 2, 3], [89, 95, 96, 97, 98, 99, 13]), (5, [1, 2, 3, 4], [89, 95, 96, 97, 98, 99, 13]), (6, [], [89, 90, 91, 92, 93, 94, 96, 13]), (7, [], [89, 90, 91, 92, 93, 94, 95, 13]), (8, [6, 7], [89, 90, 91, 92, 93, 94, 13]), (9, [6, 7, 8], [89, 90, 91, 92, 93, 94, 13]), (10, [6, 7, 8, 9], [89, 90, 91, 92, 93, 94, 13]), (11, [0, 1, 2, 3, 4, 5, 6, 7, 8, 9, 10], [13]), (12, [], [89, 90, 91, 92, 93, 94, 95, 96, 97, 98, 99, 100]), (13, [0, 1, 2, 3, 4, 5, 6, 7, 8, 9, 10, 11, 12], [])] mixed (by kernel_rfl) ?_
      repeat' first | refine wr (by omega) ?_ | refine ln ?_ | refine stp lay_ok rfl ?_ | refine fin ?_ | refine n_thn ?_ | refine n_blk ?_ | refine e_thn ?_ | refine e_hit ?_ | refine e_miss rfl ?_ | refine r_thn ?_ | refine r_blk ?_ | refine e_rr ?_ | refine r_rr ?_ | refine e_cr ?_ | refine r_cr ?_ | refine .seq ?_ | refine reg ?_ | refine .block ?_ | refine .skip ?_ | refine .ret ?_ | refine .exit ?_ | refine cndT rfl ?_ | refine cndF rfl ?_ | refine c_dec rfl (fun hc => ?_) (fun hc => ?_) | refine c_ndec rfl (fun hc => ?_) (fun hc => ?_) | refine cnd rfl (fun hc => ?_) (fun hc => ?_) | ((first | refine o_none rfl ?_ | refine o_none_ ?_ | refine o_yes rfl rfl rfl ?_ | refine o_yes_ rfl rfl ?_); first | refine st_index (rowD ⟨c, kd, nm, p, oks, n⟩) lay_ok rfl rfl rfl rfl (by omega) hat ?_ | refine st_callG [3,6] 1 (hdo') b14 rfl rfl rfl rfl rfl (by (repeat' first | exact trivial | refine And.intro ?_ ?_ | rfl); first | done | fail) rfl ?_ | refine st_pure (hal) b15 rfl rfl rfl rfl ?_) | refine gd rfl rfl rfl (fun hg => ?_) (fun hg => ?_) | refine gn rfl rfl rfl (fun hg => ?_) (fun hg => ?_) | refine dwr (by omega) ?_ | refine dwl ?_ | refine dws lay_ok rfl rfl rfl rfl rfl rfl rfl ?_ | refine dwu lay_ok rfl rfl rfl rfl rfl rfl rfl rfl rfl ?_ | refine dw_end ?_ | refine dw_skip rfl rfl rfl ?_ | refine dwn lay_ok rfl rfl rfl rfl rfl ?_ | refine dwG [3,6] rfl rfl rfl rfl (by refine st_callG [3,6] 1 (hdo') b14 rfl rfl rfl rfl rfl (by (repeat' first | exact trivial | refine And.intro ?_ ?_ | rfl); first | done | fail) rfl ?_; exact fin rfl) rfl rfl rfl rfl rfl ?_ | refine dwb rfl rfl rfl rfl rfl (by (first | refine st_index (rowD ⟨c, kd, nm, p, oks, n⟩) lay_ok rfl rfl rfl rfl (by omega) hat ?_ | refine st_callG [3,6] 1 (hdo') b14 rfl rfl rfl rfl rfl (by (repeat' first | exact trivial | refine And.intro ?_ ?_ | rfl); first | done | fail) rfl ?_ | refine st_pure (hal) b15 rfl rfl rfl rfl ?_); exact fin rfl) rfl rfl ?_ | refine dwg rfl rfl rfl rfl rfl (by (first | refine st_index (rowD ⟨c, kd, nm, p, oks, n⟩) lay_ok rfl rfl rfl rfl (by omega) hat ?_ | refine st_callG [3,6] 1 (hdo') b14 rfl rfl rfl rfl rfl (by (repeat' first | exact trivial | refine And.intro ?_ ?_ | rfl); first | done | fail) rfl ?_ | refine st_pure (hal) b15 rfl rfl rfl rfl ?_); exact fin rfl) rfl rfl rfl rfl rfl ?_ | refine dw_dec rfl rfl rfl (fun hg => ?_) (fun hg => ?_) | refine dw_ndec rfl rfl rfl (fun hg => ?_) (fun hg => ?_)
      refine n_rr ((j + 1, l2, b2, b3)) ?_ (.of [7, 9] (by (repeat' first | exact trivial | refine And.intro ?_ ?_ | rfl | exact congrArg (fun z : Int => some (AV.st (.int .i64 z))) (show (j : Int) + 1 = ((j + 1 : Nat) : Int) by omega)); first | done | fail) (by (repeat' first | exact trivial | refine And.intro ?_ ?_ | rfl | exact congrArg (fun z : Int => some (AV.st (.int .i64 z))) (show (j : Int) + 1 = ((j + 1 : Nat) : Int) by omega)); first | done | fail) rfl) ?_
      · show ms.length - (j + 1) < ms.length - j; omega
      · exact ⟨hj, hj80, hC2, hB2, hB3⟩
    obtain ⟨c1, c2⟩ := catP_fits g3
    have hsn := snapsX_ok l b g4 c1 c2
    have hsn' := snapsX_ok l b' g5 c1 c2
    have hsame := same9_ok l l c1 c1 c2 c2
    rw [decide_eq_true rfl] at hsame
    repeat' first | refine wr (by omega) ?_ | refine ln ?_ | refine stp lay_ok rfl ?_ | refine fin ?_ | refine n_thn ?_ | refine n_blk ?_ | refine e_thn ?_ | refine e_hit ?_ | refine e_miss rfl ?_ | refine r_thn ?_ | refine r_blk ?_ | refine e_rr ?_ | refine r_rr ?_ | refine e_cr ?_ | refine r_cr ?_ | refine .seq ?_ | refine reg ?_ | refine .block ?_ | refine .skip ?_ | refine .ret ?_ | refine .exit ?_ | refine cndT rfl ?_ | refine cndF rfl ?_ | refine c_dec rfl (fun hc => ?_) (fun hc => ?_) | refine c_ndec rfl (fun hc => ?_) (fun hc => ?_) | refine cnd rfl (fun hc => ?_) (fun hc => ?_) | ((first | refine o_none rfl ?_ | refine o_none_ ?_ | refine o_yes rfl rfl rfl ?_ | refine o_yes_ rfl rfl ?_); first | refine st_callK [0,5] (hsn) b17 rfl rfl rfl rfl rfl (by (repeat' first | exact trivial | refine And.intro ?_ ?_ | rfl); first | done | fail) ?_ | refine st_callK [3,6] (hsn') b17 rfl rfl rfl rfl rfl (by (repeat' first | exact trivial | refine And.intro ?_ ?_ | rfl); first | done | fail) ?_ | refine st_pure (hsame) b18 rfl rfl rfl rfl ?_) | refine gd rfl rfl rfl (fun hg => ?_) (fun hg => ?_) | refine gn rfl rfl rfl (fun hg => ?_) (fun hg => ?_) | refine dwr (by omega) ?_ | refine dwl ?_ | refine dws lay_ok rfl rfl rfl rfl rfl rfl rfl ?_ | refine dwu lay_ok rfl rfl rfl rfl rfl rfl rfl rfl rfl ?_ | refine dw_end ?_ | refine dw_skip rfl rfl rfl ?_ | refine dwn lay_ok rfl rfl rfl rfl rfl ?_ | refine dwG [0,5] rfl rfl rfl rfl (by refine st_callK [0,5] (hsn) b17 rfl rfl rfl rfl rfl (by (repeat' first | exact trivial | refine And.intro ?_ ?_ | rfl); first | done | fail) ?_; exact fin rfl) rfl rfl rfl rfl rfl ?_ | refine dwG [3,6] rfl rfl rfl rfl (by refine st_callK [3,6] (hsn') b17 rfl rfl rfl rfl rfl (by (repeat' first | exact trivial | refine And.intro ?_ ?_ | rfl); first | done | fail) ?_; exact fin rfl) rfl rfl rfl rfl rfl ?_ | refine dwb rfl rfl rfl rfl rfl (by (first | refine st_callK [0,5] (hsn) b17 rfl rfl rfl rfl rfl (by (repeat' first | exact trivial | refine And.intro ?_ ?_ | rfl); first | done | fail) ?_ | refine st_callK [3,6] (hsn') b17 rfl rfl rfl rfl rfl (by (repeat' first | exact trivial | refine And.intro ?_ ?_ | rfl); first | done | fail) ?_ | refine st_pure (hsame) b18 rfl rfl rfl rfl ?_); exact fin rfl) rfl rfl ?_ | refine dwg rfl rfl rfl rfl rfl (by (first | refine st_callK [0,5] (hsn) b17 rfl rfl rfl rfl rfl (by (repeat' first | exact trivial | refine And.intro ?_ ?_ | rfl); first | done | fail) ?_ | refine st_callK [3,6] (hsn') b17 rfl rfl rfl rfl rfl (by (repeat' first | exact trivial | refine And.intro ?_ ?_ | rfl); first | done | fail) ?_ | refine st_pure (hsame) b18 rfl rfl rfl rfl ?_); exact fin rfl) rfl rfl rfl rfl rfl ?_ | refine dw_dec rfl rfl rfl (fun hg => ?_) (fun hg => ?_) | refine dw_ndec rfl rfl rfl (fun hg => ?_) (fun hg => ?_)
    all_goals first
      | (exfalso; omega)
      | skip
    all_goals
      refine f_r [] rfl trivial rfl ⟨?_, rfl⟩
      rfl
end Go.Proofs.YtligkfhplinjlaaGreatDoorFn
namespace Go.Proofs.YtligkfhplinjlaaGreatDoor
open Go.Proofs.YtligkfhplinjlaaGreatDoorAl Go.ChangeAt Go.RowKit
open Go.Proofs.YtligkfhplinjlaaGreatDoorFn
theorem own : ownKnob Tryz.prog.godebug = none := by kernel_rfl
theorem laidOut : laidOutB Tryz.prog = true := by kernel_rfl
def pars : List Par := [⟨22, false, ΦL 6 80 ΦD⟩, ⟨22, false, ΦL 6 80 ΦD⟩]
theorem pars_ok : ParsOk Tryz.prog pars :=
  ⟨rdLD, ⟨_, Tryz.underlying22, rfl⟩, by kernel_rfl, of_decide_eq_true (by kernel_rfl),
   rdLD, ⟨_, Tryz.underlying22, rfl⟩, by kernel_rfl, of_decide_eq_true (by kernel_rfl), trivial⟩
theorem law_ok : LawOk Tryz.prog 10 pars := by
  rintro svs ⟨_, _, rfl, ⟨r0, h0, hr0, hl0⟩, _, _, rfl, ⟨r1, h1, hr1, hl1⟩, rfl⟩
  cases h0
  obtain ⟨x0, rfl, hm0⟩ := rows_map (f := rowD) (Ok := DV.inMem) (fun row hm => ofD (hr0 row hm))
  simp only [List.length_map] at hl0
  cases h1
  obtain ⟨x1, rfl, hm1⟩ := rows_map (f := rowD) (Ok := DV.inMem) (fun row hm => ofD (hr1 row hm))
  simp only [List.length_map] at hl1
  have hreach : reachBytes ≤ 140737488351232 := by decide
  exact lawFrom_ok x0 x1
set_option maxRecDepth 100000 in
theorem law_lift (os : Os) (started : os.Started) (H : Type) (enc : TypeId × Value → H) :
    ReturnsInHanded {} Tryz.checked os 10 .any (fun w args => (Rows.catalogFromSpec.pre enc Tryz.prog Tryz.f10 [] false w args ∧ laidMetH Tryz.prog Rows.catalogFromRow.laid w) ∧ sizedMet enc Tryz.prog Tryz.f10 (OpenSpec.ofChange Rows.catalogFromSpec) false w args) (Rows.catalogFromSpec.post enc Tryz.prog Tryz.f10 false true false false) :=
  law_liftedL (C := Tryz.checked) (ps := pars) own started (by kernel_rfl) Tryz.func10
    (ChangeSpec.witness_shaped (enc := enc) (C := Tryz.checked) (os := os) (X := fun w _ => laidMetH Tryz.prog Rows.catalogFromRow.laid w) false (World.laidAll Tryz.prog os Rows.catalogFromRow.laid) #[.slice none 0 0, .slice none 0 0] 8 (World.laidAll_os _ _ _)
      (World.shaped_of_ZipB (by kernel_rfl) (by kernel_rfl)) (by kernel_rfl) (by kernel_rfl) (by kernel_rfl)
      (by rw [MakeChecks.laidMetH_plain _ _ _ (by kernel_rfl)]; exact laidMet_laidAll _ (by kernel_rfl) (by kernel_rfl)))
    laidOut rfl rfl Tryz.underlying4 rfl
    (fun ds hds => by
      match ds, hds with
      | [_, _], _ => rfl) pars_ok law_ok
theorem law_over : Rows.catalogFromRow.holds Tryz.pinned (OpenSpec.ofChange Rows.catalogFromSpec) :=
  OpenClaim.holds_of_wide 10 Tryz.f10 rfl rfl rfl rfl rfl rfl rfl ⟨rfl, rfl, rfl, rfl, rfl⟩ rfl rfl rfl rfl rfl (by kernel_rfl) Tryz.func10 (by kernel_rfl)
    (of_decide_eq_true (by kernel_rfl)) (by unfold Func.isWrapper; first | (rw [if_pos (by decide +kernel)]; kernel_rfl) | (rw [if_neg (by decide +kernel)]; exact ⟨rfl, rfl⟩))
    (fun os started H enc _ => law_lift os started H enc)
theorem CatalogFrom_holds : Rows.CatalogFromCardSaid :=
  Claim7.holds_tied_plain_at .later [] [.data, .pinned] true Rows.catalogFromCard.stood.harness Rows.catalogFromCard.stood.looks law_over (fun _ h => by cases h) (by kernel_rfl) (fun _ h => by cases h) catalogFrom_row_tie rfl ⟨rfl, rfl⟩ (by kernel_rfl) rfl
    (fun f fn hf hfn => by
      obtain rfl : f = 10 := Option.some.inj ((show Tryz.prog.funcNamed "becket/becketlaw09.CatalogFrom" = some 10 by kernel_rfl).symm.trans hf) |>.symm
      obtain rfl : fn = Tryz.f10 := (Option.some.inj (Tryz.func10.symm.trans hfn)).symm
      exact ⟨by kernel_rfl, fun j t ht => by
        have hm : t ∈ ([22, 22] : List Nat) := by
          have e := Array.mem_of_getElem? ht
          rw [Tryz.params10] at e
          simpa using e
        have hall : (([22, 22] : List Nat).all fun u => !Tryz.prog.wantsStandIn u) = true := by kernel_rfl
        exact (show Tryz.prog.wantsStandIn t = false by simpa using List.all_eq_true.1 hall t hm)⟩)
    (by kernel_rfl)
#print axioms CatalogFrom_holds
end Go.Proofs.YtligkfhplinjlaaGreatDoor
