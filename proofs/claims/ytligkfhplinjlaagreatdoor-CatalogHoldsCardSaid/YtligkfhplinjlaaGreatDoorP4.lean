/- The law CatalogHolds: for every input it says true: All chunks of what is planned are held; what nobody has isn't. No condition. -/
import Derived.Test.YtligkfhplinjlaaGreatDoorP3
import Derived.Test.YtligkfhplinjlaaGreatDoorRows
import Derived.Test.YtligkfhplinjlaaGreatDoorTie
import Derived.Test.YtligkfhplinjlaaGreatDoorCards
set_option linter.all false
namespace Go.Proofs.YtligkfhplinjlaaGreatDoorFn
open Go.Proofs.YtligkfhplinjlaaGreatDoorAl Go.Proofs.Tryz
attribute [local irreducible] IntKind.wrap CodeOk OpsL OpG ACalls thn inBlk rndR cutR WkR Wk fnR DW ExtOk partsOf
theorem b15 : HasBody prog 15 := ⟨f15, func15, Option.some_ne_none _, by decide⟩
/-! ### answers alike; a catalog of snapshots -/
def alikeB (a b : NS) : Bool := decide (a.code = b.code) && decide (a.n = b.n) && decide (a.names = b.names) && decide (a.keys = b.keys) && decide (a.entries = b.entries)
def NS.fit (a : NS) : Prop := a.names.length ≤ 4000000000 ∧ a.keys.length ≤ 4000000000 ∧ a.entries.length ≤ 4000000000 ∧ ∀ e ∈ a.entries, e.keys.length ≤ 4000000000
set_option maxHeartbeats 2000000 in
theorem alike_ok (a b : NS) (ha : a.fit) (hb : b.fit) : ACalls prog 15 0 [ansS a, ansS b] [] fun r h => r = B (alikeB a b) ∧ h = [] := by
  obtain ⟨a1, a2, a3, a4⟩ := ha
  obtain ⟨b1, b2, b3, b4⟩ := hb
  have h1 := same3_ok a.names b.names a1 b1
  have h2 := same3_ok a.keys b.keys a2 b2
  have h3 := sameAll_ok a.entries b.entries a3 b3 a4 b4
  have he : alikeB a b = (decide (a.code = b.code) && decide (a.n = b.n) && decide (a.names = b.names) && decide (a.keys = b.keys) && decide (a.entries = b.entries)) := rfl
  generalize decide (a.names = b.names) = X at *
  generalize decide (a.keys = b.keys) = Y at *
  generalize decide (a.entries = b.entries) = Z at *
  generalize alikeB a b = W at *
  obtain ⟨ac, an, ans, aks, aes⟩ := a
  obtain ⟨bc, bn, bns, bks, bes⟩ := b
  simp only at h1 h2 h3 he
  refine fnC lay_ok func15 rfl rfl rfl rfl rfl ?_
  cases X <;> cases Y <;> cases Z
  all_goals
    repeat' first | refine wr (by omega) ?_ | refine ln ?_ | refine stp lay_ok rfl ?_ | refine fin ?_ | refine n_thn ?_ | refine n_blk ?_ | refine e_thn ?_ | refine e_hit ?_ | refine e_miss rfl ?_ | refine r_thn ?_ | refine r_blk ?_ | refine e_rr ?_ | refine r_rr ?_ | refine e_cr ?_ | refine r_cr ?_ | refine .seq ?_ | refine reg ?_ | refine .block ?_ | refine .skip ?_ | refine .ret ?_ | refine .exit ?_ | refine cndT rfl ?_ | refine cndF rfl ?_ | refine c_dec rfl (fun hc => ?_) (fun hc => ?_) | refine c_ndec rfl (fun hc => ?_) (fun hc => ?_) | refine cnd rfl (fun hc => ?_) (fun hc => ?_) | ((first | refine o_none rfl ?_ | refine o_none_ ?_ | refine o_yes rfl rfl rfl ?_ | refine o_yes_ rfl rfl ?_); first | refine st_pure (h1) b36 rfl rfl rfl rfl ?_ | refine st_pure (h2) b36 rfl rfl rfl rfl ?_ | refine st_pure (h3) b37 rfl rfl rfl rfl ?_) | refine gd rfl rfl rfl (fun hg => ?_) (fun hg => ?_) | refine gn rfl rfl rfl (fun hg => ?_) (fun hg => ?_)
    all_goals
      refine f_r [] rfl trivial rfl ⟨?_, rfl⟩
      rw [he]
      clear h1 h2 h3 he
      first
        | (simp_all [retOf, B]; done)
        | rfl
theorem alike_same (a : NS) : alikeB a a = true := by
  unfold alikeB
  simp
theorem doP_fit {l : List NV} (c : Int) (o : OV) (h : CatP l) : (doP l c o).2.fit := by
  have hl := catP_len h
  have no : ∀ n, (noA n).fit := fun n => ⟨by simp [noA], by simp [noA], by simp [noA], by simp [noA]⟩
  unfold doP
  split
  · exact no _
  split
  · split
    · exact no _
    split
    · exact no _
    · exact no _
  split
  · refine ⟨?_, by simp, by simp, by simp⟩
    show (List.map _ _).length ≤ _
    rw [List.length_map]
    have := List.length_filter_le (isO c true) l
    omega
  split
  · exact ⟨by simp, by simp, by simp, by simp⟩
  split
  · refine ⟨by simp, ?_, by simp, by simp⟩
    have h1 := allS_len h
    obtain ⟨_, _, h3⟩ := addF_facts (fun _ => True) (allS l) [] .nil (by simp) (by simp)
    show (heldS l).length ≤ _
    unfold heldS sortS
    rw [List.length_map, List.length_mergeSort, List.length_map]
    simp only [List.length_nil] at h3
    omega
  split
  · exact no _
  split
  · rename_i s hs
    have hS : SnapP s := h.one s (List.mem_of_getElem? hs)
    obtain ⟨_, z2, z3⟩ := hS.small
    unfold oneP
    split
    · unfold addP
      repeat' split
      all_goals exact no _
    split
    · split <;> exact no _
    split
    · split <;> exact no _
    split
    · exact no _
    split
    · simp only
      split
      · rename_i e he
        have hm : e ∈ s.entries := List.mem_of_find?_eq_some he
        have := (z3 e hm).2.1
        exact ⟨by simp, by show e.keys.length ≤ _; omega, by simp, by simp⟩
      · exact no _
    · exact ⟨by simp, by simp, by show s.entries.length ≤ _; omega, fun e he => by have := (z3 e he).2.1; omega⟩
  · exact no _
theorem snapshotsOO_ok (b : List NV) (hb : b.length ≤ 4000000000) (hk : ∀ s ∈ b, s.fit) : ACalls prog 38 0 [.st (.sl 4 (b.map rowN))] [] fun r h => r = .lsl 0 4 0 (b.map rowN).length ∧ h = [(0, .arr 4 (b.map rowN))] := by
  refine fnC lay_ok func38 rfl rfl rfl rfl rfl ?_
  have hm : (List.map rowN b).length = b.length := List.length_map _
  have h1 := cloneN_ok b hb
  repeat' first | refine wr (by omega) ?_ | refine ln ?_ | refine stp lay_ok rfl ?_ | refine fin ?_ | refine n_thn ?_ | refine n_blk ?_ | refine e_thn ?_ | refine e_hit ?_ | refine e_miss rfl ?_ | refine r_thn ?_ | refine r_blk ?_ | refine e_rr ?_ | refine r_rr ?_ | refine e_cr ?_ | refine r_cr ?_ | refine .seq ?_ | refine reg ?_ | refine .block ?_ | refine .skip ?_ | refine .ret ?_ | refine .exit ?_ | refine cndT rfl ?_ | refine cndF rfl ?_ | refine c_dec rfl (fun hc => ?_) (fun hc => ?_) | refine c_ndec rfl (fun hc => ?_) (fun hc => ?_) | refine cnd rfl (fun hc => ?_) (fun hc => ?_) | ((first | refine o_none rfl ?_ | refine o_none_ ?_ | refine o_yes rfl rfl rfl ?_ | refine o_yes_ rfl rfl ?_); first | refine st_callF 1 (h1) b70 rfl rfl rfl rfl rfl rfl (by (repeat' first | exact trivial | refine And.intro ?_ ?_ | rfl); first | done | fail) rfl ?_) | refine gd rfl rfl rfl (fun hg => ?_) (fun hg => ?_) | refine gn rfl rfl rfl (fun hg => ?_) (fun hg => ?_)
  refine lpR (fun k => k ≤ b.length) (fun k => b.length - k) (fun k => [(9, I k), (3, .lsl 0 4 0 (b.map rowN).length)]) (fun k => [(0, .arr 4 (b.map rowN))]) (0) [3, 8] [0] [] rfl rfl rfl (.of [] (by (repeat' first | exact trivial | refine And.intro ?_ ?_ | rfl); first | done | fail) (by (repeat' first | exact trivial | refine And.intro ?_ ?_ | rfl); first | done | fail) rfl) ?_ ?_
  · exact Nat.zero_le _
  rintro k hk0
  refine nrm rfl rfl ?_
  repeat' first | refine wr (by omega) ?_ | refine ln ?_ | refine stp lay_ok rfl ?_ | refine fin ?_ | refine n_thn ?_ | refine n_blk ?_ | refine e_thn ?_ | refine e_hit ?_ | refine e_miss rfl ?_ | refine r_thn ?_ | refine r_blk ?_ | refine e_rr ?_ | refine r_rr ?_ | refine e_cr ?_ | refine r_cr ?_ | refine .seq ?_ | refine reg ?_ | refine .block ?_ | refine .skip ?_ | refine .ret ?_ | refine .exit ?_ | refine cndT rfl ?_ | refine cndF rfl ?_ | refine c_dec rfl (fun hc => ?_) (fun hc => ?_) | refine c_ndec rfl (fun hc => ?_) (fun hc => ?_) | refine cnd rfl (fun hc => ?_) (fun hc => ?_) | refine gd rfl rfl rfl (fun hg => ?_) (fun hg => ?_) | refine gn rfl rfl rfl (fun hg => ?_) (fun hg => ?_)
  · have hk' : k < b.length := by omega
    have hfit := hk _ (List.getElem_mem hk')
    have hcl := entries_ok b[k].entries hfit.2.1 (fun e he => (hfit.2.2 e he).2)
    have hat : (b.map rowN)[0 + ((k : Nat) : Int).toNat]? = some (rowN b[k]) := by simp [hk']
    have hset : (b.map rowN).set (0 + ((k : Nat) : Int).toNat) (putAt (rowN b[k]) 3 [.sl 3 (b[k].entries.map rowE)]) = b.map rowN := set_same hat
    generalize b[k] = e at *
    repeat' first | refine wr (by omega) ?_ | refine ln ?_ | refine stp lay_ok rfl ?_ | refine fin ?_ | refine n_thn ?_ | refine n_blk ?_ | refine e_thn ?_ | refine e_hit ?_ | refine e_miss rfl ?_ | refine r_thn ?_ | refine r_blk ?_ | refine e_rr ?_ | refine r_rr ?_ | refine e_cr ?_ | refine r_cr ?_ | refine .seq ?_ | refine reg ?_ | refine .block ?_ | refine .skip ?_ | refine .ret ?_ | refine .exit ?_ | refine cndT rfl ?_ | refine cndF rfl ?_ | refine c_dec rfl (fun hc => ?_) (fun hc => ?_) | refine c_ndec rfl (fun hc => ?_) (fun hc => ?_) | refine cnd rfl (fun hc => ?_) (fun hc => ?_) | ((first | refine o_none rfl ?_ | refine o_none_ ?_ | refine o_yes rfl rfl rfl ?_ | refine o_yes_ rfl rfl ?_); first | refine st_indexL lay_ok rfl rfl rfl rfl (by omega) (by omega) ?_ | refine st_loadE (rowN e) lay_ok rfl rfl rfl hat rfl rfl rfl ?_ | refine st_pure (hcl) b35 rfl rfl rfl rfl ?_) | refine o_none_ (st_storeE lay_ok rfl rfl rfl hat rfl rfl rfl rfl ?_) | refine gd rfl rfl rfl (fun hg => ?_) (fun hg => ?_) | refine gn rfl rfl rfl (fun hg => ?_) (fun hg => ?_)
    refine n_rr (k + 1) ?_ (.of [] (by (repeat' first | exact trivial | refine And.intro ?_ ?_ | rfl | exact congrArg (fun r => some (AO.arr 4 r)) hset); first | done | fail) (by (repeat' first | exact trivial | refine And.intro ?_ ?_ | rfl | exact congrArg (fun r => some (AO.arr 4 r)) hset); first | done | fail) rfl) ?_
    · omega
    · exact hk'
  · refine f_end (n0 := 1) (t'' := [(2, .lsl 0 4 0 (b.map rowN).length)]) (h'' := [(0, .arr 4 (b.map rowN))]) (WkR.of [0] (by (repeat' first | exact trivial | refine And.intro ?_ ?_ | rfl); first | done | fail) (by (repeat' first | exact trivial | refine And.intro ?_ ?_ | rfl); first | done | fail) rfl) rfl rfl ⟨?_, rfl⟩
    rfl
end Go.Proofs.YtligkfhplinjlaaGreatDoorFn
namespace Go.Proofs.YtligkfhplinjlaaGreatDoorFn
open Go.Proofs.YtligkfhplinjlaaGreatDoorAl Go.Proofs.Tryz
attribute [local irreducible] IntKind.wrap CodeOk OpsL OpG ACalls thn inBlk rndR cutR WkR Wk fnR DW ExtOk partsOf
theorem b16 : HasBody prog 16 := ⟨f16, func16, Option.some_ne_none _, by decide⟩
/-! ### all chunks of what is planned are held -/
theorem hasK_ok (l : List ByteArray) (s : ByteArray) (hl : l.length ≤ 4000000000) : ACalls prog 16 0 [.st (.sl 1 (l.map rowS)), Sx s] [] fun r h => r = B (memB s l) ∧ h = [] := by
  have hm : (List.map rowS l).length = l.length := List.length_map _
  refine fnC lay_ok func16 rfl rfl rfl rfl rfl ?_
  repeat' first | refine wr (by omega) ?_ | refine ln ?_ | refine stp lay_ok rfl ?_ | refine fin ?_ | refine n_thn ?_ | refine n_blk ?_ | refine e_thn ?_ | refine e_hit ?_ | refine e_miss rfl ?_ | refine r_thn ?_ | refine r_blk ?_ | refine e_rr ?_ | refine r_rr ?_ | refine e_cr ?_ | refine r_cr ?_ | refine .seq ?_ | refine reg ?_ | refine .block ?_ | refine .skip ?_ | refine .ret ?_ | refine .exit ?_ | refine cndT rfl ?_ | refine cndF rfl ?_ | refine c_dec rfl (fun hc => ?_) (fun hc => ?_) | refine c_ndec rfl (fun hc => ?_) (fun hc => ?_) | refine cnd rfl (fun hc => ?_) (fun hc => ?_) | refine gd rfl rfl rfl (fun hg => ?_) (fun hg => ?_) | refine gn rfl rfl rfl (fun hg => ?_) (fun hg => ?_)
  refine lpR (fun k => k ≤ l.length ∧ memB s (l.take k) = false) (fun k => l.length - k) (fun k => [(5, I k)]) (fun k => []) (0) [0, 1] [] [] rfl rfl rfl (.of [] (by (repeat' first | exact trivial | refine And.intro ?_ ?_ | rfl); first | done | fail) (by (repeat' first | exact trivial | refine And.intro ?_ ?_ | rfl); first | done | fail) rfl) ?_ ?_
  · exact ⟨Nat.zero_le _, rfl⟩
  rintro k ⟨g1, g2⟩
  refine nrm rfl rfl ?_
  by_cases hk : k < l.length
  · have hat := at_rowS hk
    have htk : memB s (l.take (k + 1)) = decide (s = l[k]) := by
      have : memB s (l.take (k + 1)) = (memB s (l.take k) || decide (s = l[k])) := by
        unfold memB
        rw [List.take_succ_eq_append_getElem hk, List.any_append]; simp
      rw [this, g2, Bool.false_or]
    have hmm : s = l[k] → memB s l = true := fun h => memB_iff.2 (h ▸ List.getElem_mem hk)
    generalize l[k] = y at *
    by_cases hy : y = s
    · rw [hmm hy.symm]
      repeat' first | refine wr (by omega) ?_ | refine ln ?_ | refine stp lay_ok rfl ?_ | refine fin ?_ | refine n_thn ?_ | refine n_blk ?_ | refine e_thn ?_ | refine e_hit ?_ | refine e_miss rfl ?_ | refine r_thn ?_ | refine r_blk ?_ | refine e_rr ?_ | refine r_rr ?_ | refine e_cr ?_ | refine r_cr ?_ | refine .seq ?_ | refine reg ?_ | refine .block ?_ | refine .skip ?_ | refine .ret ?_ | refine .exit ?_ | refine cndT rfl ?_ | refine cndF rfl ?_ | refine c_dec rfl (fun hc => ?_) (fun hc => ?_) | refine c_ndec rfl (fun hc => ?_) (fun hc => ?_) | refine cnd rfl (fun hc => ?_) (fun hc => ?_) | ((first | refine o_none rfl ?_ | refine o_none_ ?_ | refine o_yes rfl rfl rfl ?_ | refine o_yes_ rfl rfl ?_); first | refine st_index [SV.str y] lay_ok rfl rfl rfl rfl (by omega) hat ?_) | refine gd rfl rfl rfl (fun hg => ?_) (fun hg => ?_) | refine gn rfl rfl rfl (fun hg => ?_) (fun hg => ?_)
      all_goals first
        | (exfalso; omega)
        | (exfalso; contradiction)
        | skip
      refine f_r [] rfl trivial rfl ⟨?_, rfl⟩
      rfl
    · repeat' first | refine wr (by omega) ?_ | refine ln ?_ | refine stp lay_ok rfl ?_ | refine fin ?_ | refine n_thn ?_ | refine n_blk ?_ | refine e_thn ?_ | refine e_hit ?_ | refine e_miss rfl ?_ | refine r_thn ?_ | refine r_blk ?_ | refine e_rr ?_ | refine r_rr ?_ | refine e_cr ?_ | refine r_cr ?_ | refine .seq ?_ | refine reg ?_ | refine .block ?_ | refine .skip ?_ | refine .ret ?_ | refine .exit ?_ | refine cndT rfl ?_ | refine cndF rfl ?_ | refine c_dec rfl (fun hc => ?_) (fun hc => ?_) | refine c_ndec rfl (fun hc => ?_) (fun hc => ?_) | refine cnd rfl (fun hc => ?_) (fun hc => ?_) | ((first | refine o_none rfl ?_ | refine o_none_ ?_ | refine o_yes rfl rfl rfl ?_ | refine o_yes_ rfl rfl ?_); first | refine st_index [SV.str y] lay_ok rfl rfl rfl rfl (by omega) hat ?_) | refine gd rfl rfl rfl (fun hg => ?_) (fun hg => ?_) | refine gn rfl rfl rfl (fun hg => ?_) (fun hg => ?_)
      all_goals first
        | (exfalso; omega)
        | (exfalso; contradiction)
        | skip
      refine n_rr (k + 1) ?_ (.of [] (by (repeat' first | exact trivial | refine And.intro ?_ ?_ | rfl | exact congrArg (fun z : Int => some (AV.st (.int .i64 z))) (show (k : Int) + 1 = ((k + 1 : Nat) : Int) by omega)); first | done | fail) (by (repeat' first | exact trivial | refine And.intro ?_ ?_ | rfl | exact congrArg (fun z : Int => some (AV.st (.int .i64 z))) (show (k : Int) + 1 = ((k + 1 : Nat) : Int) by omega)); first | done | fail) rfl) ?_
      · omega
      · exact ⟨hk, by rw [htk]; exact decide_eq_false (fun h => hy h.symm)⟩
  · have hke : k = l.length := by omega
    subst hke
    rw [List.take_length] at g2
    rw [g2]
    repeat' first | refine wr (by omega) ?_ | refine ln ?_ | refine stp lay_ok rfl ?_ | refine fin ?_ | refine n_thn ?_ | refine n_blk ?_ | refine e_thn ?_ | refine e_hit ?_ | refine e_miss rfl ?_ | refine r_thn ?_ | refine r_blk ?_ | refine e_rr ?_ | refine r_rr ?_ | refine e_cr ?_ | refine r_cr ?_ | refine .seq ?_ | refine reg ?_ | refine .block ?_ | refine .skip ?_ | refine .ret ?_ | refine .exit ?_ | refine cndT rfl ?_ | refine cndF rfl ?_ | refine c_dec rfl (fun hc => ?_) (fun hc => ?_) | refine c_ndec rfl (fun hc => ?_) (fun hc => ?_) | refine cnd rfl (fun hc => ?_) (fun hc => ?_) | refine gd rfl rfl rfl (fun hg => ?_) (fun hg => ?_) | refine gn rfl rfl rfl (fun hg => ?_) (fun hg => ?_)
    all_goals first
      | (exfalso; omega)
      | skip
    refine f_r [] rfl trivial rfl ⟨?_, rfl⟩
    rfl
theorem mem_sortS {x : ByteArray} {S : List ByteArray} : x ∈ sortS S ↔ x ∈ S := by
  unfold sortS
  rw [List.mem_map]
  constructor
  · rintro ⟨y, hy, rfl⟩
    rw [(List.mergeSort_perm _ _).mem_iff, List.mem_map] at hy
    obtain ⟨z, hz, rfl⟩ := hy
    exact hz
  · intro hx
    exact ⟨x.data.toList, by rw [(List.mergeSort_perm _ _).mem_iff]; exact List.mem_map.2 ⟨x, hx, rfl⟩, rfl⟩
theorem mem_addF {x : ByteArray} : ∀ {l S : List ByteArray}, memB x (l.foldl addS S) = (memB x S || memB x l)
  | [], S => by simp [memB]
  | k :: r, S => by
    rw [List.foldl_cons, mem_addF, mem_addS, memB_cons, Bool.or_assoc]
theorem held_mem {l : List NV} {k : ByteArray} (h : k ∈ allS l) : memB k (heldS l) = true := by
  rw [memB_iff]
  unfold heldS
  rw [mem_sortS, ← memB_iff, mem_addF, memB_iff.2 h]
  simp
theorem held_len (l : List NV) : (heldS l).length ≤ (allS l).length := by
  obtain ⟨_, _, h3⟩ := addF_facts (fun _ => True) (allS l) [] .nil (by simp) (by simp)
  unfold heldS sortS
  rw [List.length_map, List.length_mergeSort, List.length_map]
  simpa using h3
end Go.Proofs.YtligkfhplinjlaaGreatDoorFn
namespace Go.Proofs.YtligkfhplinjlaaGreatDoorFn
open Go.Proofs.YtligkfhplinjlaaGreatDoorAl Go.Proofs.Tryz
attribute [local irreducible] IntKind.wrap CodeOk OpsL OpG ACalls thn inBlk rndR cutR WkR Wk fnR DW ExtOk partsOf
theorem plan_facts (l : List NV) (c : Int) (nm : ByteArray) : (doP l c ⟨7, nm, ⟨#[]⟩, [], 0⟩).1 = l ∧ ∀ e ∈ (doP l c ⟨7, nm, ⟨#[]⟩, [], 0⟩).2.entries, ∀ k ∈ e.keys, k ∈ allS l := by
  have no : ∀ n, ∀ e ∈ (noA n).entries, ∀ k ∈ e.keys, k ∈ allS l := fun n e he => by simp [noA] at he
  cases hr : reqOk c ⟨7, nm, ⟨#[]⟩, [], 0⟩ with
  | false =>
    have e : doP l c ⟨7, nm, ⟨#[]⟩, [], 0⟩ = (l, noA 1) := by unfold doP; rw [if_pos hr]
    rw [e]; exact ⟨rfl, no 1⟩
  | true =>
    cases hf : l.findIdx? (isS c nm) with
    | none => rw [doP_none hr (by simp) hf]; exact ⟨rfl, no 3⟩
    | some i =>
      obtain ⟨hi, _⟩ := findS_some hf
      rw [doP_some hr (by simp) hf hi]
      unfold oneP
      rw [if_neg (by simp), if_neg (by simp), if_neg (by simp)]
      split
      · exact ⟨rfl, no 6⟩
      · rw [if_neg (by simp)]
        refine ⟨rfl, fun e he k hk => ?_⟩
        exact List.mem_flatMap.2 ⟨l[i], List.getElem_mem hi, List.mem_flatMap.2 ⟨e, he, hk⟩⟩
theorem allS_take {l : List NV} {k : Nat} (h : k < l.length) : (allS (l.take (k + 1))).length = (allS (l.take k)).length + (l[k].entries.flatMap (·.keys)).length := by
  rw [List.take_succ_eq_append_getElem h]
  unfold allS
  rw [List.flatMap_append, List.length_append]; simp
theorem keysE_take {es : List EV} {k : Nat} (h : k < es.length) : ((es.take (k + 1)).flatMap (·.keys)).length = ((es.take k).flatMap (·.keys)).length + es[k].keys.length := by
  rw [List.take_succ_eq_append_getElem h, List.flatMap_append, List.length_append]; simp
theorem flat_take_le (es : List EV) (k : Nat) : ((es.take k).flatMap (·.keys)).length ≤ (es.flatMap (·.keys)).length := by
  have e : (es.flatMap (·.keys)).length = ((es.take k).flatMap (·.keys)).length + ((es.drop k).flatMap (·.keys)).length := by
    rw [← List.length_append, ← List.flatMap_append, List.take_append_drop]
  omega
theorem req9 : reqOk 0 ⟨9, ⟨#[]⟩, ⟨#[]⟩, [], 0⟩ = true := by kernel_rfl
set_option maxHeartbeats 16000000 in
set_option maxRecDepth 4000 in
theorem lawHolds_ok (ds : List DV) (cl : Int) (nm : ByteArray) : ACalls prog 7 0 [.st (.sl 6 (ds.map rowD)), I cl, Sx nm] [] fun r h => r = B true ∧ h = [] := by
  have hup := up9_ok
  have hsh := shortD_ok ds
  have hN := newC_ok
  have hm : (List.map rowD ds).length = ds.length := List.length_map _
  cases hS : shortD ds <;> rw [hS] at hsh
  · refine fnC lay_ok func7 rfl rfl rfl rfl rfl ?_
    repeat' first | refine wr (by omega) ?_ | refine ln ?_ | refine stp lay_ok rfl ?_ | refine fin ?_ | refine n_thn ?_ | refine n_blk ?_ | refine e_thn ?_ | refine e_hit ?_ | refine e_miss rfl ?_ | refine r_thn ?_ | refine r_blk ?_ | refine e_rr ?_ | refine r_rr ?_ | refine e_cr ?_ | refine r_cr ?_ | refine .seq ?_ | refine reg ?_ | refine .block ?_ | refine .skip ?_ | refine .ret ?_ | refine .exit ?_ | refine cndT rfl ?_ | refine cndF rfl ?_ | refine c_dec rfl (fun hc => ?_) (fun hc => ?_) | refine c_ndec rfl (fun hc => ?_) (fun hc => ?_) | refine cnd rfl (fun hc => ?_) (fun hc => ?_) | ((first | refine o_none rfl ?_ | refine o_none_ ?_ | refine o_yes rfl rfl rfl ?_ | refine o_yes_ rfl rfl ?_); first | refine st_pure (hup) b11 rfl rfl rfl rfl ?_ | refine st_pure (hsh) b12 rfl rfl rfl rfl ?_ | refine st_callF 2 (hN) b13 rfl rfl rfl rfl rfl rfl (by (repeat' first | exact trivial | refine And.intro ?_ ?_ | rfl); first | done | fail) rfl ?_) | refine gd rfl rfl rfl (fun hg => ?_) (fun hg => ?_) | refine gn rfl rfl rfl (fun hg => ?_) (fun hg => ?_)
    refine f_r [] rfl trivial rfl ⟨?_, rfl⟩
    rfl
  by_cases hn2 : nm.size ≤ 2000
  case neg =>
    refine fnC lay_ok func7 rfl rfl rfl rfl rfl ?_
    repeat' first | refine wr (by omega) ?_ | refine ln ?_ | refine stp lay_ok rfl ?_ | refine fin ?_ | refine n_thn ?_ | refine n_blk ?_ | refine e_thn ?_ | refine e_hit ?_ | refine e_miss rfl ?_ | refine r_thn ?_ | refine r_blk ?_ | refine e_rr ?_ | refine r_rr ?_ | refine e_cr ?_ | refine r_cr ?_ | refine .seq ?_ | refine reg ?_ | refine .block ?_ | refine .skip ?_ | refine .ret ?_ | refine .exit ?_ | refine cndT rfl ?_ | refine cndF rfl ?_ | refine c_dec rfl (fun hc => ?_) (fun hc => ?_) | refine c_ndec rfl (fun hc => ?_) (fun hc => ?_) | refine cnd rfl (fun hc => ?_) (fun hc => ?_) | ((first | refine o_none rfl ?_ | refine o_none_ ?_ | refine o_yes rfl rfl rfl ?_ | refine o_yes_ rfl rfl ?_); first | refine st_pure (hup) b11 rfl rfl rfl rfl ?_ | refine st_pure (hsh) b12 rfl rfl rfl rfl ?_ | refine st_callF 2 (hN) b13 rfl rfl rfl rfl rfl rfl (by (repeat' first | exact trivial | refine And.intro ?_ ?_ | rfl); first | done | fail) rfl ?_) | refine gd rfl rfl rfl (fun hg => ?_) (fun hg => ?_) | refine gn rfl rfl rfl (fun hg => ?_) (fun hg => ?_)
    all_goals first
      | (exfalso; omega)
      | skip
    all_goals
      refine f_r [] rfl trivial rfl ⟨?_, rfl⟩
      rfl
  refine fnC lay_ok func7 rfl rfl rfl rfl rfl ?_
  repeat' first | refine wr (by omega) ?_ | refine ln ?_ | refine stp lay_ok rfl ?_ | refine fin ?_ | refine n_thn ?_ | refine n_blk ?_ | refine e_thn ?_ | refine e_hit ?_ | refine e_miss rfl ?_ | refine r_thn ?_ | refine r_blk ?_ | refine e_rr ?_ | refine r_rr ?_ | refine e_cr ?_ | refine r_cr ?_ | refine .seq ?_ | refine reg ?_ | refine .block ?_ | refine .skip ?_ | refine .ret ?_ | refine .exit ?_ | refine cndT rfl ?_ | refine cndF rfl ?_ | refine c_dec rfl (fun hc => ?_) (fun hc => ?_) | refine c_ndec rfl (fun hc => ?_) (fun hc => ?_) | refine cnd rfl (fun hc => ?_) (fun hc => ?_) | ((first | refine o_none rfl ?_ | refine o_none_ ?_ | refine o_yes rfl rfl rfl ?_ | refine o_yes_ rfl rfl ?_); first | refine st_pure (hup) b11 rfl rfl rfl rfl ?_ | refine st_pure (hsh) b12 rfl rfl rfl rfl ?_ | refine st_callF 2 (hN) b13 rfl rfl rfl rfl rfl rfl (by (repeat' first | exact trivial | refine And.intro ?_ ?_ | rfl); first | done | fail) rfl ?_) | refine gd rfl rfl rfl (fun hg => ?_) (fun hg => ?_) | refine gn rfl rfl rfl (fun hg => ?_) (fun hg => ?_)
  all_goals first
    | (exfalso; omega)
    | skip
  refine lpR (fun (k, l, b) => k ≤ ds.length ∧ k ≤ 80 ∧ CatP l ∧ (b = true → l = [])) (fun (k, l, b) => ds.length - k) (fun (k, l, b) => [(10, I k)]) (fun (k, l, b) => [(0, .cells [.lsl 2 4 (gN b) (l.map rowN).length]), (2, .arr 4 (l.map rowN ++ gR b))]) ((0, [], false)) [0, 1, 2, 7, 9] [0] [1] rfl rfl rfl (.of [1] (by (repeat' first | exact trivial | refine And.intro ?_ ?_ | rfl); first | done | fail) (by (repeat' first | exact trivial | refine And.intro ?_ ?_ | rfl); first | done | fail) rfl) ?_ ?_
  · exact ⟨Nat.zero_le _, Nat.zero_le _, catP_nil, by simp⟩
  rintro ⟨k, l, b⟩ ⟨g1, g2, g3, g4⟩
  refine nrm rfl rfl ?_
  by_cases hk : k < ds.length ∧ k < 80
  · obtain ⟨hk, hk80⟩ := hk
    have hat : (ds.map rowD)[((k : Nat) : Int).toNat]? = some (rowD ds[k]) := by simp [hk]
    have hfit := shortD_at hS hk hk80
    generalize ds[k] = d at *
    obtain ⟨c, o⟩ := d
    simp only at hfit
    have hdo := do_ok l b c o g4 g3 hfit
    have hC2 := doP_cat c o g3
    have hB2 := fun h => doB_nil (c := c) (o := o) g4 h
    generalize doP l c o = R at *
    generalize doB l b c o = b2 at *
    obtain ⟨l2, a⟩ := R
    simp only at hC2 hB2 hdo
    obtain ⟨kd, nm, p, oks, n⟩ := o
    repeat' first | refine wr (by omega) ?_ | refine ln ?_ | refine stp lay_ok rfl ?_ | refine fin ?_ | refine n_thn ?_ | refine n_blk ?_ | refine e_thn ?_ | refine e_hit ?_ | refine e_miss rfl ?_ | refine r_thn ?_ | refine r_blk ?_ | refine e_rr ?_ | refine r_rr ?_ | refine e_cr ?_ | refine r_cr ?_ | refine .seq ?_ | refine reg ?_ | refine .block ?_ | refine .skip ?_ | refine .ret ?_ | refine .exit ?_ | refine cndT rfl ?_ | refine cndF rfl ?_ | refine c_dec rfl (fun hc => ?_) (fun hc => ?_) | refine c_ndec rfl (fun hc => ?_) (fun hc => ?_) | refine cnd rfl (fun hc => ?_) (fun hc => ?_) | refine gd rfl rfl rfl (fun hg => ?_) (fun hg => ?_) | refine gn rfl rfl rfl (fun hg => ?_) (fun hg => ?_)
    all_goals first
      | (exfalso; omega)
      | skip
    refine dreg [(0, [], [50, 51, 52, 53, 54, 55, 56, 57, 58, 59]), (1, [], [49, 51, 55, 56, 57, 58, 59]), (2, [], [49, 50, 55, 56, 57, 58, 59]), (3, [1, 2], [49, 55, 56, 57, 58, 59]), (4, [1, 2, 3], [49, 55, 56, 57, 58, 59]), (5, [1, 2, 3, 4], [49, 55, 56, 57, 58, 59]), (6, [], [49, 50, 51, 52, 53, 54, 56]), (7, [], [49, 50, 51, 52, 53, 54, 55]), (8, [6, 7], [49, 50, 51, 52, 53, 54]), (9, [6, 7, 8], [49, 50, 51, 52, 53, 54]), (10, [6, 7, 8, 9], [49, 50, 51, 52, 53, 54]), (11, [0, 1, 2, 3, 4, 5, 6, 7, 8, 9, 10], [])] mixed (by kernel_rfl) ?_
    repeat' first | refine wr (by omega) ?_ | refine ln ?_ | refine stp lay_ok rfl ?_ | refine fin ?_ | refine n_thn ?_ | refine n_blk ?_ | refine e_thn ?_ | refine e_hit ?_ | refine e_miss rfl ?_ | refine r_thn ?_ | refine r_blk ?_ | refine e_rr ?_ | refine r_rr ?_ | refine e_cr ?_ | refine r_cr ?_ | refine .seq ?_ | refine reg ?_ | refine .block ?_ | refine .skip ?_ | refine .ret ?_ | refine .exit ?_ | refine cndT rfl ?_ | refine cndF rfl ?_ | refine c_dec rfl (fun hc => ?_) (fun hc => ?_) | refine c_ndec rfl (fun hc => ?_) (fun hc => ?_) | refine cnd rfl (fun hc => ?_) (fun hc => ?_) | ((first | refine o_none rfl ?_ | refine o_none_ ?_ | refine o_yes rfl rfl rfl ?_ | refine o_yes_ rfl rfl ?_); first | refine st_index (rowD ⟨c, kd, nm, p, oks, n⟩) lay_ok rfl rfl rfl rfl (by omega) hat ?_ | refine st_callG [0,2] 1 (hdo) b14 rfl rfl rfl rfl rfl (by (repeat' first | exact trivial | refine And.intro ?_ ?_ | rfl); first | done | fail) rfl ?_) | refine gd rfl rfl rfl (fun hg => ?_) (fun hg => ?_) | refine gn rfl rfl rfl (fun hg => ?_) (fun hg => ?_) | refine dwr (by omega) ?_ | refine dwl ?_ | refine dws lay_ok rfl rfl rfl rfl rfl rfl rfl ?_ | refine dwu lay_ok rfl rfl rfl rfl rfl rfl rfl rfl rfl ?_ | refine dw_end ?_ | refine dw_skip rfl rfl rfl ?_ | refine dwn lay_ok rfl rfl rfl rfl rfl ?_ | refine dwG [0,2] rfl rfl rfl rfl (by refine st_callG [0,2] 1 (hdo) b14 rfl rfl rfl rfl rfl (by (repeat' first | exact trivial | refine And.intro ?_ ?_ | rfl); first | done | fail) rfl ?_; exact fin rfl) rfl rfl rfl rfl rfl ?_ | refine dwb rfl rfl rfl rfl rfl (by (first | refine st_index (rowD ⟨c, kd, nm, p, oks, n⟩) lay_ok rfl rfl rfl rfl (by omega) hat ?_ | refine st_callG [0,2] 1 (hdo) b14 rfl rfl rfl rfl rfl (by (repeat' first | exact trivial | refine And.intro ?_ ?_ | rfl); first | done | fail) rfl ?_); exact fin rfl) rfl rfl ?_ | refine dwg rfl rfl rfl rfl rfl (by (first | refine st_index (rowD ⟨c, kd, nm, p, oks, n⟩) lay_ok rfl rfl rfl rfl (by omega) hat ?_ | refine st_callG [0,2] 1 (hdo) b14 rfl rfl rfl rfl rfl (by (repeat' first | exact trivial | refine And.intro ?_ ?_ | rfl); first | done | fail) rfl ?_); exact fin rfl) rfl rfl rfl rfl rfl ?_ | refine dw_dec rfl rfl rfl (fun hg => ?_) (fun hg => ?_) | refine dw_ndec rfl rfl rfl (fun hg => ?_) (fun hg => ?_)
    refine n_rr ((k + 1, l2, b2)) ?_ (.of [3] (by (repeat' first | exact trivial | refine And.intro ?_ ?_ | rfl | exact congrArg (fun z : Int => some (AV.st (.int .i64 z))) (show (k : Int) + 1 = ((k + 1 : Nat) : Int) by omega)); first | done | fail) (by (repeat' first | exact trivial | refine And.intro ?_ ?_ | rfl | exact congrArg (fun z : Int => some (AV.st (.int .i64 z))) (show (k : Int) + 1 = ((k + 1 : Nat) : Int) by omega)); first | done | fail) rfl) ?_
    · show ds.length - (k + 1) < ds.length - k; omega
    · exact ⟨hk, hk80, hC2, hB2⟩
  obtain ⟨c1, c2⟩ := catP_fits g3
  have hcl := catP_len g3
  have hh := do_nil l b 0 9 0 ⟨#[]⟩ ⟨#[]⟩ g4 g3 (by decide) (by decide)
  have hp := do_nil l b cl 7 0 nm ⟨#[]⟩ g4 g3 (by omega) (by decide)
  have e9 : doP l 0 ⟨9, ⟨#[]⟩, ⟨#[]⟩, [], 0⟩ = (l, ⟨0, 0, [], heldS l, []⟩) := by unfold doP; rw [if_neg (by rw [req9]; simp), if_neg (by decide), if_neg (by decide), if_neg (by decide), if_pos rfl]
  rw [e9, doB_keep (by simp) (by simp) (by simp)] at hh
  obtain ⟨f1, f2⟩ := plan_facts l cl nm
  rw [f1, doB_keep (by simp) (by simp) (by simp)] at hp
  have hfit := doP_fit cl ⟨7, nm, ⟨#[]⟩, [], 0⟩ g3
  generalize (doP l cl ⟨7, nm, ⟨#[]⟩, [], 0⟩).2 = a at *
  obtain ⟨xc, xn, xs, xk, es⟩ := a
  have hes : es.length ≤ 4000000000 := hfit.2.2.1
  have hek : ∀ e ∈ es, e.keys.length ≤ 4000000000 := hfit.2.2.2
  simp only at f2
  dsimp only [ansS] at hh hp
  have hhl := held_len l
  have hal := allS_len g3
  have hhm := fun k hk => held_mem (l := l) (k := k) hk
  have hhas := fun s => hasK_ok (heldS l) s (by omega)
  have hsn := snapsX_ok l b g4 c1 c2
  generalize heldS l = H at *
  have hmH : (List.map rowS H).length = H.length := List.length_map _
  have hme : (List.map rowE es).length = es.length := List.length_map _
  have hml : (List.map rowN l).length = l.length := List.length_map _
  repeat' first | refine wr (by omega) ?_ | refine ln ?_ | refine stp lay_ok rfl ?_ | refine fin ?_ | refine n_thn ?_ | refine n_blk ?_ | refine e_thn ?_ | refine e_hit ?_ | refine e_miss rfl ?_ | refine r_thn ?_ | refine r_blk ?_ | refine e_rr ?_ | refine r_rr ?_ | refine e_cr ?_ | refine r_cr ?_ | refine .seq ?_ | refine reg ?_ | refine .block ?_ | refine .skip ?_ | refine .ret ?_ | refine .exit ?_ | refine cndT rfl ?_ | refine cndF rfl ?_ | refine c_dec rfl (fun hc => ?_) (fun hc => ?_) | refine c_ndec rfl (fun hc => ?_) (fun hc => ?_) | refine cnd rfl (fun hc => ?_) (fun hc => ?_) | ((first | refine o_none rfl ?_ | refine o_none_ ?_ | refine o_yes rfl rfl rfl ?_ | refine o_yes_ rfl rfl ?_); first | refine st_callG [0,2] 1 (hh) b14 rfl rfl rfl rfl rfl (by (repeat' first | exact trivial | refine And.intro ?_ ?_ | rfl); first | done | fail) rfl ?_ | refine st_callG [0,3] 1 (hp) b14 rfl rfl rfl rfl rfl (by (repeat' first | exact trivial | refine And.intro ?_ ?_ | rfl); first | done | fail) rfl ?_) | refine gd rfl rfl rfl (fun hg => ?_) (fun hg => ?_) | refine gn rfl rfl rfl (fun hg => ?_) (fun hg => ?_) | refine dwr (by omega) ?_ | refine dwl ?_ | refine dws lay_ok rfl rfl rfl rfl rfl rfl rfl ?_ | refine dwu lay_ok rfl rfl rfl rfl rfl rfl rfl rfl rfl ?_ | refine dw_end ?_ | refine dw_skip rfl rfl rfl ?_ | refine dwn lay_ok rfl rfl rfl rfl rfl ?_ | refine dwG [0,2] rfl rfl rfl rfl (by refine st_callG [0,2] 1 (hh) b14 rfl rfl rfl rfl rfl (by (repeat' first | exact trivial | refine And.intro ?_ ?_ | rfl); first | done | fail) rfl ?_; exact fin rfl) rfl rfl rfl rfl rfl ?_ | refine dwG [0,3] rfl rfl rfl rfl (by refine st_callG [0,3] 1 (hp) b14 rfl rfl rfl rfl rfl (by (repeat' first | exact trivial | refine And.intro ?_ ?_ | rfl); first | done | fail) rfl ?_; exact fin rfl) rfl rfl rfl rfl rfl ?_ | refine dwb rfl rfl rfl rfl rfl (by (first | refine st_callG [0,2] 1 (hh) b14 rfl rfl rfl rfl rfl (by (repeat' first | exact trivial | refine And.intro ?_ ?_ | rfl); first | done | fail) rfl ?_ | refine st_callG [0,3] 1 (hp) b14 rfl rfl rfl rfl rfl (by (repeat' first | exact trivial | refine And.intro ?_ ?_ | rfl); first | done | fail) rfl ?_); exact fin rfl) rfl rfl ?_ | refine dwg rfl rfl rfl rfl rfl (by (first | refine st_callG [0,2] 1 (hh) b14 rfl rfl rfl rfl rfl (by (repeat' first | exact trivial | refine And.intro ?_ ?_ | rfl); first | done | fail) rfl ?_ | refine st_callG [0,3] 1 (hp) b14 rfl rfl rfl rfl rfl (by (repeat' first | exact trivial | refine And.intro ?_ ?_ | rfl); first | done | fail) rfl ?_); exact fin rfl) rfl rfl rfl rfl rfl ?_ | refine dw_dec rfl rfl rfl (fun hg => ?_) (fun hg => ?_) | refine dw_ndec rfl rfl rfl (fun hg => ?_) (fun hg => ?_)
  all_goals first
    | (exfalso; omega)
    | skip
  all_goals
    refine lpR (fun i => i ≤ es.length) (fun i => es.length - i) (fun i => [(13, I i)]) (fun i => []) (0) [7, 9, 11, 12] [] [] rfl rfl rfl (.of [] (by (repeat' first | exact trivial | refine And.intro ?_ ?_ | rfl); first | done | fail) (by (repeat' first | exact trivial | refine And.intro ?_ ?_ | rfl); first | done | fail) rfl) ?_ ?_
    · exact Nat.zero_le _
    rintro i i1
    refine nrm rfl rfl ?_
    by_cases hi : i < es.length
    · have hat := at_rowE hi
      have hke := hek _ (List.getElem_mem hi)
      have hf2 := f2 _ (List.getElem_mem hi)
      generalize es[i] = e at *
      obtain ⟨p, z, ks⟩ := e
      simp only at hke hf2
      have hmk : (List.map rowS ks).length = ks.length := List.length_map _
      repeat' first | refine wr (by omega) ?_ | refine ln ?_ | refine stp lay_ok rfl ?_ | refine fin ?_ | refine n_thn ?_ | refine n_blk ?_ | refine e_thn ?_ | refine e_hit ?_ | refine e_miss rfl ?_ | refine r_thn ?_ | refine r_blk ?_ | refine e_rr ?_ | refine r_rr ?_ | refine e_cr ?_ | refine r_cr ?_ | refine .seq ?_ | refine reg ?_ | refine .block ?_ | refine .skip ?_ | refine .ret ?_ | refine .exit ?_ | refine cndT rfl ?_ | refine cndF rfl ?_ | refine c_dec rfl (fun hc => ?_) (fun hc => ?_) | refine c_ndec rfl (fun hc => ?_) (fun hc => ?_) | refine cnd rfl (fun hc => ?_) (fun hc => ?_) | refine gd rfl rfl rfl (fun hg => ?_) (fun hg => ?_) | refine gn rfl rfl rfl (fun hg => ?_) (fun hg => ?_)
      all_goals first
        | (exfalso; omega)
        | skip
      refine lpR (fun j => j ≤ ks.length) (fun j => ks.length - j) (fun j => [(14, I j)]) (fun j => []) (0) [7, 9, 11, 12, 13] [] [] rfl rfl rfl (.of [] (by (repeat' first | exact trivial | refine And.intro ?_ ?_ | rfl); first | done | fail) (by (repeat' first | exact trivial | refine And.intro ?_ ?_ | rfl); first | done | fail) rfl) ?_ ?_
      · exact Nat.zero_le _
      rintro j j1
      refine nrm rfl rfl ?_
      by_cases hj : j < ks.length
      · have hat2 := at_rowS hj
        have hmem := hhm _ (hf2 _ (List.getElem_mem hj))
        have hhk := hhas ks[j]
        rw [hmem] at hhk
        generalize ks[j] = y at *
        repeat' first | refine wr (by omega) ?_ | refine ln ?_ | refine stp lay_ok rfl ?_ | refine fin ?_ | refine n_thn ?_ | refine n_blk ?_ | refine e_thn ?_ | refine e_hit ?_ | refine e_miss rfl ?_ | refine r_thn ?_ | refine r_blk ?_ | refine e_rr ?_ | refine r_rr ?_ | refine e_cr ?_ | refine r_cr ?_ | refine .seq ?_ | refine reg ?_ | refine .block ?_ | refine .skip ?_ | refine .ret ?_ | refine .exit ?_ | refine cndT rfl ?_ | refine cndF rfl ?_ | refine c_dec rfl (fun hc => ?_) (fun hc => ?_) | refine c_ndec rfl (fun hc => ?_) (fun hc => ?_) | refine cnd rfl (fun hc => ?_) (fun hc => ?_) | ((first | refine o_none rfl ?_ | refine o_none_ ?_ | refine o_yes rfl rfl rfl ?_ | refine o_yes_ rfl rfl ?_); first | refine st_index [SV.str p, .int .i64 z, .sl 1 (ks.map rowS)] lay_ok rfl rfl rfl rfl (by omega) hat ?_) | refine gd rfl rfl rfl (fun hg => ?_) (fun hg => ?_) | refine gn rfl rfl rfl (fun hg => ?_) (fun hg => ?_)
        all_goals first
          | (exfalso; omega)
          | skip
        refine dreg [(0, [], [89, 90, 91, 92, 93, 94, 95, 96, 97]), (1, [0], [89, 90, 91, 92, 93, 94, 95, 96, 97]), (2, [], [87, 88, 91, 95]), (3, [2], [87, 88, 91, 95]), (4, [], [87, 88, 89, 90, 95]), (5, [2, 3, 4], [87, 88, 95]), (6, [2, 3, 4, 5], [87, 88, 95]), (7, [2, 3, 4, 5, 6], [87, 88, 95]), (8, [], [87, 88, 89, 90, 91, 92, 93, 94]), (9, [2, 3, 4, 5, 6, 7, 8], [87, 88]), (10, [2, 3, 4, 5, 6, 7, 8, 9], [87, 88]), (11, [0, 1, 2, 3, 4, 5, 6, 7, 8, 9, 10], []), (12, [0, 1, 2, 3, 4, 5, 6, 7, 8, 9, 10, 11], [])] mixed (by kernel_rfl) ?_
        repeat' first | refine wr (by omega) ?_ | refine ln ?_ | refine stp lay_ok rfl ?_ | refine fin ?_ | refine n_thn ?_ | refine n_blk ?_ | refine e_thn ?_ | refine e_hit ?_ | refine e_miss rfl ?_ | refine r_thn ?_ | refine r_blk ?_ | refine e_rr ?_ | refine r_rr ?_ | refine e_cr ?_ | refine r_cr ?_ | refine .seq ?_ | refine reg ?_ | refine .block ?_ | refine .skip ?_ | refine .ret ?_ | refine .exit ?_ | refine cndT rfl ?_ | refine cndF rfl ?_ | refine c_dec rfl (fun hc => ?_) (fun hc => ?_) | refine c_ndec rfl (fun hc => ?_) (fun hc => ?_) | refine cnd rfl (fun hc => ?_) (fun hc => ?_) | ((first | refine o_none rfl ?_ | refine o_none_ ?_ | refine o_yes rfl rfl rfl ?_ | refine o_yes_ rfl rfl ?_); first | refine st_index [SV.str p, .int .i64 z, .sl 1 (ks.map rowS)] lay_ok rfl rfl rfl rfl (by omega) hat ?_ | refine st_index [SV.str y] lay_ok rfl rfl rfl rfl (by omega) hat2 ?_ | refine st_pure (hhk) b16 rfl rfl rfl rfl ?_) | refine gd rfl rfl rfl (fun hg => ?_) (fun hg => ?_) | refine gn rfl rfl rfl (fun hg => ?_) (fun hg => ?_) | refine dwr (by omega) ?_ | refine dwl ?_ | refine dws lay_ok rfl rfl rfl rfl rfl rfl rfl ?_ | refine dwu lay_ok rfl rfl rfl rfl rfl rfl rfl rfl rfl ?_ | refine dw_end ?_ | refine dw_skip rfl rfl rfl ?_ | refine dwn lay_ok rfl rfl rfl rfl rfl ?_ | refine dwb rfl rfl rfl rfl rfl (by (first | refine st_index [SV.str p, .int .i64 z, .sl 1 (ks.map rowS)] lay_ok rfl rfl rfl rfl (by omega) hat ?_ | refine st_index [SV.str y] lay_ok rfl rfl rfl rfl (by omega) hat2 ?_ | refine st_pure (hhk) b16 rfl rfl rfl rfl ?_); exact fin rfl) rfl rfl ?_ | refine dwg rfl rfl rfl rfl rfl (by (first | refine st_index [SV.str p, .int .i64 z, .sl 1 (ks.map rowS)] lay_ok rfl rfl rfl rfl (by omega) hat ?_ | refine st_index [SV.str y] lay_ok rfl rfl rfl rfl (by omega) hat2 ?_ | refine st_pure (hhk) b16 rfl rfl rfl rfl ?_); exact fin rfl) rfl rfl rfl rfl rfl ?_ | refine dw_dec rfl rfl rfl (fun hg => ?_) (fun hg => ?_) | refine dw_ndec rfl rfl rfl (fun hg => ?_) (fun hg => ?_)
        all_goals first
          | (exfalso; omega)
          | skip
        refine n_rr (j + 1) ?_ (.of [] (by (repeat' first | exact trivial | refine And.intro ?_ ?_ | rfl | exact congrArg (fun z : Int => some (AV.st (.int .i64 z))) (show (j : Int) + 1 = ((j + 1 : Nat) : Int) by omega)); first | done | fail) (by (repeat' first | exact trivial | refine And.intro ?_ ?_ | rfl | exact congrArg (fun z : Int => some (AV.st (.int .i64 z))) (show (j : Int) + 1 = ((j + 1 : Nat) : Int) by omega)); first | done | fail) rfl) ?_
        · omega
        · omega
      · repeat' first | refine wr (by omega) ?_ | refine ln ?_ | refine stp lay_ok rfl ?_ | refine fin ?_ | refine n_thn ?_ | refine n_blk ?_ | refine e_thn ?_ | refine e_hit ?_ | refine e_miss rfl ?_ | refine r_thn ?_ | refine r_blk ?_ | refine e_rr ?_ | refine r_rr ?_ | refine e_cr ?_ | refine r_cr ?_ | refine .seq ?_ | refine reg ?_ | refine .block ?_ | refine .skip ?_ | refine .ret ?_ | refine .exit ?_ | refine cndT rfl ?_ | refine cndF rfl ?_ | refine c_dec rfl (fun hc => ?_) (fun hc => ?_) | refine c_ndec rfl (fun hc => ?_) (fun hc => ?_) | refine cnd rfl (fun hc => ?_) (fun hc => ?_) | ((first | refine o_none rfl ?_ | refine o_none_ ?_ | refine o_yes rfl rfl rfl ?_ | refine o_yes_ rfl rfl ?_); first | refine st_index [SV.str p, .int .i64 z, .sl 1 (ks.map rowS)] lay_ok rfl rfl rfl rfl (by omega) hat ?_) | refine gd rfl rfl rfl (fun hg => ?_) (fun hg => ?_) | refine gn rfl rfl rfl (fun hg => ?_) (fun hg => ?_) | refine dwr (by omega) ?_ | refine dwl ?_ | refine dws lay_ok rfl rfl rfl rfl rfl rfl rfl ?_ | refine dwu lay_ok rfl rfl rfl rfl rfl rfl rfl rfl rfl ?_ | refine dw_end ?_ | refine dw_skip rfl rfl rfl ?_ | refine dwn lay_ok rfl rfl rfl rfl rfl ?_ | refine dwb rfl rfl rfl rfl rfl (by (first | refine st_index [SV.str p, .int .i64 z, .sl 1 (ks.map rowS)] lay_ok rfl rfl rfl rfl (by omega) hat ?_); exact fin rfl) rfl rfl ?_ | refine dwg rfl rfl rfl rfl rfl (by (first | refine st_index [SV.str p, .int .i64 z, .sl 1 (ks.map rowS)] lay_ok rfl rfl rfl rfl (by omega) hat ?_); exact fin rfl) rfl rfl rfl rfl rfl ?_ | refine dw_dec rfl rfl rfl (fun hg => ?_) (fun hg => ?_) | refine dw_ndec rfl rfl rfl (fun hg => ?_) (fun hg => ?_)
        all_goals first
          | (exfalso; omega)
          | skip
        refine n_rr (i + 1) ?_ (.of [] (by (repeat' first | exact trivial | refine And.intro ?_ ?_ | rfl | exact congrArg (fun z : Int => some (AV.st (.int .i64 z))) (show (i : Int) + 1 = ((i + 1 : Nat) : Int) by omega)); first | done | fail) (by (repeat' first | exact trivial | refine And.intro ?_ ?_ | rfl | exact congrArg (fun z : Int => some (AV.st (.int .i64 z))) (show (i : Int) + 1 = ((i + 1 : Nat) : Int) by omega)); first | done | fail) rfl) ?_
        · omega
        · omega
    repeat' first | refine wr (by omega) ?_ | refine ln ?_ | refine stp lay_ok rfl ?_ | refine fin ?_ | refine n_thn ?_ | refine n_blk ?_ | refine e_thn ?_ | refine e_hit ?_ | refine e_miss rfl ?_ | refine r_thn ?_ | refine r_blk ?_ | refine e_rr ?_ | refine r_rr ?_ | refine e_cr ?_ | refine r_cr ?_ | refine .seq ?_ | refine reg ?_ | refine .block ?_ | refine .skip ?_ | refine .ret ?_ | refine .exit ?_ | refine cndT rfl ?_ | refine cndF rfl ?_ | refine c_dec rfl (fun hc => ?_) (fun hc => ?_) | refine c_ndec rfl (fun hc => ?_) (fun hc => ?_) | refine cnd rfl (fun hc => ?_) (fun hc => ?_) | ((first | refine o_none rfl ?_ | refine o_none_ ?_ | refine o_yes rfl rfl rfl ?_ | refine o_yes_ rfl rfl ?_); first | refine st_callK [0,5] (hsn) b17 rfl rfl rfl rfl rfl (by (repeat' first | exact trivial | refine And.intro ?_ ?_ | rfl); first | done | fail) ?_) | refine gd rfl rfl rfl (fun hg => ?_) (fun hg => ?_) | refine gn rfl rfl rfl (fun hg => ?_) (fun hg => ?_) | refine dwr (by omega) ?_ | refine dwl ?_ | refine dws lay_ok rfl rfl rfl rfl rfl rfl rfl ?_ | refine dwu lay_ok rfl rfl rfl rfl rfl rfl rfl rfl rfl ?_ | refine dw_end ?_ | refine dw_skip rfl rfl rfl ?_ | refine dwn lay_ok rfl rfl rfl rfl rfl ?_ | refine dwG [0,5] rfl rfl rfl rfl (by refine st_callK [0,5] (hsn) b17 rfl rfl rfl rfl rfl (by (repeat' first | exact trivial | refine And.intro ?_ ?_ | rfl); first | done | fail) ?_; exact fin rfl) rfl rfl rfl rfl rfl ?_ | refine dwb rfl rfl rfl rfl rfl (by (first | refine st_callK [0,5] (hsn) b17 rfl rfl rfl rfl rfl (by (repeat' first | exact trivial | refine And.intro ?_ ?_ | rfl); first | done | fail) ?_); exact fin rfl) rfl rfl ?_ | refine dwg rfl rfl rfl rfl rfl (by (first | refine st_callK [0,5] (hsn) b17 rfl rfl rfl rfl rfl (by (repeat' first | exact trivial | refine And.intro ?_ ?_ | rfl); first | done | fail) ?_); exact fin rfl) rfl rfl rfl rfl rfl ?_ | refine dw_dec rfl rfl rfl (fun hg => ?_) (fun hg => ?_) | refine dw_ndec rfl rfl rfl (fun hg => ?_) (fun hg => ?_)
    all_goals first
      | (exfalso; omega)
      | skip
    clear hhas hhm f2 hek hh hp hsn
    refine lpR (fun k => k ≤ l.length) (fun k => l.length - k) (fun k => [(15, I ((allS (l.take k)).length : Nat)), (17, I k)]) (fun k => []) (0) [7, 11, 16] [] [] rfl rfl rfl (.of [] (by (repeat' first | exact trivial | refine And.intro ?_ ?_ | rfl); first | done | fail) (by (repeat' first | exact trivial | refine And.intro ?_ ?_ | rfl); first | done | fail) rfl) ?_ ?_
    · exact Nat.zero_le _
    rintro k k1
    refine nrm rfl rfl ?_
    have hlim : (allS (l.take k)).length ≤ 32768 := allS_len (catP_sub g3 (List.take_sublist _ _))
    by_cases hk : k < l.length
    · have hatN : (List.map rowN l)[((k : Nat) : Int).toNat]? = some (rowN l[k]) := by simp [hk]
      have hst := allS_take hk
      have hlim2 : (allS (l.take (k + 1))).length ≤ 32768 := allS_len (catP_sub g3 (List.take_sublist _ _))
      obtain ⟨_, z2, z3⟩ := (g3.one _ (List.getElem_mem hk)).small
      generalize (allS (l.take k)).length = T at *
      generalize l[k] = s at *
      obtain ⟨c', n', d', fs⟩ := s
      simp only at hst z2 z3
      have hmf : (List.map rowE fs).length = fs.length := List.length_map _
      repeat' first | refine wr (by omega) ?_ | refine ln ?_ | refine stp lay_ok rfl ?_ | refine fin ?_ | refine n_thn ?_ | refine n_blk ?_ | refine e_thn ?_ | refine e_hit ?_ | refine e_miss rfl ?_ | refine r_thn ?_ | refine r_blk ?_ | refine e_rr ?_ | refine r_rr ?_ | refine e_cr ?_ | refine r_cr ?_ | refine .seq ?_ | refine reg ?_ | refine .block ?_ | refine .skip ?_ | refine .ret ?_ | refine .exit ?_ | refine cndT rfl ?_ | refine cndF rfl ?_ | refine c_dec rfl (fun hc => ?_) (fun hc => ?_) | refine c_ndec rfl (fun hc => ?_) (fun hc => ?_) | refine cnd rfl (fun hc => ?_) (fun hc => ?_) | refine gd rfl rfl rfl (fun hg => ?_) (fun hg => ?_) | refine gn rfl rfl rfl (fun hg => ?_) (fun hg => ?_)
      all_goals first
        | (exfalso; omega)
        | skip
      refine lpR (fun j => j ≤ fs.length) (fun j => fs.length - j) (fun j => [(15, I ((T + ((fs.take j).flatMap (·.keys)).length : Nat) : Int)), (18, I j)]) (fun j => []) (0) [7, 11, 16, 17] [] [] rfl rfl rfl (.of [] (by (repeat' first | exact trivial | refine And.intro ?_ ?_ | rfl); first | done | fail) (by (repeat' first | exact trivial | refine And.intro ?_ ?_ | rfl); first | done | fail) rfl) ?_ ?_
      · exact Nat.zero_le _
      rintro j j1
      refine nrm rfl rfl ?_
      by_cases hj : j < fs.length
      · have hatE := at_rowE hj
        have hks := keysE_take hj
        have hle : ((fs.take (j + 1)).flatMap (·.keys)).length ≤ (fs.flatMap (·.keys)).length := flat_take_le fs (j + 1)
        generalize ((fs.take j).flatMap (·.keys)).length = U at *
        generalize fs[j] = e at *
        obtain ⟨p, z, ks⟩ := e
        simp only at hks
        have hmk : (List.map rowS ks).length = ks.length := List.length_map _
        repeat' first | refine wr (by omega) ?_ | refine ln ?_ | refine stp lay_ok rfl ?_ | refine fin ?_ | refine n_thn ?_ | refine n_blk ?_ | refine e_thn ?_ | refine e_hit ?_ | refine e_miss rfl ?_ | refine r_thn ?_ | refine r_blk ?_ | refine e_rr ?_ | refine r_rr ?_ | refine e_cr ?_ | refine r_cr ?_ | refine .seq ?_ | refine reg ?_ | refine .block ?_ | refine .skip ?_ | refine .ret ?_ | refine .exit ?_ | refine cndT rfl ?_ | refine cndF rfl ?_ | refine c_dec rfl (fun hc => ?_) (fun hc => ?_) | refine c_ndec rfl (fun hc => ?_) (fun hc => ?_) | refine cnd rfl (fun hc => ?_) (fun hc => ?_) | ((first | refine o_none rfl ?_ | refine o_none_ ?_ | refine o_yes rfl rfl rfl ?_ | refine o_yes_ rfl rfl ?_); first | refine st_index [SV.int .i64 c', .str n', .bool d', .sl 3 (fs.map rowE)] lay_ok rfl rfl rfl rfl (by omega) hatN ?_ | refine st_index [SV.str p, .int .i64 z, .sl 1 (ks.map rowS)] lay_ok rfl rfl rfl rfl (by omega) hatE ?_) | refine gd rfl rfl rfl (fun hg => ?_) (fun hg => ?_) | refine gn rfl rfl rfl (fun hg => ?_) (fun hg => ?_)
        all_goals first
          | (exfalso; omega)
          | skip
        refine n_rr (j + 1) ?_ (.of [] (by (repeat' first | exact trivial | refine And.intro ?_ ?_ | rfl | first | exact congrArg (fun z : Int => some (AV.st (.int .i64 z))) (show (j : Int) + 1 = ((j + 1 : Nat) : Int) by omega) | exact congrArg (fun z : Int => some (AV.st (.int .i64 z))) (by rw [hks]; push_cast; omega)); first | done | fail) (by (repeat' first | exact trivial | refine And.intro ?_ ?_ | rfl | first | exact congrArg (fun z : Int => some (AV.st (.int .i64 z))) (show (j : Int) + 1 = ((j + 1 : Nat) : Int) by omega) | exact congrArg (fun z : Int => some (AV.st (.int .i64 z))) (by rw [hks]; push_cast; omega)); first | done | fail) rfl) ?_
        · omega
        · omega
      · have hje : j = fs.length := by omega
        subst hje
        repeat' first | refine wr (by omega) ?_ | refine ln ?_ | refine stp lay_ok rfl ?_ | refine fin ?_ | refine n_thn ?_ | refine n_blk ?_ | refine e_thn ?_ | refine e_hit ?_ | refine e_miss rfl ?_ | refine r_thn ?_ | refine r_blk ?_ | refine e_rr ?_ | refine r_rr ?_ | refine e_cr ?_ | refine r_cr ?_ | refine .seq ?_ | refine reg ?_ | refine .block ?_ | refine .skip ?_ | refine .ret ?_ | refine .exit ?_ | refine cndT rfl ?_ | refine cndF rfl ?_ | refine c_dec rfl (fun hc => ?_) (fun hc => ?_) | refine c_ndec rfl (fun hc => ?_) (fun hc => ?_) | refine cnd rfl (fun hc => ?_) (fun hc => ?_) | ((first | refine o_none rfl ?_ | refine o_none_ ?_ | refine o_yes rfl rfl rfl ?_ | refine o_yes_ rfl rfl ?_); first | refine st_index [SV.int .i64 c', .str n', .bool d', .sl 3 (fs.map rowE)] lay_ok rfl rfl rfl rfl (by omega) hatN ?_) | refine gd rfl rfl rfl (fun hg => ?_) (fun hg => ?_) | refine gn rfl rfl rfl (fun hg => ?_) (fun hg => ?_)
        all_goals first
          | (exfalso; omega)
          | skip
        refine n_rr (k + 1) ?_ (.of [] (by (repeat' first | exact trivial | refine And.intro ?_ ?_ | rfl | first | exact congrArg (fun z : Int => some (AV.st (.int .i64 z))) (show (k : Int) + 1 = ((k + 1 : Nat) : Int) by omega) | exact congrArg (fun z : Int => some (AV.st (.int .i64 z))) (by rw [hst, List.take_length])); first | done | fail) (by (repeat' first | exact trivial | refine And.intro ?_ ?_ | rfl | first | exact congrArg (fun z : Int => some (AV.st (.int .i64 z))) (show (k : Int) + 1 = ((k + 1 : Nat) : Int) by omega) | exact congrArg (fun z : Int => some (AV.st (.int .i64 z))) (by rw [hst, List.take_length])); first | done | fail) rfl) ?_
        · omega
        · omega
    · have hke : k = l.length := by omega
      subst hke
      rw [List.take_length] at hlim ⊢
      generalize (allS l).length = T at *
      repeat' first | refine wr (by omega) ?_ | refine ln ?_ | refine stp lay_ok rfl ?_ | refine fin ?_ | refine n_thn ?_ | refine n_blk ?_ | refine e_thn ?_ | refine e_hit ?_ | refine e_miss rfl ?_ | refine r_thn ?_ | refine r_blk ?_ | refine e_rr ?_ | refine r_rr ?_ | refine e_cr ?_ | refine r_cr ?_ | refine .seq ?_ | refine reg ?_ | refine .block ?_ | refine .skip ?_ | refine .ret ?_ | refine .exit ?_ | refine cndT rfl ?_ | refine cndF rfl ?_ | refine c_dec rfl (fun hc => ?_) (fun hc => ?_) | refine c_ndec rfl (fun hc => ?_) (fun hc => ?_) | refine cnd rfl (fun hc => ?_) (fun hc => ?_) | refine gd rfl rfl rfl (fun hg => ?_) (fun hg => ?_) | refine gn rfl rfl rfl (fun hg => ?_) (fun hg => ?_)
      all_goals first
        | (exfalso; omega)
        | skip
      all_goals
        refine f_r [] rfl trivial rfl ⟨?_, rfl⟩
        first
          | rfl
          | (rw [decide_eq_true (by omega)]; rfl)
end Go.Proofs.YtligkfhplinjlaaGreatDoorFn
namespace Go.Proofs.YtligkfhplinjlaaGreatDoor
open Go.Proofs.YtligkfhplinjlaaGreatDoorAl Go.ChangeAt Go.RowKit
open Go.Proofs.YtligkfhplinjlaaGreatDoorFn
theorem own : ownKnob Tryz.prog.godebug = none := by kernel_rfl
theorem laidOut : laidOutB Tryz.prog = true := by kernel_rfl
def pars : List Par := [⟨22, false, ΦL 6 80 ΦD⟩, ⟨3, false, ΦI⟩, ⟨9, false, ΦS⟩]
theorem pars_ok : ParsOk Tryz.prog pars :=
  ⟨rdLD, ⟨_, Tryz.underlying22, rfl⟩, by kernel_rfl, of_decide_eq_true (by kernel_rfl),
   rdI, ⟨_, Tryz.underlying3, rfl⟩, by kernel_rfl, of_decide_eq_true (by kernel_rfl),
   rdS, ⟨_, Tryz.underlying9, rfl⟩, by kernel_rfl, of_decide_eq_true (by kernel_rfl), trivial⟩
theorem law_ok : LawOk Tryz.prog 7 pars := by
  rintro svs ⟨_, _, rfl, ⟨r0, h0, hr0, hl0⟩, _, _, rfl, ⟨x1, h1, hm1⟩, _, _, rfl, ⟨x2, h2, hm2⟩, rfl⟩
  cases h0
  obtain ⟨x0, rfl, hm0⟩ := rows_map (f := rowD) (Ok := DV.inMem) (fun row hm => ofD (hr0 row hm))
  simp only [List.length_map] at hl0
  cases h1
  cases h2
  have hreach : reachBytes ≤ 140737488351232 := by decide
  exact lawHolds_ok x0 x1 x2
set_option maxRecDepth 100000 in
theorem law_lift (os : Os) (started : os.Started) (H : Type) (enc : TypeId × Value → H) :
    ReturnsInHanded {} Tryz.checked os 7 .any (fun w args => (Rows.catalogHoldsSpec.pre enc Tryz.prog Tryz.f7 [] false w args ∧ laidMetH Tryz.prog Rows.catalogHoldsRow.laid w) ∧ sizedMet enc Tryz.prog Tryz.f7 (OpenSpec.ofChange Rows.catalogHoldsSpec) false w args) (Rows.catalogHoldsSpec.post enc Tryz.prog Tryz.f7 false true false false) :=
  law_liftedL (C := Tryz.checked) (ps := pars) own started (by kernel_rfl) Tryz.func7
    (ChangeSpec.witness_shaped (enc := enc) (C := Tryz.checked) (os := os) (X := fun w _ => laidMetH Tryz.prog Rows.catalogHoldsRow.laid w) false (World.laidAll Tryz.prog os Rows.catalogHoldsRow.laid) #[.slice none 0 0, .int .i64 0, .string ByteArray.empty] 8 (World.laidAll_os _ _ _)
      (World.shaped_of_ZipB (by kernel_rfl) (by kernel_rfl)) (by kernel_rfl) (by kernel_rfl) (by kernel_rfl)
      (by rw [MakeChecks.laidMetH_plain _ _ _ (by kernel_rfl)]; exact laidMet_laidAll _ (by kernel_rfl) (by kernel_rfl)))
    laidOut rfl rfl Tryz.underlying4 rfl
    (fun ds hds => by
      match ds, hds with
      | [_, _, _], _ => rfl) pars_ok law_ok
theorem law_over : Rows.catalogHoldsRow.holds Tryz.pinned (OpenSpec.ofChange Rows.catalogHoldsSpec) :=
  OpenClaim.holds_of_wide 7 Tryz.f7 rfl rfl rfl rfl rfl rfl rfl ⟨rfl, rfl, rfl, rfl, rfl⟩ rfl rfl rfl rfl rfl (by kernel_rfl) Tryz.func7 (by kernel_rfl)
    (of_decide_eq_true (by kernel_rfl)) (by unfold Func.isWrapper; first | (rw [if_pos (by decide +kernel)]; kernel_rfl) | (rw [if_neg (by decide +kernel)]; exact ⟨rfl, rfl⟩))
    (fun os started H enc _ => law_lift os started H enc)
theorem CatalogHolds_holds : Rows.CatalogHoldsCardSaid :=
  Claim7.holds_tied_plain_at .later [] [.data, .pinned] true Rows.catalogHoldsCard.stood.harness Rows.catalogHoldsCard.stood.looks law_over (fun _ h => by cases h) (by kernel_rfl) (fun _ h => by cases h) catalogHolds_row_tie rfl ⟨rfl, rfl⟩ (by kernel_rfl) rfl
    (fun f fn hf hfn => by
      obtain rfl : f = 7 := Option.some.inj ((show Tryz.prog.funcNamed "becket/becketlaw09.CatalogHolds" = some 7 by kernel_rfl).symm.trans hf) |>.symm
      obtain rfl : fn = Tryz.f7 := (Option.some.inj (Tryz.func7.symm.trans hfn)).symm
      exact ⟨by kernel_rfl, fun j t ht => by
        have hm : t ∈ ([22, 3, 9] : List Nat) := by
          have e := Array.mem_of_getElem? ht
          rw [Tryz.params7] at e
          simpa using e
        have hall : (([22, 3, 9] : List Nat).all fun u => !Tryz.prog.wantsStandIn u) = true := by kernel_rfl
        exact (show Tryz.prog.wantsStandIn t = false by simpa using List.all_eq_true.1 hall t hm)⟩)
    (by kernel_rfl)
#print axioms CatalogHolds_holds
end Go.Proofs.YtligkfhplinjlaaGreatDoor
