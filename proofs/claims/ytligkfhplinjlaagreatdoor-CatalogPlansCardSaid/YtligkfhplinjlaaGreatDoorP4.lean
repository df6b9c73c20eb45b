/- The law CatalogPlans: for every input it says true: What was committed is planned as it was added, sorted, and looked up so, until it is pruned. No condition. -/
import Derived.Test.YtligkfhplinjlaaGreatDoorP3
import Derived.Test.YtligkfhplinjlaaGreatDoorRows
import Derived.Test.YtligkfhplinjlaaGreatDoorTie
import Derived.Test.YtligkfhplinjlaaGreatDoorCards
set_option linter.all false
namespace Go.Proofs.YtligkfhplinjlaaGreatDoorFn
open Go.Proofs.YtligkfhplinjlaaGreatDoorAl Go.Proofs.Tryz
attribute [local irreducible] IntKind.wrap CodeOk OpsL OpG ACalls thn inBlk rndR cutR WkR Wk fnR DW ExtOk partsOf
/-! ### what was begun, and aborted, left no trace -/
theorem find_last {l : List NV} {c : Int} {nm : ByteArray} (d : Bool) (es : List EV) (h : l.any (isS c nm) = false) : (l ++ [(⟨c, nm, d, es⟩ : NV)]).findIdx? (isS c nm) = some l.length := by
  have h1 : l.findIdx? (isS c nm) = none := List.findIdx?_eq_none_iff.2 fun x hx => by
    have := List.any_eq_false.1 h x hx
    simpa using this
  rw [List.findIdx?_append, h1]
  simp [isS]
theorem begin_code {l : List NV} {c : Int} {nm : ByteArray} (h : (doP l c ⟨1, nm, ⟨#[]⟩, [], 0⟩).2.code = 0) : reqOk c ⟨1, nm, ⟨#[]⟩, [], 0⟩ = true ∧ l.any (isS c nm) = false ∧ doP l c ⟨1, nm, ⟨#[]⟩, [], 0⟩ = (l ++ [⟨c, nm, false, []⟩], noA 0) := by
  cases hr : reqOk c ⟨1, nm, ⟨#[]⟩, [], 0⟩ with
  | false =>
    have e : doP l c ⟨1, nm, ⟨#[]⟩, [], 0⟩ = (l, noA 1) := by unfold doP; rw [if_pos hr]
    rw [e] at h
    exact absurd h (by simp [noA])
  | true =>
    have e : doP l c ⟨1, nm, ⟨#[]⟩, [], 0⟩ = if (l.any (isS c nm)) = true then (l, noA 4) else if 8 ≤ many c l then (l, noA 5) else (l ++ [⟨c, nm, false, []⟩], noA 0) := by
      unfold doP
      rw [if_neg (by simp [hr]), if_pos rfl]
    rw [e] at h ⊢
    cases ha : l.any (isS c nm) with
    | true => rw [ha, if_pos rfl] at h; exact absurd h (by simp [noA])
    | false =>
      rw [ha, if_neg (by simp)] at h
      rw [if_neg (by simp)]
      by_cases h8 : 8 ≤ many c l
      · rw [if_pos h8] at h; exact absurd h (by simp [noA])
      · rw [if_neg h8]; exact ⟨rfl, rfl, rfl⟩
theorem named_req {c : Int} {nm : ByteArray} (k : Int) (hk : k = 3 ∨ k = 4 ∨ k = 7) (h : reqOk c ⟨1, nm, ⟨#[]⟩, [], 0⟩ = true) : reqOk c ⟨k, nm, ⟨#[]⟩, [], 0⟩ = true := by
  rcases hk with rfl | rfl | rfl <;> exact h
theorem at_last (l : List NV) (s : NV) (h : l.length < (l ++ [s]).length) : (l ++ [s])[l.length] = s := by simp
theorem add_last {l : List NV} {c : Int} {nm : ByteArray} (es : List EV) (p : ByteArray) (ks : List ByteArray) (n : Int) (h : l.any (isS c nm) = false) : ∃ es', (doP (l ++ [(⟨c, nm, false, es⟩ : NV)]) c ⟨2, nm, p, ks, n⟩).1 = l ++ [⟨c, nm, false, es'⟩] := by
  cases hr : reqOk c ⟨2, nm, p, ks, n⟩ with
  | false =>
    refine ⟨es, ?_⟩
    unfold doP
    rw [if_pos hr]
  | true =>
    rw [doP_some hr (.inl rfl) (find_last false es h) (by simp), at_last l _ (by simp)]
    unfold oneP
    rw [if_pos rfl]
    have : ∃ es', (addP ⟨c, nm, false, es⟩ ⟨2, nm, p, ks, n⟩).1 = ⟨c, nm, false, es'⟩ := by
      unfold addP
      repeat' split
      all_goals exact ⟨_, rfl⟩
    obtain ⟨es', he⟩ := this
    refine ⟨es', ?_⟩
    simp only [he]
    rw [List.set_append_right _ _ (Nat.le_refl _)]
    simp
theorem abort_last {l : List NV} {c : Int} {nm : ByteArray} (es : List EV) (hr : reqOk c ⟨4, nm, ⟨#[]⟩, [], 0⟩ = true) (h : l.any (isS c nm) = false) : doP (l ++ [(⟨c, nm, false, es⟩ : NV)]) c ⟨4, nm, ⟨#[]⟩, [], 0⟩ = (l, noA 0) := by
  rw [doP_some hr (.inr (.inr (.inl rfl))) (find_last false es h) (by simp), at_last l _ (by simp)]
  unfold oneP
  rw [if_neg (by simp), if_neg (by simp), if_pos rfl, if_neg (by simp)]
  rw [List.eraseIdx_append_of_length_le (Nat.le_refl _)]
  simp
end Go.Proofs.YtligkfhplinjlaaGreatDoorFn
namespace Go.Proofs.YtligkfhplinjlaaGreatDoorFn
open Go.Proofs.YtligkfhplinjlaaGreatDoorAl Go.Proofs.Tryz
attribute [local irreducible] IntKind.wrap CodeOk OpsL OpG ACalls thn inBlk rndR cutR WkR Wk fnR DW ExtOk partsOf
theorem b16 : HasBody prog 16 := ⟨f16, func16, Option.some_ne_none _, by decide⟩
/-! ### all chunks of what is planned are held -/
theorem hasK_ok (l : List ByteArray) (s : ByteArray) (hl : l.length ≤ 4000000000) : ACalls prog 16 0 [.st (.sl 1 (l.map rowS)), Sx s] [] fun r h => r = B (memB s l) ∧ h = [] := by
  have hm : (List.map rowS l).length = l.length := List.length_map _
  refine fnC lay_ok func16 rfl rfl rfl rfl rfl ?_
  repeat' first | refine wr (by omega) ?_ | refine ln ?_ | refine stp lay_ok rfl ?_ | refine fin ?_ | refine n_thn ?_ | refine n_blk ?_ | refine e_thn ?_ | refine e_hit ?_ | refine e_miss rfl ?_ | refine r_thn ?_ | refine r_blk ?_ | refine e_rr ?_ | refine r_rr ?_ | refine e_cr ?_ | refine r_cr ?_ | refine .seq ?_ | refine reg ?_ | refine .block ?_ | refine .skip ?_ | refine .ret ?_ | refine .exit ?_ | refine cndT rfl ?_ | refine cndF rfl ?_ | refine c_dec rfl (fun hc => ?_) (fun hc => ?_) | refine c_ndec rfl (fun hc => ?_) (fun hc => ?_) | refine cnd rfl (fun hc => ?_) (fun hc => ?_) | refine gd rfl rfl rfl (fun hg => ?_) (fun hg => ?_) | refine gn rfl rfl rfl (fun hg => ?_) (fun hg => ?_)
  refine lpR (fun k => k ≤ l.length ∧ memB s (l.take k) = false) (fun k => l.length - k) (fun k => [(5, I k)]) (fun k => []) (0) [0, 1] [] [] rfl rfl rfl (.of [] (by (repeat' first | exact trivial | refine And.intro ?_ ?_ | rfl); first | done | fail) (by (repeat' first | exact trivial | refine And.intro ?_ ?_ | rfl); first | done | fail) rfl) ?_ ?_
  · exact ⟨Nat.zero_le _, rfl⟩
  rintro k ⟨g1, g2⟩
  refine nrm rfl rfl ?_
  by_cases hk : k < l.length
  · have hat := at_rowS hk
    have htk : memB s (l.take (k + 1)) = decide (s = l[k]) := by
      have : memB s (l.take (k + 1)) = (memB s (l.take k) || decide (s = l[k])) := by
        unfold memB
        rw [List.take_succ_eq_append_getElem hk, List.any_append]; simp
      rw [this, g2, Bool.false_or]
    have hmm : s = l[k] → memB s l = true := fun h => memB_iff.2 (h ▸ List.getElem_mem hk)
    generalize l[k] = y at *
    by_cases hy : y = s
    · rw [hmm hy.symm]
      repeat' first | refine wr (by omega) ?_ | refine ln ?_ | refine stp lay_ok rfl ?_ | refine fin ?_ | refine n_thn ?_ | refine n_blk ?_ | refine e_thn ?_ | refine e_hit ?_ | refine e_miss rfl ?_ | refine r_thn ?_ | refine r_blk ?_ | refine e_rr ?_ | refine r_rr ?_ | refine e_cr ?_ | refine r_cr ?_ | refine .seq ?_ | refine reg ?_ | refine .block ?_ | refine .skip ?_ | refine .ret ?_ | refine .exit ?_ | refine cndT rfl ?_ | refine cndF rfl ?_ | refine c_dec rfl (fun hc => ?_) (fun hc => ?_) | refine c_ndec rfl (fun hc => ?_) (fun hc => ?_) | refine cnd rfl (fun hc => ?_) (fun hc => ?_) | ((first | refine o_none rfl ?_ | refine o_none_ ?_ | refine o_yes rfl rfl rfl ?_ | refine o_yes_ rfl rfl ?_); first | refine st_index [SV.str y] lay_ok rfl rfl rfl rfl (by omega) hat ?_) | refine gd rfl rfl rfl (fun hg => ?_) (fun hg => ?_) | refine gn rfl rfl rfl (fun hg => ?_) (fun hg => ?_)
      all_goals first
        | (exfalso; omega)
        | (exfalso; contradiction)
        | skip
      refine f_r [] rfl trivial rfl ⟨?_, rfl⟩
      rfl
    · repeat' first | refine wr (by omega) ?_ | refine ln ?_ | refine stp lay_ok rfl ?_ | refine fin ?_ | refine n_thn ?_ | refine n_blk ?_ | refine e_thn ?_ | refine e_hit ?_ | refine e_miss rfl ?_ | refine r_thn ?_ | refine r_blk ?_ | refine e_rr ?_ | refine r_rr ?_ | refine e_cr ?_ | refine r_cr ?_ | refine .seq ?_ | refine reg ?_ | refine .block ?_ | refine .skip ?_ | refine .ret ?_ | refine .exit ?_ | refine cndT rfl ?_ | refine cndF rfl ?_ | refine c_dec rfl (fun hc => ?_) (fun hc => ?_) | refine c_ndec rfl (fun hc => ?_) (fun hc => ?_) | refine cnd rfl (fun hc => ?_) (fun hc => ?_) | ((first | refine o_none rfl ?_ | refine o_none_ ?_ | refine o_yes rfl rfl rfl ?_ | refine o_yes_ rfl rfl ?_); first | refine st_index [SV.str y] lay_ok rfl rfl rfl rfl (by omega) hat ?_) | refine gd rfl rfl rfl (fun hg => ?_) (fun hg => ?_) | refine gn rfl rfl rfl (fun hg => ?_) (fun hg => ?_)
      all_goals first
        | (exfalso; omega)
        | (exfalso; contradiction)
        | skip
      refine n_rr (k + 1) ?_ (.of [] (by (repeat' first | exact trivial | refine And.intro ?_ ?_ | rfl | exact congrArg (fun z : Int => some (AV.st (.int .i64 z))) (show (k : Int) + 1 = ((k + 1 : Nat) : Int) by omega)); first | done | fail) (by (repeat' first | exact trivial | refine And.intro ?_ ?_ | rfl | exact congrArg (fun z : Int => some (AV.st (.int .i64 z))) (show (k : Int) + 1 = ((k + 1 : Nat) : Int) by omega)); first | done | fail) rfl) ?_
      · omega
      · exact ⟨hk, by rw [htk]; exact decide_eq_false (fun h => hy h.symm)⟩
  · have hke : k = l.length := by omega
    subst hke
    rw [List.take_length] at g2
    rw [g2]
    repeat' first | refine wr (by omega) ?_ | refine ln ?_ | refine stp lay_ok rfl ?_ | refine fin ?_ | refine n_thn ?_ | refine n_blk ?_ | refine e_thn ?_ | refine e_hit ?_ | refine e_miss rfl ?_ | refine r_thn ?_ | refine r_blk ?_ | refine e_rr ?_ | refine r_rr ?_ | refine e_cr ?_ | refine r_cr ?_ | refine .seq ?_ | refine reg ?_ | refine .block ?_ | refine .skip ?_ | refine .ret ?_ | refine .exit ?_ | refine cndT rfl ?_ | refine cndF rfl ?_ | refine c_dec rfl (fun hc => ?_) (fun hc => ?_) | refine c_ndec rfl (fun hc => ?_) (fun hc => ?_) | refine cnd rfl (fun hc => ?_) (fun hc => ?_) | refine gd rfl rfl rfl (fun hg => ?_) (fun hg => ?_) | refine gn rfl rfl rfl (fun hg => ?_) (fun hg => ?_)
    all_goals first
      | (exfalso; omega)
      | skip
    refine f_r [] rfl trivial rfl ⟨?_, rfl⟩
    rfl
theorem mem_sortS {x : ByteArray} {S : List ByteArray} : x ∈ sortS S ↔ x ∈ S := by
  unfold sortS
  rw [List.mem_map]
  constructor
  · rintro ⟨y, hy, rfl⟩
    rw [(List.mergeSort_perm _ _).mem_iff, List.mem_map] at hy
    obtain ⟨z, hz, rfl⟩ := hy
    exact hz
  · intro hx
    exact ⟨x.data.toList, by rw [(List.mergeSort_perm _ _).mem_iff]; exact List.mem_map.2 ⟨x, hx, rfl⟩, rfl⟩
theorem mem_addF {x : ByteArray} : ∀ {l S : List ByteArray}, memB x (l.foldl addS S) = (memB x S || memB x l)
  | [], S => by simp [memB]
  | k :: r, S => by
    rw [List.foldl_cons, mem_addF, mem_addS, memB_cons, Bool.or_assoc]
theorem held_mem {l : List NV} {k : ByteArray} (h : k ∈ allS l) : memB k (heldS l) = true := by
  rw [memB_iff]
  unfold heldS
  rw [mem_sortS, ← memB_iff, mem_addF, memB_iff.2 h]
  simp
theorem held_len (l : List NV) : (heldS l).length ≤ (allS l).length := by
  obtain ⟨_, _, h3⟩ := addF_facts (fun _ => True) (allS l) [] .nil (by simp) (by simp)
  unfold heldS sortS
  rw [List.length_map, List.length_mergeSort, List.length_map]
  simpa using h3
end Go.Proofs.YtligkfhplinjlaaGreatDoorFn
namespace Go.Proofs.YtligkfhplinjlaaGreatDoorFn
open Go.Proofs.YtligkfhplinjlaaGreatDoorAl Go.Proofs.Tryz
attribute [local irreducible] IntKind.wrap CodeOk OpsL OpG ACalls thn inBlk rndR cutR WkR Wk fnR DW ExtOk partsOf
/-! ### what was committed is planned as it was added -/
theorem find_one (c : Int) (nm : ByteArray) (d : Bool) (es : List EV) : ([(⟨c, nm, d, es⟩ : NV)]).findIdx? (isS c nm) = some 0 := find_last (l := []) d es rfl
theorem add_one {c : Int} {nm : ByteArray} {es : List EV} {p : ByteArray} {ks : List ByteArray} (h : (doP [(⟨c, nm, false, es⟩ : NV)] c ⟨2, nm, p, ks, 0⟩).2.code = 0) : (doP [(⟨c, nm, false, es⟩ : NV)] c ⟨2, nm, p, ks, 0⟩).1 = [⟨c, nm, false, srtE (es ++ [⟨p, tot ks, ks⟩])⟩] := by
  cases hr : reqOk c ⟨2, nm, p, ks, 0⟩ with
  | false =>
    have e : doP [(⟨c, nm, false, es⟩ : NV)] c ⟨2, nm, p, ks, 0⟩ = ([⟨c, nm, false, es⟩], noA 1) := by unfold doP; rw [if_pos hr]
    rw [e] at h
    exact absurd h (by simp [noA])
  | true =>
    rw [doP_some hr (.inl rfl) (find_one c nm false es) (by simp)] at h ⊢
    unfold oneP at h ⊢
    rw [if_pos rfl] at h ⊢
    simp only [List.getElem_cons_zero] at h ⊢
    unfold addP at h ⊢
    rw [if_neg (by simp)] at h ⊢
    simp only at h ⊢
    split at h
    · exact absurd h (by simp [noA])
    rename_i h1
    rw [if_neg h1]
    split at h
    · exact absurd h (by simp [noA])
    rename_i h2
    rw [if_neg h2]
    split at h
    · exact absurd h (by simp [noA])
    rename_i h3
    rw [if_neg h3]
    rfl
theorem commit_one {c : Int} {nm : ByteArray} (es : List EV) (hr : reqOk c ⟨3, nm, ⟨#[]⟩, [], 0⟩ = true) : doP [(⟨c, nm, false, es⟩ : NV)] c ⟨3, nm, ⟨#[]⟩, [], 0⟩ = ([⟨c, nm, true, es⟩], noA 0) := by
  rw [doP_some hr (by simp) (find_one c nm false es) (by simp)]
  rfl
theorem plan_one {c : Int} {nm : ByteArray} (es : List EV) (hr : reqOk c ⟨7, nm, ⟨#[]⟩, [], 0⟩ = true) : doP [(⟨c, nm, true, es⟩ : NV)] c ⟨7, nm, ⟨#[]⟩, [], 0⟩ = ([⟨c, nm, true, es⟩], ⟨0, 0, [], [], es⟩) := by
  rw [doP_some hr (by simp) (find_one c nm true es) (by simp)]
  rfl
theorem look_one {c : Int} {nm : ByteArray} {es : List EV} (hT : TreeP es) (hr : reqOk c ⟨1, nm, ⟨#[]⟩, [], 0⟩ = true) {e : EV} (he : e ∈ es) : doP [(⟨c, nm, true, es⟩ : NV)] c ⟨6, nm, e.path, [], 0⟩ = ([⟨c, nm, true, es⟩], ⟨0, e.size, [], e.keys, []⟩) := by
  obtain ⟨r0, _, _, _, _, r1, _⟩ := reqOk_parts hr
  have hn := r1 rfl
  have hp := (hT.ok e he).1
  simp only at hn
  have hr6 : reqOk c ⟨6, nm, e.path, [], 0⟩ = true := by
    unfold reqOk opOk
    simp [namedK, pathedK, r0, hn, hp]
  rw [doP_some hr6 (by simp) (find_one c nm true es) (by simp)]
  have hf : (es.find? fun x => decide (x.path = e.path)) = some e := by
    cases hf : es.find? fun x => decide (x.path = e.path) with
    | none =>
      have := List.find?_eq_none.1 hf e he
      simp at this
    | some x =>
      have hx : x.path = e.path := by simpa using List.find?_some hf
      have hxm : x ∈ es := List.mem_of_find?_eq_some hf
      exact congrArg some (hT.distinct x hxm e he hx)
  unfold oneP
  rw [if_neg (by simp), if_neg (by simp), if_neg (by simp), if_neg (by simp), if_pos rfl]
  simp only [List.getElem_cons_zero, hf]
theorem prune_one {c : Int} {nm : ByteArray} (es : List EV) (h : 0 ≤ c ∧ c < 8) : doP [(⟨c, nm, true, es⟩ : NV)] c ⟨8, ⟨#[]⟩, ⟨#[]⟩, [], 0⟩ = ([], ⟨0, 1, [], [], []⟩) := by
  have hr : reqOk c ⟨8, ⟨#[]⟩, ⟨#[]⟩, [], 0⟩ = true := by
    unfold reqOk
    rw [decide_eq_true h]
    kernel_rfl
  have hg : goneP [(⟨c, nm, true, es⟩ : NV)] c 0 = 1 := by
    unfold goneP
    simp [isO]
  unfold doP
  rw [if_neg (by simp [hr]), if_neg (by simp), if_neg (by simp), if_pos rfl, hg]
  simp [remK, isO]
theorem prune_flag (l : List NV) (c : Int) : doB l false c ⟨8, ⟨#[]⟩, ⟨#[]⟩, [], 0⟩ = false := by
  unfold doB
  split
  · rfl
  · rw [if_neg (by simp), if_pos rfl]
theorem plan_none {c : Int} {nm : ByteArray} (hr : reqOk c ⟨7, nm, ⟨#[]⟩, [], 0⟩ = true) : doP [] c ⟨7, nm, ⟨#[]⟩, [], 0⟩ = ([], noA 3) := doP_none hr (by simp) rfl
theorem begin_flag {l : List NV} {c : Int} {nm : ByteArray} {b : Bool} (g4 : b = true → l = []) (hdoP : doP l c ⟨1, nm, ⟨#[]⟩, [], 0⟩ = (l ++ [⟨c, nm, false, []⟩], noA 0)) : doB l b c ⟨1, nm, ⟨#[]⟩, [], 0⟩ = false := by
  cases hd : doB l b c ⟨1, nm, ⟨#[]⟩, [], 0⟩ with
  | false => rfl
  | true =>
    have := doB_nil g4 hd
    rw [hdoP] at this
    simp at this
end Go.Proofs.YtligkfhplinjlaaGreatDoorFn
namespace Go.Proofs.YtligkfhplinjlaaGreatDoorFn
open Go.Proofs.YtligkfhplinjlaaGreatDoorAl Go.Proofs.Tryz
attribute [local irreducible] IntKind.wrap CodeOk OpsL OpG ACalls thn inBlk rndR cutR WkR Wk fnR DW ExtOk partsOf
theorem b4 : HasBody prog 4 := ⟨f4, func4, Option.some_ne_none _, by decide⟩
set_option maxHeartbeats 32000000 in
set_option maxRecDepth 8000 in
theorem lawPlans_ok (cl : Int) (nm : ByteArray) (ps ks : List ByteArray) : ACalls prog 4 0 [I cl, Sx nm, .st (.sl 1 (ps.map rowS)), .st (.sl 1 (ks.map rowS))] [] fun r h => r = B true ∧ h = [] := by
  have hup := up9_ok
  have hN := newC_ok
  have hmp : (List.map rowS ps).length = ps.length := List.length_map _
  have hmk : (List.map rowS ks).length = ks.length := List.length_map _
  by_cases hsz : nm.size ≤ 100 ∧ ps.length ≤ 50 ∧ ks.length ≤ 100
  case neg =>
    refine fnC lay_ok func4 rfl rfl rfl rfl rfl ?_
    repeat' first | refine wr (by omega) ?_ | refine ln ?_ | refine stp lay_ok rfl ?_ | refine fin ?_ | refine n_thn ?_ | refine n_blk ?_ | refine e_thn ?_ | refine e_hit ?_ | refine e_miss rfl ?_ | refine r_thn ?_ | refine r_blk ?_ | refine e_rr ?_ | refine r_rr ?_ | refine e_cr ?_ | refine r_cr ?_ | refine .seq ?_ | refine reg ?_ | refine .block ?_ | refine .skip ?_ | refine .ret ?_ | refine .exit ?_ | refine cndT rfl ?_ | refine cndF rfl ?_ | refine c_dec rfl (fun hc => ?_) (fun hc => ?_) | refine c_ndec rfl (fun hc => ?_) (fun hc => ?_) | refine cnd rfl (fun hc => ?_) (fun hc => ?_) | ((first | refine o_none rfl ?_ | refine o_none_ ?_ | refine o_yes rfl rfl rfl ?_ | refine o_yes_ rfl rfl ?_); first | refine st_pure (hup) b11 rfl rfl rfl rfl ?_ | refine st_callF 2 (hN) b13 rfl rfl rfl rfl rfl rfl (by (repeat' first | exact trivial | refine And.intro ?_ ?_ | rfl); first | done | fail) rfl ?_) | refine gd rfl rfl rfl (fun hg => ?_) (fun hg => ?_) | refine gn rfl rfl rfl (fun hg => ?_) (fun hg => ?_)
    all_goals first
      | (exfalso; omega)
      | skip
    all_goals
      refine f_r [] rfl trivial rfl ⟨?_, rfl⟩
      rfl
  obtain ⟨hn1, hp1, hk1⟩ := hsz
  refine fnC lay_ok func4 rfl rfl rfl rfl rfl ?_
  repeat' first | refine wr (by omega) ?_ | refine ln ?_ | refine stp lay_ok rfl ?_ | refine fin ?_ | refine n_thn ?_ | refine n_blk ?_ | refine e_thn ?_ | refine e_hit ?_ | refine e_miss rfl ?_ | refine r_thn ?_ | refine r_blk ?_ | refine e_rr ?_ | refine r_rr ?_ | refine e_cr ?_ | refine r_cr ?_ | refine .seq ?_ | refine reg ?_ | refine .block ?_ | refine .skip ?_ | refine .ret ?_ | refine .exit ?_ | refine cndT rfl ?_ | refine cndF rfl ?_ | refine c_dec rfl (fun hc => ?_) (fun hc => ?_) | refine c_ndec rfl (fun hc => ?_) (fun hc => ?_) | refine cnd rfl (fun hc => ?_) (fun hc => ?_) | ((first | refine o_none rfl ?_ | refine o_none_ ?_ | refine o_yes rfl rfl rfl ?_ | refine o_yes_ rfl rfl ?_); first | refine st_pure (hup) b11 rfl rfl rfl rfl ?_ | refine st_callF 2 (hN) b13 rfl rfl rfl rfl rfl rfl (by (repeat' first | exact trivial | refine And.intro ?_ ?_ | rfl); first | done | fail) rfl ?_) | refine gd rfl rfl rfl (fun hg => ?_) (fun hg => ?_) | refine gn rfl rfl rfl (fun hg => ?_) (fun hg => ?_)
  all_goals first
    | (exfalso; omega)
    | skip
  refine lpR (fun k => k ≤ ps.length ∧ ∀ p ∈ ps.take k, p.size ≤ 2000) (fun k => ps.length - k) (fun k => [(11, I k)]) (fun k => []) (0) [0, 1, 2, 3, 9, 10] [] [] rfl rfl rfl (.of [] (by (repeat' first | exact trivial | refine And.intro ?_ ?_ | rfl); first | done | fail) (by (repeat' first | exact trivial | refine And.intro ?_ ?_ | rfl); first | done | fail) rfl) ?_ ?_
  · exact ⟨Nat.zero_le _, by simp⟩
  rintro k ⟨k1, k2⟩
  refine nrm rfl rfl ?_
  by_cases hk : k < ps.length
  · have hat := at_rowS hk
    have hta : ∀ p ∈ ps.take (k + 1), p ∈ ps.take k ∨ p = ps[k] := fun p hp => by
      rw [List.take_succ_eq_append_getElem hk, List.mem_append, List.mem_singleton] at hp
      exact hp
    generalize ps[k] = y at *
    repeat' first | refine wr (by omega) ?_ | refine ln ?_ | refine stp lay_ok rfl ?_ | refine fin ?_ | refine n_thn ?_ | refine n_blk ?_ | refine e_thn ?_ | refine e_hit ?_ | refine e_miss rfl ?_ | refine r_thn ?_ | refine r_blk ?_ | refine e_rr ?_ | refine r_rr ?_ | refine e_cr ?_ | refine r_cr ?_ | refine .seq ?_ | refine reg ?_ | refine .block ?_ | refine .skip ?_ | refine .ret ?_ | refine .exit ?_ | refine cndT rfl ?_ | refine cndF rfl ?_ | refine c_dec rfl (fun hc => ?_) (fun hc => ?_) | refine c_ndec rfl (fun hc => ?_) (fun hc => ?_) | refine cnd rfl (fun hc => ?_) (fun hc => ?_) | ((first | refine o_none rfl ?_ | refine o_none_ ?_ | refine o_yes rfl rfl rfl ?_ | refine o_yes_ rfl rfl ?_); first | refine st_index [SV.str y] lay_ok rfl rfl rfl rfl (by omega) hat ?_) | refine gd rfl rfl rfl (fun hg => ?_) (fun hg => ?_) | refine gn rfl rfl rfl (fun hg => ?_) (fun hg => ?_)
    all_goals first
      | (exfalso; omega)
      | skip
    · refine f_r [] rfl trivial rfl ⟨?_, rfl⟩
      rfl
    · refine n_rr (k + 1) ?_ (.of [] (by (repeat' first | exact trivial | refine And.intro ?_ ?_ | rfl | exact congrArg (fun z : Int => some (AV.st (.int .i64 z))) (show (k : Int) + 1 = ((k + 1 : Nat) : Int) by omega)); first | done | fail) (by (repeat' first | exact trivial | refine And.intro ?_ ?_ | rfl | exact congrArg (fun z : Int => some (AV.st (.int .i64 z))) (show (k : Int) + 1 = ((k + 1 : Nat) : Int) by omega)); first | done | fail) rfl) ?_
      · omega
      · refine ⟨hk, fun p hp => ?_⟩
        rcases hta p hp with h | rfl
        · exact k2 p h
        · omega
  have hke : k = ps.length := by omega
  subst hke
  rw [List.take_length] at k2
  repeat' first | refine wr (by omega) ?_ | refine ln ?_ | refine stp lay_ok rfl ?_ | refine fin ?_ | refine n_thn ?_ | refine n_blk ?_ | refine e_thn ?_ | refine e_hit ?_ | refine e_miss rfl ?_ | refine r_thn ?_ | refine r_blk ?_ | refine e_rr ?_ | refine r_rr ?_ | refine e_cr ?_ | refine r_cr ?_ | refine .seq ?_ | refine reg ?_ | refine .block ?_ | refine .skip ?_ | refine .ret ?_ | refine .exit ?_ | refine cndT rfl ?_ | refine cndF rfl ?_ | refine c_dec rfl (fun hc => ?_) (fun hc => ?_) | refine c_ndec rfl (fun hc => ?_) (fun hc => ?_) | refine cnd rfl (fun hc => ?_) (fun hc => ?_) | refine gd rfl rfl rfl (fun hg => ?_) (fun hg => ?_) | refine gn rfl rfl rfl (fun hg => ?_) (fun hg => ?_)
  all_goals first
    | (exfalso; omega)
    | skip
  refine lpR (fun k => k ≤ ks.length) (fun k => ks.length - k) (fun k => [(12, I k)]) (fun k => []) (0) [0, 1, 2, 3, 9, 10] [] [] rfl rfl rfl (.of [] (by (repeat' first | exact trivial | refine And.intro ?_ ?_ | rfl); first | done | fail) (by (repeat' first | exact trivial | refine And.intro ?_ ?_ | rfl); first | done | fail) rfl) ?_ ?_
  · exact Nat.zero_le _
  rintro k k3
  refine nrm rfl rfl ?_
  by_cases hk' : k < ks.length
  · have hat := at_rowS hk'
    generalize ks[k] = y at *
    repeat' first | refine wr (by omega) ?_ | refine ln ?_ | refine stp lay_ok rfl ?_ | refine fin ?_ | refine n_thn ?_ | refine n_blk ?_ | refine e_thn ?_ | refine e_hit ?_ | refine e_miss rfl ?_ | refine r_thn ?_ | refine r_blk ?_ | refine e_rr ?_ | refine r_rr ?_ | refine e_cr ?_ | refine r_cr ?_ | refine .seq ?_ | refine reg ?_ | refine .block ?_ | refine .skip ?_ | refine .ret ?_ | refine .exit ?_ | refine cndT rfl ?_ | refine cndF rfl ?_ | refine c_dec rfl (fun hc => ?_) (fun hc => ?_) | refine c_ndec rfl (fun hc => ?_) (fun hc => ?_) | refine cnd rfl (fun hc => ?_) (fun hc => ?_) | ((first | refine o_none rfl ?_ | refine o_none_ ?_ | refine o_yes rfl rfl rfl ?_ | refine o_yes_ rfl rfl ?_); first | refine st_index [SV.str y] lay_ok rfl rfl rfl rfl (by omega) hat ?_) | refine gd rfl rfl rfl (fun hg => ?_) (fun hg => ?_) | refine gn rfl rfl rfl (fun hg => ?_) (fun hg => ?_)
    all_goals first
      | (exfalso; omega)
      | skip
    · refine f_r [] rfl trivial rfl ⟨?_, rfl⟩
      rfl
    · refine n_rr (k + 1) ?_ (.of [] (by (repeat' first | exact trivial | refine And.intro ?_ ?_ | rfl | exact congrArg (fun z : Int => some (AV.st (.int .i64 z))) (show (k : Int) + 1 = ((k + 1 : Nat) : Int) by omega)); first | done | fail) (by (repeat' first | exact trivial | refine And.intro ?_ ?_ | rfl | exact congrArg (fun z : Int => some (AV.st (.int .i64 z))) (show (k : Int) + 1 = ((k + 1 : Nat) : Int) by omega)); first | done | fail) rfl) ?_
      · omega
      · omega
  have hbg := do_nil [] false cl 1 0 nm ⟨#[]⟩ (by simp) catP_nil (by omega) (by decide)
  have hbc := begin_code (l := []) (c := cl) (nm := nm)
  have hC1 := doP_cat cl ⟨1, nm, ⟨#[]⟩, [], 0⟩ catP_nil
  by_cases hcode : (doP [] cl ⟨1, nm, ⟨#[]⟩, [], 0⟩).2.code = 0
  case neg =>
    generalize doP [] cl ⟨1, nm, ⟨#[]⟩, [], 0⟩ = R at *
    generalize doB [] false cl ⟨1, nm, ⟨#[]⟩, [], 0⟩ = b2 at *
    obtain ⟨l2, a⟩ := R
    obtain ⟨xc, xn, xs, xk, xe⟩ := a
    simp only at hcode hbg
    dsimp only [ansS] at hbg
    repeat' first | refine wr (by omega) ?_ | refine ln ?_ | refine stp lay_ok rfl ?_ | refine fin ?_ | refine n_thn ?_ | refine n_blk ?_ | refine e_thn ?_ | refine e_hit ?_ | refine e_miss rfl ?_ | refine r_thn ?_ | refine r_blk ?_ | refine e_rr ?_ | refine r_rr ?_ | refine e_cr ?_ | refine r_cr ?_ | refine .seq ?_ | refine reg ?_ | refine .block ?_ | refine .skip ?_ | refine .ret ?_ | refine .exit ?_ | refine cndT rfl ?_ | refine cndF rfl ?_ | refine c_dec rfl (fun hc => ?_) (fun hc => ?_) | refine c_ndec rfl (fun hc => ?_) (fun hc => ?_) | refine cnd rfl (fun hc => ?_) (fun hc => ?_) | ((first | refine o_none rfl ?_ | refine o_none_ ?_ | refine o_yes rfl rfl rfl ?_ | refine o_yes_ rfl rfl ?_); first | refine st_callG [0,1] 1 (hbg) b14 rfl rfl rfl rfl rfl (by (repeat' first | exact trivial | refine And.intro ?_ ?_ | rfl); first | done | fail) rfl ?_) | refine gd rfl rfl rfl (fun hg => ?_) (fun hg => ?_) | refine gn rfl rfl rfl (fun hg => ?_) (fun hg => ?_)
    all_goals first
      | (exfalso; omega)
      | (exfalso; simp only at *; omega)
      | skip
    all_goals
      refine f_r [] rfl trivial rfl ⟨?_, rfl⟩
      rfl
  obtain ⟨hreq, hany, hdoP⟩ := hbc hcode
  have hb2 := begin_flag (l := []) (b := false) (by simp) hdoP
  rw [hdoP, hb2] at hbg
  rw [hdoP] at hC1
  simp only [List.nil_append] at hbg hC1
  dsimp only [ansS, noA] at hbg
  clear hbc hcode hdoP hb2
  repeat' first | refine wr (by omega) ?_ | refine ln ?_ | refine stp lay_ok rfl ?_ | refine fin ?_ | refine n_thn ?_ | refine n_blk ?_ | refine e_thn ?_ | refine e_hit ?_ | refine e_miss rfl ?_ | refine r_thn ?_ | refine r_blk ?_ | refine e_rr ?_ | refine r_rr ?_ | refine e_cr ?_ | refine r_cr ?_ | refine .seq ?_ | refine reg ?_ | refine .block ?_ | refine .skip ?_ | refine .ret ?_ | refine .exit ?_ | refine cndT rfl ?_ | refine cndF rfl ?_ | refine c_dec rfl (fun hc => ?_) (fun hc => ?_) | refine c_ndec rfl (fun hc => ?_) (fun hc => ?_) | refine cnd rfl (fun hc => ?_) (fun hc => ?_) | ((first | refine o_none rfl ?_ | refine o_none_ ?_ | refine o_yes rfl rfl rfl ?_ | refine o_yes_ rfl rfl ?_); first | refine st_callG [0,1] 1 (hbg) b14 rfl rfl rfl rfl rfl (by (repeat' first | exact trivial | refine And.intro ?_ ?_ | rfl); first | done | fail) rfl ?_) | refine gd rfl rfl rfl (fun hg => ?_) (fun hg => ?_) | refine gn rfl rfl rfl (fun hg => ?_) (fun hg => ?_)
  all_goals first
    | (exfalso; omega)
    | skip
  clear hbg
  refine CodeOk.wk (Wk.nilT 1 14 rfl rfl) (Nat.le_succ _) ?_
  refine nrm rfl rfl ?_
  refine lpR (fun (k, es, ins) => k ≤ ps.length ∧ CatP [(⟨cl, nm, false, es⟩ : NV)] ∧ es.length = ins.length ∧ ins.length ≤ k ∧ ∀ e ∈ es, memB e.path ins = true ∧ e.keys = ks) (fun (k, es, ins) => ps.length - k) (fun (k, es, ins) => [(15, I k), (14, .lsl 6 1 0 (ins.map rowS).length)]) (fun (k, es, ins) => [(0, .cells [.lsl 5 4 (gN false) ([(⟨cl, nm, false, es⟩ : NV)].map rowN).length]), (5, .arr 4 ([(⟨cl, nm, false, es⟩ : NV)].map rowN ++ gR false)), (6, .arr 1 (ins.map rowS))]) ((0, [], [])) [0, 1, 2, 3, 9, 10] [0] [2, 4] rfl rfl rfl (.of [2, 4] (by (repeat' first | exact trivial | refine And.intro ?_ ?_ | rfl); first | done | fail) (by (repeat' first | exact trivial | refine And.intro ?_ ?_ | rfl); first | done | fail) rfl) ?_ ?_
  · exact ⟨Nat.zero_le _, hC1, rfl, Nat.le_refl _, by simp⟩
  clear hC1
  rintro ⟨k, es, ins⟩ ⟨m1, m2, m3, m4, m5⟩
  refine nrm rfl rfl ?_
  have hmi : (List.map rowS ins).length = ins.length := List.length_map _
  by_cases hk2 : k < ps.length
  · have hat := at_rowS hk2
    have hps := k2 _ (List.getElem_mem hk2)
    generalize ps[k] = p at *
    have hdo := do_ok [(⟨cl, nm, false, es⟩ : NV)] false cl ⟨2, nm, p, ks, 0⟩ (by simp) m2 ⟨by show nm.size ≤ _; omega, by show p.size ≤ _; omega, by show ks.length ≤ _; omega⟩
    have hC2 := doP_cat cl ⟨2, nm, p, ks, 0⟩ m2
    have hadd := add_one (c := cl) (nm := nm) (es := es) (p := p) (ks := ks)
    have href := doP_refused (l := [(⟨cl, nm, false, es⟩ : NV)]) (c := cl) (o := ⟨2, nm, p, ks, 0⟩)
    rw [doB_keep (by simp) (by simp) (by simp)] at hdo
    by_cases hcode : (doP [(⟨cl, nm, false, es⟩ : NV)] cl ⟨2, nm, p, ks, 0⟩).2.code = 0
    · have h1 := hadd hcode
      obtain ⟨q1, q2⟩ := srtE_facts (es ++ [⟨p, tot ks, ks⟩])
      rw [h1] at hdo hC2
      generalize (doP [(⟨cl, nm, false, es⟩ : NV)] cl ⟨2, nm, p, ks, 0⟩).2 = a at *
      obtain ⟨xc, xn, xs, xk, xe⟩ := a
      simp only at hcode
      subst hcode
      have hr : List.map rowS ins ++ [[SV.str p]] = List.map rowS (ins ++ [p]) := by rw [List.map_append]; rfl
      generalize srtE (es ++ [⟨p, tot ks, ks⟩]) = es2 at *
      dsimp only [ansS] at hdo
      repeat' first | refine wr (by omega) ?_ | refine ln ?_ | refine stp lay_ok rfl ?_ | refine fin ?_ | refine n_thn ?_ | refine n_blk ?_ | refine e_thn ?_ | refine e_hit ?_ | refine e_miss rfl ?_ | refine r_thn ?_ | refine r_blk ?_ | refine e_rr ?_ | refine r_rr ?_ | refine e_cr ?_ | refine r_cr ?_ | refine .seq ?_ | refine reg ?_ | refine .block ?_ | refine .skip ?_ | refine .ret ?_ | refine .exit ?_ | refine cndT rfl ?_ | refine cndF rfl ?_ | refine c_dec rfl (fun hc => ?_) (fun hc => ?_) | refine c_ndec rfl (fun hc => ?_) (fun hc => ?_) | refine cnd rfl (fun hc => ?_) (fun hc => ?_) | ((first | refine o_none rfl ?_ | refine o_none_ ?_ | refine o_yes rfl rfl rfl ?_ | refine o_yes_ rfl rfl ?_); first | refine st_index [SV.str p] lay_ok rfl rfl rfl rfl (by omega) hat ?_ | refine st_callG [0,5] 1 (hdo) b14 rfl rfl rfl rfl rfl (by (repeat' first | exact trivial | refine And.intro ?_ ?_ | rfl); first | done | fail) rfl ?_ | refine st_append lay_ok rfl rfl rfl rfl rfl rfl rfl rfl (.lsl rfl rfl) (.sl (rows := [[SV.str p]])) rfl (rowS_one1 p) (by simp only [List.length_cons, List.length_nil]; omega) (by simp only [List.length_cons, List.length_nil]; omega) ?_) | refine gd rfl rfl rfl (fun hg => ?_) (fun hg => ?_) | refine gn rfl rfl rfl (fun hg => ?_) (fun hg => ?_)
      all_goals first
        | (exfalso; omega)
        | skip
      rw [hr]
      refine n_rr ((k + 1, es2, ins ++ [p])) ?_ (.of [7, 9] (by (repeat' first | exact trivial | refine And.intro ?_ ?_ | rfl | exact congrArg (fun z : Int => some (AV.st (.int .i64 z))) (show (k : Int) + 1 = ((k + 1 : Nat) : Int) by omega)); first | done | fail) (by (repeat' first | exact trivial | refine And.intro ?_ ?_ | rfl | exact congrArg (fun z : Int => some (AV.st (.int .i64 z))) (show (k : Int) + 1 = ((k + 1 : Nat) : Int) by omega)); first | done | fail) rfl) ?_
      · show ps.length - (k + 1) < ps.length - k; omega
      · refine ⟨hk2, hC2, by rw [q1.length_eq]; simp; omega, by simp; omega, fun e he => ?_⟩
        rcases List.mem_append.1 (q1.mem_iff.1 he) with h | h
        · obtain ⟨u1, u2⟩ := m5 e h
          exact ⟨memB_iff.2 (List.mem_append_left _ (memB_iff.1 u1)), u2⟩
        · rw [List.mem_singleton] at h
          subst h
          exact ⟨memB_iff.2 (by simp), rfl⟩
    · obtain ⟨h1, h2⟩ := href hcode
      rw [h1, h2] at hdo
      generalize (doP [(⟨cl, nm, false, es⟩ : NV)] cl ⟨2, nm, p, ks, 0⟩).2.code = xc at *
      dsimp only [ansS, noA] at hdo
      repeat' first | refine wr (by omega) ?_ | refine ln ?_ | refine stp lay_ok rfl ?_ | refine fin ?_ | refine n_thn ?_ | refine n_blk ?_ | refine e_thn ?_ | refine e_hit ?_ | refine e_miss rfl ?_ | refine r_thn ?_ | refine r_blk ?_ | refine e_rr ?_ | refine r_rr ?_ | refine e_cr ?_ | refine r_cr ?_ | refine .seq ?_ | refine reg ?_ | refine .block ?_ | refine .skip ?_ | refine .ret ?_ | refine .exit ?_ | refine cndT rfl ?_ | refine cndF rfl ?_ | refine c_dec rfl (fun hc => ?_) (fun hc => ?_) | refine c_ndec rfl (fun hc => ?_) (fun hc => ?_) | refine cnd rfl (fun hc => ?_) (fun hc => ?_) | ((first | refine o_none rfl ?_ | refine o_none_ ?_ | refine o_yes rfl rfl rfl ?_ | refine o_yes_ rfl rfl ?_); first | refine st_index [SV.str p] lay_ok rfl rfl rfl rfl (by omega) hat ?_ | refine st_callG [0,5] 1 (hdo) b14 rfl rfl rfl rfl rfl (by (repeat' first | exact trivial | refine And.intro ?_ ?_ | rfl); first | done | fail) rfl ?_) | refine gd rfl rfl rfl (fun hg => ?_) (fun hg => ?_) | refine gn rfl rfl rfl (fun hg => ?_) (fun hg => ?_)
      all_goals first
        | (exfalso; omega)
        | skip
      refine n_rr ((k + 1, es, ins)) ?_ (.of [7, 6] (by (repeat' first | exact trivial | refine And.intro ?_ ?_ | rfl | exact congrArg (fun z : Int => some (AV.st (.int .i64 z))) (show (k : Int) + 1 = ((k + 1 : Nat) : Int) by omega)); first | done | fail) (by (repeat' first | exact trivial | refine And.intro ?_ ?_ | rfl | exact congrArg (fun z : Int => some (AV.st (.int .i64 z))) (show (k : Int) + 1 = ((k + 1 : Nat) : Int) by omega)); first | done | fail) rfl) ?_
      · show ps.length - (k + 1) < ps.length - k; omega
      · exact ⟨hk2, m2, m3, by omega, m5⟩
  have hcm := do_nil [(⟨cl, nm, false, es⟩ : NV)] false cl 3 0 nm ⟨#[]⟩ (by simp) m2 (by omega) (by decide)
  rw [commit_one es (named_req 3 (.inl rfl) hreq), doB_keep (by simp) (by simp) (by simp)] at hcm
  have m6 : CatP [(⟨cl, nm, true, es⟩ : NV)] := by
    have := doP_cat cl ⟨3, nm, ⟨#[]⟩, [], 0⟩ m2
    rw [commit_one es (named_req 3 (.inl rfl) hreq)] at this
    exact this
  have hpl := do_nil [(⟨cl, nm, true, es⟩ : NV)] false cl 7 0 nm ⟨#[]⟩ (by simp) m6 (by omega) (by decide)
  rw [plan_one es (named_req 7 (.inr (.inr rfl)) hreq), doB_keep (by simp) (by simp) (by simp)] at hpl
  dsimp only [ansS, noA] at hcm hpl
  have hS := m6.one _ (.head _)
  have hT : TreeP es := hS.tr
  have hel : es.length ≤ 32 := hT.len
  have hme : (List.map rowE es).length = es.length := List.length_map _
  repeat' first | refine wr (by omega) ?_ | refine ln ?_ | refine stp lay_ok rfl ?_ | refine fin ?_ | refine n_thn ?_ | refine n_blk ?_ | refine e_thn ?_ | refine e_hit ?_ | refine e_miss rfl ?_ | refine r_thn ?_ | refine r_blk ?_ | refine e_rr ?_ | refine r_rr ?_ | refine e_cr ?_ | refine r_cr ?_ | refine .seq ?_ | refine reg ?_ | refine .block ?_ | refine .skip ?_ | refine .ret ?_ | refine .exit ?_ | refine cndT rfl ?_ | refine cndF rfl ?_ | refine c_dec rfl (fun hc => ?_) (fun hc => ?_) | refine c_ndec rfl (fun hc => ?_) (fun hc => ?_) | refine cnd rfl (fun hc => ?_) (fun hc => ?_) | ((first | refine o_none rfl ?_ | refine o_none_ ?_ | refine o_yes rfl rfl rfl ?_ | refine o_yes_ rfl rfl ?_); first | refine st_callG [0,5] 1 (hcm) b14 rfl rfl rfl rfl rfl (by (repeat' first | exact trivial | refine And.intro ?_ ?_ | rfl); first | done | fail) rfl ?_ | refine st_callG [0,7] 1 (hpl) b14 rfl rfl rfl rfl rfl (by (repeat' first | exact trivial | refine And.intro ?_ ?_ | rfl); first | done | fail) rfl ?_) | refine gd rfl rfl rfl (fun hg => ?_) (fun hg => ?_) | refine gn rfl rfl rfl (fun hg => ?_) (fun hg => ?_)
  all_goals first
    | (exfalso; omega)
    | skip
  clear hcm hpl
  all_goals
    refine lpR (fun i => i ≤ es.length) (fun i => es.length - i) (fun i => [(19, I i)]) (fun i => [(0, .cells [.lsl 11 4 (gN false) ([(⟨cl, nm, true, es⟩ : NV)].map rowN).length]), (11, .arr 4 ([(⟨cl, nm, true, es⟩ : NV)].map rowN ++ gR false))]) (0) [0, 1, 3, 9, 10, 14, 18] [0] [9] rfl rfl rfl (.of [9] (by (repeat' first | exact trivial | refine And.intro ?_ ?_ | rfl); first | done | fail) (by (repeat' first | exact trivial | refine And.intro ?_ ?_ | rfl); first | done | fail) rfl) ?_ ?_
    · exact Nat.zero_le _
    rintro i i1
    refine nrm rfl rfl ?_
    by_cases hi : i < es.length
    case neg =>
      have hpr := do_nil [(⟨cl, nm, true, es⟩ : NV)] false cl 8 0 ⟨#[]⟩ ⟨#[]⟩ (by simp) m6 (by decide) (by decide)
      rw [prune_one es (reqOk_parts hreq).1, prune_flag] at hpr
      have hp2 := do_nil [] false cl 7 0 nm ⟨#[]⟩ (by simp) catP_nil (by omega) (by decide)
      rw [plan_none (named_req 7 (.inr (.inr rfl)) hreq), doB_keep (by simp) (by simp) (by simp)] at hp2
      dsimp only [ansS, noA] at hpr hp2
      repeat' first | refine wr (by omega) ?_ | refine ln ?_ | refine stp lay_ok rfl ?_ | refine fin ?_ | refine n_thn ?_ | refine n_blk ?_ | refine e_thn ?_ | refine e_hit ?_ | refine e_miss rfl ?_ | refine r_thn ?_ | refine r_blk ?_ | refine e_rr ?_ | refine r_rr ?_ | refine e_cr ?_ | refine r_cr ?_ | refine .seq ?_ | refine reg ?_ | refine .block ?_ | refine .skip ?_ | refine .ret ?_ | refine .exit ?_ | refine cndT rfl ?_ | refine cndF rfl ?_ | refine c_dec rfl (fun hc => ?_) (fun hc => ?_) | refine c_ndec rfl (fun hc => ?_) (fun hc => ?_) | refine cnd rfl (fun hc => ?_) (fun hc => ?_) | ((first | refine o_none rfl ?_ | refine o_none_ ?_ | refine o_yes rfl rfl rfl ?_ | refine o_yes_ rfl rfl ?_); first | refine st_callG [0,11] 1 (hpr) b14 rfl rfl rfl rfl rfl (by (repeat' first | exact trivial | refine And.intro ?_ ?_ | rfl); first | done | fail) rfl ?_ | refine st_callG [0,12] 1 (hp2) b14 rfl rfl rfl rfl rfl (by (repeat' first | exact trivial | refine And.intro ?_ ?_ | rfl); first | done | fail) rfl ?_) | refine gd rfl rfl rfl (fun hg => ?_) (fun hg => ?_) | refine gn rfl rfl rfl (fun hg => ?_) (fun hg => ?_)
      all_goals first
        | (exfalso; omega)
        | skip
      all_goals
        refine f_r [] rfl trivial rfl ⟨?_, rfl⟩
        rfl
    have hat := at_rowE hi
    obtain ⟨u1, u2⟩ := m5 _ (List.getElem_mem hi)
    have hhas := hasK_ok ins es[i].path (by omega)
    rw [u1] at hhas
    have hps : es[i].path.size ≤ 600 := (hS.small.2.2 _ (List.getElem_mem hi)).1
    have hlk := do_nil [(⟨cl, nm, true, es⟩ : NV)] false cl 6 0 nm es[i].path (by simp) m6 (by omega) (by omega)
    rw [look_one hT hreq (List.getElem_mem hi), doB_keep (by simp) (by simp) (by simp), u2] at hlk
    dsimp only [ansS] at hlk
    have hprev : 0 < i → ∃ hj : i - 1 < es.length, strLt es[i - 1].path es[i].path = true := fun h => ⟨by omega, (List.pairwise_iff_getElem.1 hT.up) (i - 1) i (by omega) hi (by omega)⟩
    generalize es[i] = e at *
    obtain ⟨p, z, ks'⟩ := e
    simp only at u2 hhas hlk hprev
    subst u2
    repeat' first | refine wr (by omega) ?_ | refine ln ?_ | refine stp lay_ok rfl ?_ | refine fin ?_ | refine n_thn ?_ | refine n_blk ?_ | refine e_thn ?_ | refine e_hit ?_ | refine e_miss rfl ?_ | refine r_thn ?_ | refine r_blk ?_ | refine e_rr ?_ | refine r_rr ?_ | refine e_cr ?_ | refine r_cr ?_ | refine .seq ?_ | refine reg ?_ | refine .block ?_ | refine .skip ?_ | refine .ret ?_ | refine .exit ?_ | refine cndT rfl ?_ | refine cndF rfl ?_ | refine c_dec rfl (fun hc => ?_) (fun hc => ?_) | refine c_ndec rfl (fun hc => ?_) (fun hc => ?_) | refine cnd rfl (fun hc => ?_) (fun hc => ?_) | ((first | refine o_none rfl ?_ | refine o_none_ ?_ | refine o_yes rfl rfl rfl ?_ | refine o_yes_ rfl rfl ?_); first | refine st_index [SV.str p, .int .i64 z, .sl 1 (ks'.map rowS)] lay_ok rfl rfl rfl rfl (by omega) hat ?_ | refine st_borrow (hhas) b16 rfl rfl (by (repeat' first | refine Borrow.cons' rfl ?_ ?_ | exact Borrow.nil' rfl | exact trivial | exact rfl | refine And.intro ?_ ?_); first | done | fail) rfl ?_ | refine st_callG [0,11] 1 (hlk) b14 rfl rfl rfl rfl rfl (by (repeat' first | exact trivial | refine And.intro ?_ ?_ | rfl); first | done | fail) rfl ?_) | refine gd rfl rfl rfl (fun hg => ?_) (fun hg => ?_) | refine gn rfl rfl rfl (fun hg => ?_) (fun hg => ?_)
    all_goals first
      | (exfalso; omega)
      | skip
    have fin8 : True := trivial
    rcases Nat.eq_zero_or_pos i with h0 | h0
    rotate_left
    · obtain ⟨hj, hlt⟩ := hprev h0
      have hat1 := at_rowE hj
      have hx : (es.map rowE)[((i : Int) - 1).toNat]? = some (rowE es[i - 1]) := by rw [← hat1]; congr 1; omega
      generalize es[i - 1] = y at *
      obtain ⟨yp, yz, yk⟩ := y
      simp only at hlt
      refine dreg [(0, [], []), (1, [0], []), (2, [0, 1], []), (3, [0, 1, 2], []), (4, [0, 1, 2, 3], []), (5, [0, 1, 2, 3, 4], []), (6, [0, 1, 2, 3, 4, 5], [168, 169, 173, 174]), (7, [0, 1, 2, 3, 4, 5, 6], [168, 169, 173, 174]), (8, [0, 1, 2, 3, 4, 5], [166, 167, 173, 174]), (9, [0, 1, 2, 3, 4, 5, 8], [166, 167, 173, 174]), (10, [0, 1, 2, 3, 4, 5, 6, 7, 8, 9], [173, 174]), (11, [0, 1, 2, 3, 4, 5, 6, 7, 8, 9, 10], [173, 174]), (12, [0, 1, 2, 3, 4, 5, 6, 7, 8, 9, 10, 11], [173, 174]), (13, [0, 1, 2, 3, 4, 5], [166, 167, 168, 169, 170, 171, 172]), (14, [0, 1, 2, 3, 4, 5, 13], [166, 167, 168, 169, 170, 171, 172]), (15, [0, 1, 2, 3, 4, 5, 6, 7, 8, 9, 10, 11, 12, 13, 14], []), (16, [0, 1, 2, 3, 4, 5, 6, 7, 8, 9, 10, 11, 12, 13, 14, 15], []), (17, [0, 1, 2, 3, 4, 5, 6, 7, 8, 9, 10, 11, 12, 13, 14, 15, 16], []), (18, [0, 1, 2, 3, 4, 5, 6, 7, 8, 9, 10, 11, 12, 13, 14, 15, 16, 17], []), (19, [0, 1, 2, 3, 4, 5, 6, 7, 8, 9, 10, 11, 12, 13, 14, 15, 16, 17, 18], []), (20, [0, 1, 2, 3, 4, 5, 6, 7, 8, 9, 10, 11, 12, 13, 14, 15, 16, 17, 18, 19], []), (21, [0, 1, 2, 3, 4, 5, 6, 7, 8, 9, 10, 11, 12, 13, 14, 15, 16, 17, 18, 19, 20], []), (22, [0, 1, 2, 3, 4, 5, 6, 7, 8, 9, 10, 11, 12, 13, 14, 15, 16, 17, 18, 19, 20, 21], []), (23, [0, 1, 2, 3, 4, 5, 6, 7, 8, 9, 10, 11, 12, 13, 14, 15, 16, 17, 18, 19, 20, 21, 22], []), (24, [0, 1, 2, 3, 4, 5, 6, 7, 8, 9, 10, 11, 12, 13, 14, 15, 16, 17, 18, 19, 20, 21, 22, 23], [186, 187]), (25, [0, 1, 2, 3, 4, 5, 6, 7, 8, 9, 10, 11, 12, 13, 14, 15, 16, 17, 18, 19, 20, 21, 22, 23, 24], [186, 187]), (26, [0, 1, 2, 3, 4, 5, 6, 7, 8, 9, 10, 11, 12, 13, 14, 15, 16, 17, 18, 19, 20, 21, 22, 23], [184, 185]), (27, [0, 1, 2, 3, 4, 5, 6, 7, 8, 9, 10, 11, 12, 13, 14, 15, 16, 17, 18, 19, 20, 21, 22, 23, 26], [184, 185]), (28, [0, 1, 2, 3, 4, 5, 6, 7, 8, 9, 10, 11, 12, 13, 14, 15, 16, 17, 18, 19, 20, 21, 22, 23, 24, 25, 26, 27], []), (29, [0, 1, 2, 3, 4, 5, 6, 7, 8, 9, 10, 11, 12, 13, 14, 15, 16, 17, 18, 19, 20, 21, 22, 23, 24, 25, 26, 27, 28], []), (30, [0, 1, 2, 3, 4, 5, 6, 7, 8, 9, 10, 11, 12, 13, 14, 15, 16, 17, 18, 19, 20, 21, 22, 23, 24, 25, 26, 27, 28, 29], []), (31, [0, 1, 2, 3, 4, 5, 6, 7, 8, 9, 10, 11, 12, 13, 14, 15, 16, 17, 18, 19, 20, 21, 22, 23, 24, 25, 26, 27, 28, 29, 30], [194, 195]), (32, [0, 1, 2, 3, 4, 5, 6, 7, 8, 9, 10, 11, 12, 13, 14, 15, 16, 17, 18, 19, 20, 21, 22, 23, 24, 25, 26, 27, 28, 29, 30, 31], [194, 195]), (33, [0, 1, 2, 3, 4, 5, 6, 7, 8, 9, 10, 11, 12, 13, 14, 15, 16, 17, 18, 19, 20, 21, 22, 23, 24, 25, 26, 27, 28, 29, 30, 31, 32], [194, 195]), (34, [0, 1, 2, 3, 4, 5, 6, 7, 8, 9, 10, 11, 12, 13, 14, 15, 16, 17, 18, 19, 20, 21, 22, 23, 24, 25, 26, 27, 28, 29, 30], [191, 192, 193]), (35, [0, 1, 2, 3, 4, 5, 6, 7, 8, 9, 10, 11, 12, 13, 14, 15, 16, 17, 18, 19, 20, 21, 22, 23, 24, 25, 26, 27, 28, 29, 30, 34], [191, 192, 193]), (36, [0, 1, 2, 3, 4, 5, 6, 7, 8, 9, 10, 11, 12, 13, 14, 15, 16, 17, 18, 19, 20, 21, 22, 23, 24, 25, 26, 27, 28, 29, 30, 31, 32, 33, 34, 35], []), (37, [0, 1, 2, 3, 4, 5, 6, 7, 8, 9, 10, 11, 12, 13, 14, 15, 16, 17, 18, 19, 20, 21, 22, 23, 24, 25, 26, 27, 28, 29, 30, 31, 32, 33, 34, 35, 36], []), (38, [0, 1, 2, 3, 4, 5, 6, 7, 8, 9, 10, 11, 12, 13, 14, 15, 16, 17, 18, 19, 20, 21, 22, 23, 24, 25, 26, 27, 28, 29, 30, 31, 32, 33, 34, 35, 36, 37], []), (39, [0, 1, 2, 3, 4, 5, 6, 7, 8, 9, 10, 11, 12, 13, 14, 15, 16, 17, 18, 19, 20, 21, 22, 23, 24, 25, 26, 27, 28, 29, 30, 31, 32, 33, 34, 35, 36, 37, 38], [202, 203]), (40, [0, 1, 2, 3, 4, 5, 6, 7, 8, 9, 10, 11, 12, 13, 14, 15, 16, 17, 18, 19, 20, 21, 22, 23, 24, 25, 26, 27, 28, 29, 30, 31, 32, 33, 34, 35, 36, 37, 38, 39], [202, 203]), (41, [0, 1, 2, 3, 4, 5, 6, 7, 8, 9, 10, 11, 12, 13, 14, 15, 16, 17, 18, 19, 20, 21, 22, 23, 24, 25, 26, 27, 28, 29, 30, 31, 32, 33, 34, 35, 36, 37, 38, 39, 40], [202, 203]), (42, [0, 1, 2, 3, 4, 5, 6, 7, 8, 9, 10, 11, 12, 13, 14, 15, 16, 17, 18, 19, 20, 21, 22, 23, 24, 25, 26, 27, 28, 29, 30, 31, 32, 33, 34, 35, 36, 37, 38], [199, 200, 201]), (43, [0, 1, 2, 3, 4, 5, 6, 7, 8, 9, 10, 11, 12, 13, 14, 15, 16, 17, 18, 19, 20, 21, 22, 23, 24, 25, 26, 27, 28, 29, 30, 31, 32, 33, 34, 35, 36, 37, 38, 42], [199, 200, 201]), (44, [0, 1, 2, 3, 4, 5, 6, 7, 8, 9, 10, 11, 12, 13, 14, 15, 16, 17, 18, 19, 20, 21, 22, 23, 24, 25, 26, 27, 28, 29, 30, 31, 32, 33, 34, 35, 36, 37, 38, 39, 40, 41, 42, 43], []), (45, [0, 1, 2, 3, 4, 5, 6, 7, 8, 9, 10, 11, 12, 13, 14, 15, 16, 17, 18, 19, 20, 21, 22, 23, 24, 25, 26, 27, 28, 29, 30, 31, 32, 33, 34, 35, 36, 37, 38, 39, 40, 41, 42, 43, 44], [])] mixed (by kernel_rfl) ?_
      repeat' first | refine wr (by omega) ?_ | refine ln ?_ | refine stp lay_ok rfl ?_ | refine fin ?_ | refine n_thn ?_ | refine n_blk ?_ | refine e_thn ?_ | refine e_hit ?_ | refine e_miss rfl ?_ | refine r_thn ?_ | refine r_blk ?_ | refine e_rr ?_ | refine r_rr ?_ | refine e_cr ?_ | refine r_cr ?_ | refine .seq ?_ | refine reg ?_ | refine .block ?_ | refine .skip ?_ | refine .ret ?_ | refine .exit ?_ | refine cndT rfl ?_ | refine cndF rfl ?_ | refine c_dec rfl (fun hc => ?_) (fun hc => ?_) | refine c_ndec rfl (fun hc => ?_) (fun hc => ?_) | refine cnd rfl (fun hc => ?_) (fun hc => ?_) | ((first | refine o_none rfl ?_ | refine o_none_ ?_ | refine o_yes rfl rfl rfl ?_ | refine o_yes_ rfl rfl ?_); first | refine st_index [SV.str yp, .int .i64 yz, .sl 1 (yk.map rowS)] lay_ok rfl rfl rfl rfl (by omega) hx ?_) | refine gd rfl rfl rfl (fun hg => ?_) (fun hg => ?_) | refine gn rfl rfl rfl (fun hg => ?_) (fun hg => ?_) | refine dwr (by omega) ?_ | refine dwl ?_ | refine dws lay_ok rfl rfl rfl rfl rfl rfl rfl ?_ | refine dwu lay_ok rfl rfl rfl rfl rfl rfl rfl rfl rfl ?_ | refine dw_end ?_ | refine dw_skip rfl rfl rfl ?_ | refine dwn lay_ok rfl rfl rfl rfl rfl ?_ | refine dwb rfl rfl rfl rfl rfl (by (first | refine st_index [SV.str yp, .int .i64 yz, .sl 1 (yk.map rowS)] lay_ok rfl rfl rfl rfl (by omega) hx ?_); exact fin rfl) rfl rfl ?_ | refine dwg rfl rfl rfl rfl rfl (by (first | refine st_index [SV.str yp, .int .i64 yz, .sl 1 (yk.map rowS)] lay_ok rfl rfl rfl rfl (by omega) hx ?_); exact fin rfl) rfl rfl rfl rfl rfl ?_ | refine dw_dec rfl rfl rfl (fun hg => ?_) (fun hg => ?_) | refine dw_ndec rfl rfl rfl (fun hg => ?_) (fun hg => ?_)
      all_goals first
        | (exfalso; omega)
        | skip
      rw [hlt]
      repeat' first | refine wr (by omega) ?_ | refine ln ?_ | refine stp lay_ok rfl ?_ | refine fin ?_ | refine n_thn ?_ | refine n_blk ?_ | refine e_thn ?_ | refine e_hit ?_ | refine e_miss rfl ?_ | refine r_thn ?_ | refine r_blk ?_ | refine e_rr ?_ | refine r_rr ?_ | refine e_cr ?_ | refine r_cr ?_ | refine .seq ?_ | refine reg ?_ | refine .block ?_ | refine .skip ?_ | refine .ret ?_ | refine .exit ?_ | refine cndT rfl ?_ | refine cndF rfl ?_ | refine c_dec rfl (fun hc => ?_) (fun hc => ?_) | refine c_ndec rfl (fun hc => ?_) (fun hc => ?_) | refine cnd rfl (fun hc => ?_) (fun hc => ?_) | refine gd rfl rfl rfl (fun hg => ?_) (fun hg => ?_) | refine gn rfl rfl rfl (fun hg => ?_) (fun hg => ?_) | refine dwr (by omega) ?_ | refine dwl ?_ | refine dws lay_ok rfl rfl rfl rfl rfl rfl rfl ?_ | refine dwu lay_ok rfl rfl rfl rfl rfl rfl rfl rfl rfl ?_ | refine dw_end ?_ | refine dw_skip rfl rfl rfl ?_ | refine dwn lay_ok rfl rfl rfl rfl rfl ?_ | refine dw_dec rfl rfl rfl (fun hg => ?_) (fun hg => ?_) | refine dw_ndec rfl rfl rfl (fun hg => ?_) (fun hg => ?_)
      all_goals first
        | (exfalso; omega)
        | skip
      refine lpR (fun j => j ≤ ks'.length) (fun j => ks'.length - j) (fun j => [(23, I j)]) (fun j => []) (0) [0, 1, 3, 9, 10, 14, 18, 19, 20, 22] [] [] rfl rfl rfl (.of [] (by (repeat' first | exact trivial | refine And.intro ?_ ?_ | rfl); first | done | fail) (by (repeat' first | exact trivial | refine And.intro ?_ ?_ | rfl); first | done | fail) rfl) ?_ ?_
      · exact Nat.zero_le _
      rintro j j1
      refine nrm rfl rfl ?_
      by_cases hj' : j < ks'.length
      · have hatk := at_rowS hj'
        generalize ks'[j] = y at *
        repeat' first | refine wr (by omega) ?_ | refine ln ?_ | refine stp lay_ok rfl ?_ | refine fin ?_ | refine n_thn ?_ | refine n_blk ?_ | refine e_thn ?_ | refine e_hit ?_ | refine e_miss rfl ?_ | refine r_thn ?_ | refine r_blk ?_ | refine e_rr ?_ | refine r_rr ?_ | refine e_cr ?_ | refine r_cr ?_ | refine .seq ?_ | refine reg ?_ | refine .block ?_ | refine .skip ?_ | refine .ret ?_ | refine .exit ?_ | refine cndT rfl ?_ | refine cndF rfl ?_ | refine c_dec rfl (fun hc => ?_) (fun hc => ?_) | refine c_ndec rfl (fun hc => ?_) (fun hc => ?_) | refine cnd rfl (fun hc => ?_) (fun hc => ?_) | refine gd rfl rfl rfl (fun hg => ?_) (fun hg => ?_) | refine gn rfl rfl rfl (fun hg => ?_) (fun hg => ?_)
        all_goals first
          | (exfalso; omega)
          | skip
        refine dreg [(0, [], [214, 217, 218, 219, 220]), (1, [0], [214, 217, 218, 219, 220]), (2, [], [212, 213, 217, 218, 219, 220]), (3, [0, 1, 2], [217, 218, 219, 220]), (4, [0, 1, 2, 3], [217, 218, 219, 220]), (5, [], [212, 213, 214, 215, 216, 218]), (6, [], [212, 213, 214, 215, 216, 217]), (7, [5, 6], [212, 213, 214, 215, 216]), (8, [5, 6, 7], [212, 213, 214, 215, 216]), (9, [0, 1, 2, 3, 4, 5, 6, 7, 8], []), (10, [0, 1, 2, 3, 4, 5, 6, 7, 8, 9], []), (11, [0, 1, 2, 3, 4, 5, 6, 7, 8, 9, 10], [225, 228, 229, 230, 231]), (12, [0, 1, 2, 3, 4, 5, 6, 7, 8, 9, 10, 11], [225, 228, 229, 230, 231]), (13, [0, 1, 2, 3, 4, 5, 6, 7, 8, 9, 10], [223, 224, 228, 229, 230, 231]), (14, [0, 1, 2, 3, 4, 5, 6, 7, 8, 9, 10, 11, 12, 13], [228, 229, 230, 231]), (15, [0, 1, 2, 3, 4, 5, 6, 7, 8, 9, 10, 11, 12, 13, 14], [228, 229, 230, 231]), (16, [0, 1, 2, 3, 4, 5, 6, 7, 8, 9, 10], [223, 224, 225, 226, 227, 229]), (17, [0, 1, 2, 3, 4, 5, 6, 7, 8, 9, 10], [223, 224, 225, 226, 227, 228]), (18, [0, 1, 2, 3, 4, 5, 6, 7, 8, 9, 10, 16, 17], [223, 224, 225, 226, 227]), (19, [0, 1, 2, 3, 4, 5, 6, 7, 8, 9, 10, 16, 17, 18], [223, 224, 225, 226, 227]), (20, [0, 1, 2, 3, 4, 5, 6, 7, 8, 9, 10, 11, 12, 13, 14, 15, 16, 17, 18, 19], []), (21, [0, 1, 2, 3, 4, 5, 6, 7, 8, 9, 10, 11, 12, 13, 14, 15, 16, 17, 18, 19, 20], [])] mixed (by kernel_rfl) ?_
        repeat' first | refine wr (by omega) ?_ | refine ln ?_ | refine stp lay_ok rfl ?_ | refine fin ?_ | refine n_thn ?_ | refine n_blk ?_ | refine e_thn ?_ | refine e_hit ?_ | refine e_miss rfl ?_ | refine r_thn ?_ | refine r_blk ?_ | refine e_rr ?_ | refine r_rr ?_ | refine e_cr ?_ | refine r_cr ?_ | refine .seq ?_ | refine reg ?_ | refine .block ?_ | refine .skip ?_ | refine .ret ?_ | refine .exit ?_ | refine cndT rfl ?_ | refine cndF rfl ?_ | refine c_dec rfl (fun hc => ?_) (fun hc => ?_) | refine c_ndec rfl (fun hc => ?_) (fun hc => ?_) | refine cnd rfl (fun hc => ?_) (fun hc => ?_) | ((first | refine o_none rfl ?_ | refine o_none_ ?_ | refine o_yes rfl rfl rfl ?_ | refine o_yes_ rfl rfl ?_); first | refine st_index [SV.str y] lay_ok rfl rfl rfl rfl (by omega) hatk ?_) | refine gd rfl rfl rfl (fun hg => ?_) (fun hg => ?_) | refine gn rfl rfl rfl (fun hg => ?_) (fun hg => ?_) | refine dwr (by omega) ?_ | refine dwl ?_ | refine dws lay_ok rfl rfl rfl rfl rfl rfl rfl ?_ | refine dwu lay_ok rfl rfl rfl rfl rfl rfl rfl rfl rfl ?_ | refine dw_end ?_ | refine dw_skip rfl rfl rfl ?_ | refine dwn lay_ok rfl rfl rfl rfl rfl ?_ | refine dwb rfl rfl rfl rfl rfl (by (first | refine st_index [SV.str y] lay_ok rfl rfl rfl rfl (by omega) hatk ?_); exact fin rfl) rfl rfl ?_ | refine dwg rfl rfl rfl rfl rfl (by (first | refine st_index [SV.str y] lay_ok rfl rfl rfl rfl (by omega) hatk ?_); exact fin rfl) rfl rfl rfl rfl rfl ?_ | refine dw_dec rfl rfl rfl (fun hg => ?_) (fun hg => ?_) | refine dw_ndec rfl rfl rfl (fun hg => ?_) (fun hg => ?_)
        all_goals first
          | (exfalso; omega)
          | (exfalso; exact hg rfl)
          | (exfalso; exact hc rfl)
          | skip
        refine n_rr (j + 1) ?_ (.of [] (by (repeat' first | exact trivial | refine And.intro ?_ ?_ | rfl | exact congrArg (fun z : Int => some (AV.st (.int .i64 z))) (show (j : Int) + 1 = ((j + 1 : Nat) : Int) by omega)); first | done | fail) (by (repeat' first | exact trivial | refine And.intro ?_ ?_ | rfl | exact congrArg (fun z : Int => some (AV.st (.int .i64 z))) (show (j : Int) + 1 = ((j + 1 : Nat) : Int) by omega)); first | done | fail) rfl) ?_
        · omega
        · omega
      · repeat' first | refine wr (by omega) ?_ | refine ln ?_ | refine stp lay_ok rfl ?_ | refine fin ?_ | refine n_thn ?_ | refine n_blk ?_ | refine e_thn ?_ | refine e_hit ?_ | refine e_miss rfl ?_ | refine r_thn ?_ | refine r_blk ?_ | refine e_rr ?_ | refine r_rr ?_ | refine e_cr ?_ | refine r_cr ?_ | refine .seq ?_ | refine reg ?_ | refine .block ?_ | refine .skip ?_ | refine .ret ?_ | refine .exit ?_ | refine cndT rfl ?_ | refine cndF rfl ?_ | refine c_dec rfl (fun hc => ?_) (fun hc => ?_) | refine c_ndec rfl (fun hc => ?_) (fun hc => ?_) | refine cnd rfl (fun hc => ?_) (fun hc => ?_) | refine gd rfl rfl rfl (fun hg => ?_) (fun hg => ?_) | refine gn rfl rfl rfl (fun hg => ?_) (fun hg => ?_) | refine dwr (by omega) ?_ | refine dwl ?_ | refine dws lay_ok rfl rfl rfl rfl rfl rfl rfl ?_ | refine dwu lay_ok rfl rfl rfl rfl rfl rfl rfl rfl rfl ?_ | refine dw_end ?_ | refine dw_skip rfl rfl rfl ?_ | refine dwn lay_ok rfl rfl rfl rfl rfl ?_ | refine dw_dec rfl rfl rfl (fun hg => ?_) (fun hg => ?_) | refine dw_ndec rfl rfl rfl (fun hg => ?_) (fun hg => ?_)
        all_goals first
          | (exfalso; omega)
          | skip
        refine n_rr (i + 1) ?_ (.of [13] (by (repeat' first | exact trivial | refine And.intro ?_ ?_ | rfl | exact congrArg (fun z : Int => some (AV.st (.int .i64 z))) (show (i : Int) + 1 = ((i + 1 : Nat) : Int) by omega)); first | done | fail) (by (repeat' first | exact trivial | refine And.intro ?_ ?_ | rfl | exact congrArg (fun z : Int => some (AV.st (.int .i64 z))) (show (i : Int) + 1 = ((i + 1 : Nat) : Int) by omega)); first | done | fail) rfl) ?_
        · omega
        · omega
    · refine dreg [(0, [], []), (1, [0], []), (2, [0, 1], []), (3, [0, 1, 2], []), (4, [0, 1, 2, 3], []), (5, [0, 1, 2, 3, 4], []), (6, [0, 1, 2, 3, 4, 5], [168, 169, 173, 174]), (7, [0, 1, 2, 3, 4, 5, 6], [168, 169, 173, 174]), (8, [0, 1, 2, 3, 4, 5], [166, 167, 173, 174]), (9, [0, 1, 2, 3, 4, 5, 8], [166, 167, 173, 174]), (10, [0, 1, 2, 3, 4, 5, 6, 7, 8, 9], [173, 174]), (11, [0, 1, 2, 3, 4, 5, 6, 7, 8, 9, 10], [173, 174]), (12, [0, 1, 2, 3, 4, 5, 6, 7, 8, 9, 10, 11], [173, 174]), (13, [0, 1, 2, 3, 4, 5], [166, 167, 168, 169, 170, 171, 172]), (14, [0, 1, 2, 3, 4, 5, 13], [166, 167, 168, 169, 170, 171, 172]), (15, [0, 1, 2, 3, 4, 5, 6, 7, 8, 9, 10, 11, 12, 13, 14], []), (16, [0, 1, 2, 3, 4, 5, 6, 7, 8, 9, 10, 11, 12, 13, 14, 15], []), (17, [0, 1, 2, 3, 4, 5, 6, 7, 8, 9, 10, 11, 12, 13, 14, 15, 16], []), (18, [0, 1, 2, 3, 4, 5, 6, 7, 8, 9, 10, 11, 12, 13, 14, 15, 16, 17], []), (19, [0, 1, 2, 3, 4, 5, 6, 7, 8, 9, 10, 11, 12, 13, 14, 15, 16, 17, 18], []), (20, [0, 1, 2, 3, 4, 5, 6, 7, 8, 9, 10, 11, 12, 13, 14, 15, 16, 17, 18, 19], []), (21, [0, 1, 2, 3, 4, 5, 6, 7, 8, 9, 10, 11, 12, 13, 14, 15, 16, 17, 18, 19, 20], []), (22, [0, 1, 2, 3, 4, 5, 6, 7, 8, 9, 10, 11, 12, 13, 14, 15, 16, 17, 18, 19, 20, 21], []), (23, [0, 1, 2, 3, 4, 5, 6, 7, 8, 9, 10, 11, 12, 13, 14, 15, 16, 17, 18, 19, 20, 21, 22], []), (24, [0, 1, 2, 3, 4, 5, 6, 7, 8, 9, 10, 11, 12, 13, 14, 15, 16, 17, 18, 19, 20, 21, 22, 23], [186, 187]), (25, [0, 1, 2, 3, 4, 5, 6, 7, 8, 9, 10, 11, 12, 13, 14, 15, 16, 17, 18, 19, 20, 21, 22, 23, 24], [186, 187]), (26, [0, 1, 2, 3, 4, 5, 6, 7, 8, 9, 10, 11, 12, 13, 14, 15, 16, 17, 18, 19, 20, 21, 22, 23], [184, 185]), (27, [0, 1, 2, 3, 4, 5, 6, 7, 8, 9, 10, 11, 12, 13, 14, 15, 16, 17, 18, 19, 20, 21, 22, 23, 26], [184, 185]), (28, [0, 1, 2, 3, 4, 5, 6, 7, 8, 9, 10, 11, 12, 13, 14, 15, 16, 17, 18, 19, 20, 21, 22, 23, 24, 25, 26, 27], []), (29, [0, 1, 2, 3, 4, 5, 6, 7, 8, 9, 10, 11, 12, 13, 14, 15, 16, 17, 18, 19, 20, 21, 22, 23, 24, 25, 26, 27, 28], []), (30, [0, 1, 2, 3, 4, 5, 6, 7, 8, 9, 10, 11, 12, 13, 14, 15, 16, 17, 18, 19, 20, 21, 22, 23, 24, 25, 26, 27, 28, 29], []), (31, [0, 1, 2, 3, 4, 5, 6, 7, 8, 9, 10, 11, 12, 13, 14, 15, 16, 17, 18, 19, 20, 21, 22, 23, 24, 25, 26, 27, 28, 29, 30], [194, 195]), (32, [0, 1, 2, 3, 4, 5, 6, 7, 8, 9, 10, 11, 12, 13, 14, 15, 16, 17, 18, 19, 20, 21, 22, 23, 24, 25, 26, 27, 28, 29, 30, 31], [194, 195]), (33, [0, 1, 2, 3, 4, 5, 6, 7, 8, 9, 10, 11, 12, 13, 14, 15, 16, 17, 18, 19, 20, 21, 22, 23, 24, 25, 26, 27, 28, 29, 30, 31, 32], [194, 195]), (34, [0, 1, 2, 3, 4, 5, 6, 7, 8, 9, 10, 11, 12, 13, 14, 15, 16, 17, 18, 19, 20, 21, 22, 23, 24, 25, 26, 27, 28, 29, 30], [191, 192, 193]), (35, [0, 1, 2, 3, 4, 5, 6, 7, 8, 9, 10, 11, 12, 13, 14, 15, 16, 17, 18, 19, 20, 21, 22, 23, 24, 25, 26, 27, 28, 29, 30, 34], [191, 192, 193]), (36, [0, 1, 2, 3, 4, 5, 6, 7, 8, 9, 10, 11, 12, 13, 14, 15, 16, 17, 18, 19, 20, 21, 22, 23, 24, 25, 26, 27, 28, 29, 30, 31, 32, 33, 34, 35], []), (37, [0, 1, 2, 3, 4, 5, 6, 7, 8, 9, 10, 11, 12, 13, 14, 15, 16, 17, 18, 19, 20, 21, 22, 23, 24, 25, 26, 27, 28, 29, 30, 31, 32, 33, 34, 35, 36], []), (38, [0, 1, 2, 3, 4, 5, 6, 7, 8, 9, 10, 11, 12, 13, 14, 15, 16, 17, 18, 19, 20, 21, 22, 23, 24, 25, 26, 27, 28, 29, 30, 31, 32, 33, 34, 35, 36, 37], []), (39, [0, 1, 2, 3, 4, 5, 6, 7, 8, 9, 10, 11, 12, 13, 14, 15, 16, 17, 18, 19, 20, 21, 22, 23, 24, 25, 26, 27, 28, 29, 30, 31, 32, 33, 34, 35, 36, 37, 38], [202, 203]), (40, [0, 1, 2, 3, 4, 5, 6, 7, 8, 9, 10, 11, 12, 13, 14, 15, 16, 17, 18, 19, 20, 21, 22, 23, 24, 25, 26, 27, 28, 29, 30, 31, 32, 33, 34, 35, 36, 37, 38, 39], [202, 203]), (41, [0, 1, 2, 3, 4, 5, 6, 7, 8, 9, 10, 11, 12, 13, 14, 15, 16, 17, 18, 19, 20, 21, 22, 23, 24, 25, 26, 27, 28, 29, 30, 31, 32, 33, 34, 35, 36, 37, 38, 39, 40], [202, 203]), (42, [0, 1, 2, 3, 4, 5, 6, 7, 8, 9, 10, 11, 12, 13, 14, 15, 16, 17, 18, 19, 20, 21, 22, 23, 24, 25, 26, 27, 28, 29, 30, 31, 32, 33, 34, 35, 36, 37, 38], [199, 200, 201]), (43, [0, 1, 2, 3, 4, 5, 6, 7, 8, 9, 10, 11, 12, 13, 14, 15, 16, 17, 18, 19, 20, 21, 22, 23, 24, 25, 26, 27, 28, 29, 30, 31, 32, 33, 34, 35, 36, 37, 38, 42], [199, 200, 201]), (44, [0, 1, 2, 3, 4, 5, 6, 7, 8, 9, 10, 11, 12, 13, 14, 15, 16, 17, 18, 19, 20, 21, 22, 23, 24, 25, 26, 27, 28, 29, 30, 31, 32, 33, 34, 35, 36, 37, 38, 39, 40, 41, 42, 43], []), (45, [0, 1, 2, 3, 4, 5, 6, 7, 8, 9, 10, 11, 12, 13, 14, 15, 16, 17, 18, 19, 20, 21, 22, 23, 24, 25, 26, 27, 28, 29, 30, 31, 32, 33, 34, 35, 36, 37, 38, 39, 40, 41, 42, 43, 44], [])] mixed (by kernel_rfl) ?_
      repeat' first | refine wr (by omega) ?_ | refine ln ?_ | refine stp lay_ok rfl ?_ | refine fin ?_ | refine n_thn ?_ | refine n_blk ?_ | refine e_thn ?_ | refine e_hit ?_ | refine e_miss rfl ?_ | refine r_thn ?_ | refine r_blk ?_ | refine e_rr ?_ | refine r_rr ?_ | refine e_cr ?_ | refine r_cr ?_ | refine .seq ?_ | refine reg ?_ | refine .block ?_ | refine .skip ?_ | refine .ret ?_ | refine .exit ?_ | refine cndT rfl ?_ | refine cndF rfl ?_ | refine c_dec rfl (fun hc => ?_) (fun hc => ?_) | refine c_ndec rfl (fun hc => ?_) (fun hc => ?_) | refine cnd rfl (fun hc => ?_) (fun hc => ?_) | refine gd rfl rfl rfl (fun hg => ?_) (fun hg => ?_) | refine gn rfl rfl rfl (fun hg => ?_) (fun hg => ?_) | refine dwr (by omega) ?_ | refine dwl ?_ | refine dws lay_ok rfl rfl rfl rfl rfl rfl rfl ?_ | refine dwu lay_ok rfl rfl rfl rfl rfl rfl rfl rfl rfl ?_ | refine dw_end ?_ | refine dw_skip rfl rfl rfl ?_ | refine dwn lay_ok rfl rfl rfl rfl rfl ?_ | refine dw_dec rfl rfl rfl (fun hg => ?_) (fun hg => ?_) | refine dw_ndec rfl rfl rfl (fun hg => ?_) (fun hg => ?_)
      all_goals first
        | (exfalso; omega)
        | skip
      refine lpR (fun j => j ≤ ks'.length) (fun j => ks'.length - j) (fun j => [(23, I j)]) (fun j => []) (0) [0, 1, 3, 9, 10, 14, 18, 19, 20, 22] [] [] rfl rfl rfl (.of [] (by (repeat' first | exact trivial | refine And.intro ?_ ?_ | rfl); first | done | fail) (by (repeat' first | exact trivial | refine And.intro ?_ ?_ | rfl); first | done | fail) rfl) ?_ ?_
      · exact Nat.zero_le _
      rintro j j1
      refine nrm rfl rfl ?_
      by_cases hj' : j < ks'.length
      · have hatk := at_rowS hj'
        generalize ks'[j] = y at *
        repeat' first | refine wr (by omega) ?_ | refine ln ?_ | refine stp lay_ok rfl ?_ | refine fin ?_ | refine n_thn ?_ | refine n_blk ?_ | refine e_thn ?_ | refine e_hit ?_ | refine e_miss rfl ?_ | refine r_thn ?_ | refine r_blk ?_ | refine e_rr ?_ | refine r_rr ?_ | refine e_cr ?_ | refine r_cr ?_ | refine .seq ?_ | refine reg ?_ | refine .block ?_ | refine .skip ?_ | refine .ret ?_ | refine .exit ?_ | refine cndT rfl ?_ | refine cndF rfl ?_ | refine c_dec rfl (fun hc => ?_) (fun hc => ?_) | refine c_ndec rfl (fun hc => ?_) (fun hc => ?_) | refine cnd rfl (fun hc => ?_) (fun hc => ?_) | refine gd rfl rfl rfl (fun hg => ?_) (fun hg => ?_) | refine gn rfl rfl rfl (fun hg => ?_) (fun hg => ?_)
        all_goals first
          | (exfalso; omega)
          | skip
        refine dreg [(0, [], [214, 217, 218, 219, 220]), (1, [0], [214, 217, 218, 219, 220]), (2, [], [212, 213, 217, 218, 219, 220]), (3, [0, 1, 2], [217, 218, 219, 220]), (4, [0, 1, 2, 3], [217, 218, 219, 220]), (5, [], [212, 213, 214, 215, 216, 218]), (6, [], [212, 213, 214, 215, 216, 217]), (7, [5, 6], [212, 213, 214, 215, 216]), (8, [5, 6, 7], [212, 213, 214, 215, 216]), (9, [0, 1, 2, 3, 4, 5, 6, 7, 8], []), (10, [0, 1, 2, 3, 4, 5, 6, 7, 8, 9], []), (11, [0, 1, 2, 3, 4, 5, 6, 7, 8, 9, 10], [225, 228, 229, 230, 231]), (12, [0, 1, 2, 3, 4, 5, 6, 7, 8, 9, 10, 11], [225, 228, 229, 230, 231]), (13, [0, 1, 2, 3, 4, 5, 6, 7, 8, 9, 10], [223, 224, 228, 229, 230, 231]), (14, [0, 1, 2, 3, 4, 5, 6, 7, 8, 9, 10, 11, 12, 13], [228, 229, 230, 231]), (15, [0, 1, 2, 3, 4, 5, 6, 7, 8, 9, 10, 11, 12, 13, 14], [228, 229, 230, 231]), (16, [0, 1, 2, 3, 4, 5, 6, 7, 8, 9, 10], [223, 224, 225, 226, 227, 229]), (17, [0, 1, 2, 3, 4, 5, 6, 7, 8, 9, 10], [223, 224, 225, 226, 227, 228]), (18, [0, 1, 2, 3, 4, 5, 6, 7, 8, 9, 10, 16, 17], [223, 224, 225, 226, 227]), (19, [0, 1, 2, 3, 4, 5, 6, 7, 8, 9, 10, 16, 17, 18], [223, 224, 225, 226, 227]), (20, [0, 1, 2, 3, 4, 5, 6, 7, 8, 9, 10, 11, 12, 13, 14, 15, 16, 17, 18, 19], []), (21, [0, 1, 2, 3, 4, 5, 6, 7, 8, 9, 10, 11, 12, 13, 14, 15, 16, 17, 18, 19, 20], [])] mixed (by kernel_rfl) ?_
        repeat' first | refine wr (by omega) ?_ | refine ln ?_ | refine stp lay_ok rfl ?_ | refine fin ?_ | refine n_thn ?_ | refine n_blk ?_ | refine e_thn ?_ | refine e_hit ?_ | refine e_miss rfl ?_ | refine r_thn ?_ | refine r_blk ?_ | refine e_rr ?_ | refine r_rr ?_ | refine e_cr ?_ | refine r_cr ?_ | refine .seq ?_ | refine reg ?_ | refine .block ?_ | refine .skip ?_ | refine .ret ?_ | refine .exit ?_ | refine cndT rfl ?_ | refine cndF rfl ?_ | refine c_dec rfl (fun hc => ?_) (fun hc => ?_) | refine c_ndec rfl (fun hc => ?_) (fun hc => ?_) | refine cnd rfl (fun hc => ?_) (fun hc => ?_) | ((first | refine o_none rfl ?_ | refine o_none_ ?_ | refine o_yes rfl rfl rfl ?_ | refine o_yes_ rfl rfl ?_); first | refine st_index [SV.str y] lay_ok rfl rfl rfl rfl (by omega) hatk ?_) | refine gd rfl rfl rfl (fun hg => ?_) (fun hg => ?_) | refine gn rfl rfl rfl (fun hg => ?_) (fun hg => ?_) | refine dwr (by omega) ?_ | refine dwl ?_ | refine dws lay_ok rfl rfl rfl rfl rfl rfl rfl ?_ | refine dwu lay_ok rfl rfl rfl rfl rfl rfl rfl rfl rfl ?_ | refine dw_end ?_ | refine dw_skip rfl rfl rfl ?_ | refine dwn lay_ok rfl rfl rfl rfl rfl ?_ | refine dwb rfl rfl rfl rfl rfl (by (first | refine st_index [SV.str y] lay_ok rfl rfl rfl rfl (by omega) hatk ?_); exact fin rfl) rfl rfl ?_ | refine dwg rfl rfl rfl rfl rfl (by (first | refine st_index [SV.str y] lay_ok rfl rfl rfl rfl (by omega) hatk ?_); exact fin rfl) rfl rfl rfl rfl rfl ?_ | refine dw_dec rfl rfl rfl (fun hg => ?_) (fun hg => ?_) | refine dw_ndec rfl rfl rfl (fun hg => ?_) (fun hg => ?_)
        all_goals first
          | (exfalso; omega)
          | (exfalso; exact hg rfl)
          | (exfalso; exact hc rfl)
          | skip
        refine n_rr (j + 1) ?_ (.of [] (by (repeat' first | exact trivial | refine And.intro ?_ ?_ | rfl | exact congrArg (fun z : Int => some (AV.st (.int .i64 z))) (show (j : Int) + 1 = ((j + 1 : Nat) : Int) by omega)); first | done | fail) (by (repeat' first | exact trivial | refine And.intro ?_ ?_ | rfl | exact congrArg (fun z : Int => some (AV.st (.int .i64 z))) (show (j : Int) + 1 = ((j + 1 : Nat) : Int) by omega)); first | done | fail) rfl) ?_
        · omega
        · omega
      · repeat' first | refine wr (by omega) ?_ | refine ln ?_ | refine stp lay_ok rfl ?_ | refine fin ?_ | refine n_thn ?_ | refine n_blk ?_ | refine e_thn ?_ | refine e_hit ?_ | refine e_miss rfl ?_ | refine r_thn ?_ | refine r_blk ?_ | refine e_rr ?_ | refine r_rr ?_ | refine e_cr ?_ | refine r_cr ?_ | refine .seq ?_ | refine reg ?_ | refine .block ?_ | refine .skip ?_ | refine .ret ?_ | refine .exit ?_ | refine cndT rfl ?_ | refine cndF rfl ?_ | refine c_dec rfl (fun hc => ?_) (fun hc => ?_) | refine c_ndec rfl (fun hc => ?_) (fun hc => ?_) | refine cnd rfl (fun hc => ?_) (fun hc => ?_) | refine gd rfl rfl rfl (fun hg => ?_) (fun hg => ?_) | refine gn rfl rfl rfl (fun hg => ?_) (fun hg => ?_) | refine dwr (by omega) ?_ | refine dwl ?_ | refine dws lay_ok rfl rfl rfl rfl rfl rfl rfl ?_ | refine dwu lay_ok rfl rfl rfl rfl rfl rfl rfl rfl rfl ?_ | refine dw_end ?_ | refine dw_skip rfl rfl rfl ?_ | refine dwn lay_ok rfl rfl rfl rfl rfl ?_ | refine dw_dec rfl rfl rfl (fun hg => ?_) (fun hg => ?_) | refine dw_ndec rfl rfl rfl (fun hg => ?_) (fun hg => ?_)
        all_goals first
          | (exfalso; omega)
          | skip
        refine n_rr (i + 1) ?_ (.of [13] (by (repeat' first | exact trivial | refine And.intro ?_ ?_ | rfl | exact congrArg (fun z : Int => some (AV.st (.int .i64 z))) (show (i : Int) + 1 = ((i + 1 : Nat) : Int) by omega)); first | done | fail) (by (repeat' first | exact trivial | refine And.intro ?_ ?_ | rfl | exact congrArg (fun z : Int => some (AV.st (.int .i64 z))) (show (i : Int) + 1 = ((i + 1 : Nat) : Int) by omega)); first | done | fail) rfl) ?_
        · omega
        · omega
end Go.Proofs.YtligkfhplinjlaaGreatDoorFn
namespace Go.Proofs.YtligkfhplinjlaaGreatDoor
open Go.Proofs.YtligkfhplinjlaaGreatDoorAl Go.ChangeAt Go.RowKit
open Go.Proofs.YtligkfhplinjlaaGreatDoorFn
theorem own : ownKnob Tryz.prog.godebug = none := by kernel_rfl
theorem laidOut : laidOutB Tryz.prog = true := by kernel_rfl
def pars : List Par := [⟨3, false, ΦI⟩, ⟨9, false, ΦS⟩, ⟨27, false, ΦL 1 16 ΦS⟩, ⟨27, false, ΦL 1 16 ΦS⟩]
theorem pars_ok : ParsOk Tryz.prog pars :=
  ⟨rdI, ⟨_, Tryz.underlying3, rfl⟩, by kernel_rfl, of_decide_eq_true (by kernel_rfl),
   rdS, ⟨_, Tryz.underlying9, rfl⟩, by kernel_rfl, of_decide_eq_true (by kernel_rfl),
   rdLS, ⟨_, Tryz.underlying27, rfl⟩, by kernel_rfl, of_decide_eq_true (by kernel_rfl),
   rdLS, ⟨_, Tryz.underlying27, rfl⟩, by kernel_rfl, of_decide_eq_true (by kernel_rfl), trivial⟩
theorem law_ok : LawOk Tryz.prog 4 pars := by
  rintro svs ⟨_, _, rfl, ⟨x0, h0, hm0⟩, _, _, rfl, ⟨x1, h1, hm1⟩, _, _, rfl, ⟨r2, h2, hr2, hl2⟩, _, _, rfl, ⟨r3, h3, hr3, hl3⟩, rfl⟩
  cases h0
  cases h1
  cases h2
  obtain ⟨x2, rfl, hm2⟩ := ofSs hr2
  simp only [List.length_map] at hl2
  cases h3
  obtain ⟨x3, rfl, hm3⟩ := ofSs hr3
  simp only [List.length_map] at hl3
  have hreach : reachBytes ≤ 140737488351232 := by decide
  exact lawPlans_ok x0 x1 x2 x3
set_option maxRecDepth 100000 in
theorem law_lift (os : Os) (started : os.Started) (H : Type) (enc : TypeId × Value → H) :
    ReturnsInHanded {} Tryz.checked os 4 .any (fun w args => (Rows.catalogPlansSpec.pre enc Tryz.prog Tryz.f4 [] false w args ∧ laidMetH Tryz.prog Rows.catalogPlansRow.laid w) ∧ sizedMet enc Tryz.prog Tryz.f4 (OpenSpec.ofChange Rows.catalogPlansSpec) false w args) (Rows.catalogPlansSpec.post enc Tryz.prog Tryz.f4 false true false false) :=
  law_liftedL (C := Tryz.checked) (ps := pars) own started (by kernel_rfl) Tryz.func4
    (ChangeSpec.witness_shaped (enc := enc) (C := Tryz.checked) (os := os) (X := fun w _ => laidMetH Tryz.prog Rows.catalogPlansRow.laid w) false (World.laidAll Tryz.prog os Rows.catalogPlansRow.laid) #[.int .i64 0, .string ByteArray.empty, .slice none 0 0, .slice none 0 0] 8 (World.laidAll_os _ _ _)
      (World.shaped_of_ZipB (by kernel_rfl) (by kernel_rfl)) (by kernel_rfl) (by kernel_rfl) (by kernel_rfl)
      (by rw [MakeChecks.laidMetH_plain _ _ _ (by kernel_rfl)]; exact laidMet_laidAll _ (by kernel_rfl) (by kernel_rfl)))
    laidOut rfl rfl Tryz.underlying4 rfl
    (fun ds hds => by
      match ds, hds with
      | [_, _, _, _], _ => rfl) pars_ok law_ok
theorem law_over : Rows.catalogPlansRow.holds Tryz.pinned (OpenSpec.ofChange Rows.catalogPlansSpec) :=
  OpenClaim.holds_of_wide 4 Tryz.f4 rfl rfl rfl rfl rfl rfl rfl ⟨rfl, rfl, rfl, rfl, rfl⟩ rfl rfl rfl rfl rfl (by kernel_rfl) Tryz.func4 (by kernel_rfl)
    (of_decide_eq_true (by kernel_rfl)) (by unfold Func.isWrapper; first | (rw [if_pos (by decide +kernel)]; kernel_rfl) | (rw [if_neg (by decide +kernel)]; exact ⟨rfl, rfl⟩))
    (fun os started H enc _ => law_lift os started H enc)
theorem CatalogPlans_holds : Rows.CatalogPlansCardSaid :=
  Claim7.holds_tied_plain_at .later [] [.data, .pinned] true Rows.catalogPlansCard.stood.harness Rows.catalogPlansCard.stood.looks law_over (fun _ h => by cases h) (by kernel_rfl) (fun _ h => by cases h) catalogPlans_row_tie rfl ⟨rfl, rfl⟩ (by kernel_rfl) rfl
    (fun f fn hf hfn => by
      obtain rfl : f = 4 := Option.some.inj ((show Tryz.prog.funcNamed "becket/becketlaw09.CatalogPlans" = some 4 by kernel_rfl).symm.trans hf) |>.symm
      obtain rfl : fn = Tryz.f4 := (Option.some.inj (Tryz.func4.symm.trans hfn)).symm
      exact ⟨by kernel_rfl, fun j t ht => by
        have hm : t ∈ ([3, 9, 27, 27] : List Nat) := by
          have e := Array.mem_of_getElem? ht
          rw [Tryz.params4] at e
          simpa using e
        have hall : (([3, 9, 27, 27] : List Nat).all fun u => !Tryz.prog.wantsStandIn u) = true := by kernel_rfl
        exact (show Tryz.prog.wantsStandIn t = false by simpa using List.all_eq_true.1 hall t hm)⟩)
    (by kernel_rfl)
#print axioms CatalogPlans_holds
end Go.Proofs.YtligkfhplinjlaaGreatDoor
