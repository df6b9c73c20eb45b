/- The law CatalogApart: for every input it says true: A client's operations change nothing of another one's. No condition. -/
import Derived.Test.YtligkfhplinjlaaGreatDoorP3
import Derived.Test.YtligkfhplinjlaaGreatDoorRows
import Derived.Test.YtligkfhplinjlaaGreatDoorTie
import Derived.Test.YtligkfhplinjlaaGreatDoorCards
set_option linter.all false
namespace Go.Proofs.YtligkfhplinjlaaGreatDoorFn
open Go.Proofs.YtligkfhplinjlaaGreatDoorAl Go.Proofs.Tryz
attribute [local irreducible] IntKind.wrap CodeOk OpsL OpG ACalls thn inBlk rndR cutR WkR Wk fnR DW ExtOk partsOf
theorem b15 : HasBody prog 15 := ⟨f15, func15, Option.some_ne_none _, by decide⟩
/-! ### answers alike; a catalog of snapshots -/
def alikeB (a b : NS) : Bool := decide (a.code = b.code) && decide (a.n = b.n) && decide (a.names = b.names) && decide (a.keys = b.keys) && decide (a.entries = b.entries)
def NS.fit (a : NS) : Prop := a.names.length ≤ 4000000000 ∧ a.keys.length ≤ 4000000000 ∧ a.entries.length ≤ 4000000000 ∧ ∀ e ∈ a.entries, e.keys.length ≤ 4000000000
set_option maxHeartbeats 2000000 in
theorem alike_ok (a b : NS) (ha : a.fit) (hb : b.fit) : ACalls prog 15 0 [ansS a, ansS b] [] fun r h => r = B (alikeB a b) ∧ h = [] := by
  obtain ⟨a1, a2, a3, a4⟩ := ha
  obtain ⟨b1, b2, b3, b4⟩ := hb
  have h1 := same3_ok a.names b.names a1 b1
  have h2 := same3_ok a.keys b.keys a2 b2
  have h3 := sameAll_ok a.entries b.entries a3 b3 a4 b4
  have he : alikeB a b = (decide (a.code = b.code) && decide (a.n = b.n) && decide (a.names = b.names) && decide (a.keys = b.keys) && decide (a.entries = b.entries)) := rfl
  generalize decide (a.names = b.names) = X at *
  generalize decide (a.keys = b.keys) = Y at *
  generalize decide (a.entries = b.entries) = Z at *
  generalize alikeB a b = W at *
  obtain ⟨ac, an, ans, aks, aes⟩ := a
  obtain ⟨bc, bn, bns, bks, bes⟩ := b
  simp only at h1 h2 h3 he
  refine fnC lay_ok func15 rfl rfl rfl rfl rfl ?_
  cases X <;> cases Y <;> cases Z
  all_goals
    repeat' first | refine wr (by omega) ?_ | refine ln ?_ | refine stp lay_ok rfl ?_ | refine fin ?_ | refine n_thn ?_ | refine n_blk ?_ | refine e_thn ?_ | refine e_hit ?_ | refine e_miss rfl ?_ | refine r_thn ?_ | refine r_blk ?_ | refine e_rr ?_ | refine r_rr ?_ | refine e_cr ?_ | refine r_cr ?_ | refine .seq ?_ | refine reg ?_ | refine .block ?_ | refine .skip ?_ | refine .ret ?_ | refine .exit ?_ | refine cndT rfl ?_ | refine cndF rfl ?_ | refine c_dec rfl (fun hc => ?_) (fun hc => ?_) | refine c_ndec rfl (fun hc => ?_) (fun hc => ?_) | refine cnd rfl (fun hc => ?_) (fun hc => ?_) | ((first | refine o_none rfl ?_ | refine o_none_ ?_ | refine o_yes rfl rfl rfl ?_ | refine o_yes_ rfl rfl ?_); first | refine st_pure (h1) b36 rfl rfl rfl rfl ?_ | refine st_pure (h2) b36 rfl rfl rfl rfl ?_ | refine st_pure (h3) b37 rfl rfl rfl rfl ?_) | refine gd rfl rfl rfl (fun hg => ?_) (fun hg => ?_) | refine gn rfl rfl rfl (fun hg => ?_) (fun hg => ?_)
    all_goals
      refine f_r [] rfl trivial rfl ⟨?_, rfl⟩
      rw [he]
      clear h1 h2 h3 he
      first
        | (simp_all [retOf, B]; done)
        | rfl
theorem alike_same (a : NS) : alikeB a a = true := by
  unfold alikeB
  simp
theorem doP_fit {l : List NV} (c : Int) (o : OV) (h : CatP l) : (doP l c o).2.fit := by
  have hl := catP_len h
  have no : ∀ n, (noA n).fit := fun n => ⟨by simp [noA], by simp [noA], by simp [noA], by simp [noA]⟩
  unfold doP
  split
  · exact no _
  split
  · split
    · exact no _
    split
    · exact no _
    · exact no _
  split
  · refine ⟨?_, by simp, by simp, by simp⟩
    show (List.map _ _).length ≤ _
    rw [List.length_map]
    have := List.length_filter_le (isO c true) l
    omega
  split
  · exact ⟨by simp, by simp, by simp, by simp⟩
  split
  · refine ⟨by simp, ?_, by simp, by simp⟩
    have h1 := allS_len h
    obtain ⟨_, _, h3⟩ := addF_facts (fun _ => True) (allS l) [] .nil (by simp) (by simp)
    show (heldS l).length ≤ _
    unfold heldS sortS
    rw [List.length_map, List.length_mergeSort, List.length_map]
    simp only [List.length_nil] at h3
    omega
  split
  · exact no _
  split
  · rename_i s hs
    have hS : SnapP s := h.one s (List.mem_of_getElem? hs)
    obtain ⟨_, z2, z3⟩ := hS.small
    unfold oneP
    split
    · unfold addP
      repeat' split
      all_goals exact no _
    split
    · split <;> exact no _
    split
    · split <;> exact no _
    split
    · exact no _
    split
    · simp only
      split
      · rename_i e he
        have hm : e ∈ s.entries := List.mem_of_find?_eq_some he
        have := (z3 e hm).2.1
        exact ⟨by simp, by show e.keys.length ≤ _; omega, by simp, by simp⟩
      · exact no _
    · exact ⟨by simp, by simp, by show s.entries.length ≤ _; omega, fun e he => by have := (z3 e he).2.1; omega⟩
  · exact no _
theorem snapshotsOO_ok (b : List NV) (hb : b.length ≤ 4000000000) (hk : ∀ s ∈ b, s.fit) : ACalls prog 38 0 [.st (.sl 4 (b.map rowN))] [] fun r h => r = .lsl 0 4 0 (b.map rowN).length ∧ h = [(0, .arr 4 (b.map rowN))] := by
  refine fnC lay_ok func38 rfl rfl rfl rfl rfl ?_
  have hm : (List.map rowN b).length = b.length := List.length_map _
  have h1 := cloneN_ok b hb
  repeat' first | refine wr (by omega) ?_ | refine ln ?_ | refine stp lay_ok rfl ?_ | refine fin ?_ | refine n_thn ?_ | refine n_blk ?_ | refine e_thn ?_ | refine e_hit ?_ | refine e_miss rfl ?_ | refine r_thn ?_ | refine r_blk ?_ | refine e_rr ?_ | refine r_rr ?_ | refine e_cr ?_ | refine r_cr ?_ | refine .seq ?_ | refine reg ?_ | refine .block ?_ | refine .skip ?_ | refine .ret ?_ | refine .exit ?_ | refine cndT rfl ?_ | refine cndF rfl ?_ | refine c_dec rfl (fun hc => ?_) (fun hc => ?_) | refine c_ndec rfl (fun hc => ?_) (fun hc => ?_) | refine cnd rfl (fun hc => ?_) (fun hc => ?_) | ((first | refine o_none rfl ?_ | refine o_none_ ?_ | refine o_yes rfl rfl rfl ?_ | refine o_yes_ rfl rfl ?_); first | refine st_callF 1 (h1) b70 rfl rfl rfl rfl rfl rfl (by (repeat' first | exact trivial | refine And.intro ?_ ?_ | rfl); first | done | fail) rfl ?_) | refine gd rfl rfl rfl (fun hg => ?_) (fun hg => ?_) | refine gn rfl rfl rfl (fun hg => ?_) (fun hg => ?_)
  refine lpR (fun k => k ≤ b.length) (fun k => b.length - k) (fun k => [(9, I k), (3, .lsl 0 4 0 (b.map rowN).length)]) (fun k => [(0, .arr 4 (b.map rowN))]) (0) [3, 8] [0] [] rfl rfl rfl (.of [] (by (repeat' first | exact trivial | refine And.intro ?_ ?_ | rfl); first | done | fail) (by (repeat' first | exact trivial | refine And.intro ?_ ?_ | rfl); first | done | fail) rfl) ?_ ?_
  · exact Nat.zero_le _
  rintro k hk0
  refine nrm rfl rfl ?_
  repeat' first | refine wr (by omega) ?_ | refine ln ?_ | refine stp lay_ok rfl ?_ | refine fin ?_ | refine n_thn ?_ | refine n_blk ?_ | refine e_thn ?_ | refine e_hit ?_ | refine e_miss rfl ?_ | refine r_thn ?_ | refine r_blk ?_ | refine e_rr ?_ | refine r_rr ?_ | refine e_cr ?_ | refine r_cr ?_ | refine .seq ?_ | refine reg ?_ | refine .block ?_ | refine .skip ?_ | refine .ret ?_ | refine .exit ?_ | refine cndT rfl ?_ | refine cndF rfl ?_ | refine c_dec rfl (fun hc => ?_) (fun hc => ?_) | refine c_ndec rfl (fun hc => ?_) (fun hc => ?_) | refine cnd rfl (fun hc => ?_) (fun hc => ?_) | refine gd rfl rfl rfl (fun hg => ?_) (fun hg => ?_) | refine gn rfl rfl rfl (fun hg => ?_) (fun hg => ?_)
  · have hk' : k < b.length := by omega
    have hfit := hk _ (List.getElem_mem hk')
    have hcl := entries_ok b[k].entries hfit.2.1 (fun e he => (hfit.2.2 e he).2)
    have hat : (b.map rowN)[0 + ((k : Nat) : Int).toNat]? = some (rowN b[k]) := by simp [hk']
    have hset : (b.map rowN).set (0 + ((k : Nat) : Int).toNat) (putAt (rowN b[k]) 3 [.sl 3 (b[k].entries.map rowE)]) = b.map rowN := set_same hat
    generalize b[k] = e at *
    repeat' first | refine wr (by omega) ?_ | refine ln ?_ | refine stp lay_ok rfl ?_ | refine fin ?_ | refine n_thn ?_ | refine n_blk ?_ | refine e_thn ?_ | refine e_hit ?_ | refine e_miss rfl ?_ | refine r_thn ?_ | refine r_blk ?_ | refine e_rr ?_ | refine r_rr ?_ | refine e_cr ?_ | refine r_cr ?_ | refine .seq ?_ | refine reg ?_ | refine .block ?_ | refine .skip ?_ | refine .ret ?_ | refine .exit ?_ | refine cndT rfl ?_ | refine cndF rfl ?_ | refine c_dec rfl (fun hc => ?_) (fun hc => ?_) | refine c_ndec rfl (fun hc => ?_) (fun hc => ?_) | refine cnd rfl (fun hc => ?_) (fun hc => ?_) | ((first | refine o_none rfl ?_ | refine o_none_ ?_ | refine o_yes rfl rfl rfl ?_ | refine o_yes_ rfl rfl ?_); first | refine st_indexL lay_ok rfl rfl rfl rfl (by omega) (by omega) ?_ | refine st_loadE (rowN e) lay_ok rfl rfl rfl hat rfl rfl rfl ?_ | refine st_pure (hcl) b35 rfl rfl rfl rfl ?_) | refine o_none_ (st_storeE lay_ok rfl rfl rfl hat rfl rfl rfl rfl ?_) | refine gd rfl rfl rfl (fun hg => ?_) (fun hg => ?_) | refine gn rfl rfl rfl (fun hg => ?_) (fun hg => ?_)
    refine n_rr (k + 1) ?_ (.of [] (by (repeat' first | exact trivial | refine And.intro ?_ ?_ | rfl | exact congrArg (fun r => some (AO.arr 4 r)) hset); first | done | fail) (by (repeat' first | exact trivial | refine And.intro ?_ ?_ | rfl | exact congrArg (fun r => some (AO.arr 4 r)) hset); first | done | fail) rfl) ?_
    · omega
    · exact hk'
  · refine f_end (n0 := 1) (t'' := [(2, .lsl 0 4 0 (b.map rowN).length)]) (h'' := [(0, .arr 4 (b.map rowN))]) (WkR.of [0] (by (repeat' first | exact trivial | refine And.intro ?_ ?_ | rfl); first | done | fail) (by (repeat' first | exact trivial | refine And.intro ?_ ?_ | rfl); first | done | fail) rfl) rfl rfl ⟨?_, rfl⟩
    rfl
end Go.Proofs.YtligkfhplinjlaaGreatDoorFn
namespace Go.Proofs.YtligkfhplinjlaaGreatDoorFn
open Go.Proofs.YtligkfhplinjlaaGreatDoorAl Go.Proofs.Tryz
/-! ### a client's own part of a catalog -/
/-- What becomes of the snapshot that an operation finds. -/
def pieceP (s : NV) (o : OV) : List NV × NS :=
  if o.kind = 2 then ([(addP s o).1], (addP s o).2)
  else if o.kind = 3 then (if s.done = true then ([s], noA 6) else ([⟨s.client, s.name, true, s.entries⟩], noA 0))
  else if o.kind = 4 then (if s.done = true then ([s], noA 6) else ([], noA 0))
  else if s.done = false then ([s], noA 6)
  else if o.kind = 6 then ([s], match s.entries.find? fun e => decide (e.path = o.path) with
    | some e => ⟨0, e.size, [], e.keys, []⟩
    | none => noA 3)
  else ([s], ⟨0, 0, [], [], s.entries⟩)
theorem oneP_piece (A B : List NV) (s : NV) (o : OV) : oneP (A ++ s :: B) A.length s o = (A ++ (pieceP s o).1 ++ B, (pieceP s o).2) := by
  have hset : ∀ s', (A ++ s :: B).set A.length s' = A ++ [s'] ++ B := fun s' => by
    rw [List.set_append_right _ _ (Nat.le_refl _)]
    simp
  have hsame : A ++ [s] ++ B = A ++ s :: B := by simp
  have her : (A ++ s :: B).eraseIdx A.length = A ++ [] ++ B := by
    rw [List.eraseIdx_append_of_length_le (Nat.le_refl _)]
    simp
  unfold oneP pieceP
  split
  · rw [hset]
  split
  · split
    · rw [hsame]
    · rw [hset]
  split
  · split
    · rw [hsame]
    · rw [her]
  split
  · rw [hsame]
  split
  · rw [hsame] <;> rfl
  · rw [hsame]
theorem piece_client {s x : NV} {o : OV} (h : x ∈ (pieceP s o).1) : x.client = s.client := by
  have hk : (addP s o).1.client = s.client := congrArg Prod.fst (addP_fst s o)
  unfold pieceP at h
  split at h
  · simp only [List.mem_singleton] at h; rw [h]; exact hk
  split at h
  · split at h <;> simp only [List.mem_singleton] at h <;> rw [h]
  split at h
  · split at h
    · simp only [List.mem_singleton] at h; rw [h]
    · simp at h
  split at h
  · simp only [List.mem_singleton] at h; rw [h]
  split at h
  · simp only [List.mem_singleton] at h; rw [h]
  · simp only [List.mem_singleton] at h; rw [h]
theorem find_split {l : List NV} {p : NV → Bool} {i : Nat} (h : l.findIdx? p = some i) : ∃ A s B, l = A ++ s :: B ∧ A.length = i ∧ p s = true ∧ ∀ x ∈ A, p x = false := by
  obtain ⟨hi, h1, h2⟩ := List.findIdx?_eq_some_iff_getElem.1 h
  refine ⟨l.take i, l[i], l.drop (i + 1), ?_, by rw [List.length_take]; omega, h1, fun x hx => ?_⟩
  · rw [List.getElem_cons_drop, List.take_append_drop]
  · obtain ⟨j, hj, rfl⟩ := List.getElem_of_mem hx
    rw [List.length_take] at hj
    have := h2 j (by omega)
    rw [List.getElem_take]
    simpa using this
theorem find_of_split {A B : List NV} {s : NV} {p : NV → Bool} (h1 : p s = true) (h2 : ∀ x ∈ A, p x = false) : (A ++ s :: B).findIdx? p = some A.length := by
  have : A.findIdx? p = none := List.findIdx?_eq_none_iff.2 fun x hx => h2 x hx
  rw [List.findIdx?_append, this, List.findIdx?_cons, h1]
  simp
/-- The kinds that look for a snapshot. -/
def seeks (k : Int) : Prop := k = 2 ∨ k = 3 ∨ k = 4 ∨ k = 6 ∨ k = 7
theorem doP_split {A B : List NV} {s : NV} {c : Int} {o : OV} (hr : reqOk c o = true) (hk : seeks o.kind) (h1 : isS c o.name s = true) (h2 : ∀ x ∈ A, isS c o.name x = false) : doP (A ++ s :: B) c o = (A ++ (pieceP s o).1 ++ B, (pieceP s o).2) := by
  rw [doP_some hr hk (find_of_split h1 h2) (by simp)]
  have : (A ++ s :: B)[A.length]'(by simp) = s := by simp
  rw [this, oneP_piece]
def ownC (cl : Int) (l : List NV) : List NV := l.filter fun s => decide (s.client = cl)
theorem ownC_app (cl : Int) (a b : List NV) : ownC cl (a ++ b) = ownC cl a ++ ownC cl b := List.filter_append ..
theorem ownC_all {cl : Int} {l : List NV} (h : ∀ x ∈ l, x.client = cl) : ownC cl l = l := List.filter_eq_self.2 fun x hx => decide_eq_true (h x hx)
theorem ownC_none {cl : Int} {l : List NV} (h : ∀ x ∈ l, x.client ≠ cl) : ownC cl l = [] := List.filter_eq_nil_iff.2 fun x hx => by simpa using h x hx
theorem ownC_cons {cl : Int} {s : NV} {l : List NV} : ownC cl (s :: l) = if s.client = cl then s :: ownC cl l else ownC cl l := by
  unfold ownC
  rw [List.filter_cons]
  simp
theorem isS_client {c : Int} {nm : ByteArray} {s : NV} (h : isS c nm s = true) : s.client = c := by
  unfold isS at h
  simp only [Bool.and_eq_true, decide_eq_true_eq] at h
  exact h.1
theorem isO_client {c : Int} {d : Bool} {s : NV} (h : isO c d s = true) : s.client = c := by
  unfold isO at h
  simp only [Bool.and_eq_true, decide_eq_true_eq] at h
  exact h.1
theorem remK_other {cl c : Int} (hc : c ≠ cl) : ∀ (g : Nat) (l : List NV), ownC cl (remK (isO c true) g l) = ownC cl l
  | 0, l => by rw [show remK (isO c true) 0 l = l from by cases l <;> rfl]
  | _ + 1, [] => rfl
  | g + 1, x :: r => by
    unfold remK
    split
    · rename_i h
      have hx := isO_client h
      rw [remK_other hc g r, ownC_cons, if_neg (by rw [hx]; exact hc)]
    · rw [ownC_cons, ownC_cons, remK_other hc (g + 1) r]
theorem remK_own (cl : Int) : ∀ (g : Nat) (l : List NV), ownC cl (remK (isO cl true) g l) = remK (isO cl true) g (ownC cl l)
  | 0, l => by rw [show remK (isO cl true) 0 l = l from by cases l <;> rfl, show remK (isO cl true) 0 (ownC cl l) = ownC cl l from by cases ownC cl l <;> rfl]
  | g + 1, [] => rfl
  | g + 1, x :: r => by
    unfold remK
    by_cases h : isO cl true x = true
    · have hx := isO_client h
      rw [if_pos h, remK_own cl g r, ownC_cons, if_pos hx]
      simp only [if_pos h]
    · rw [if_neg h, ownC_cons, ownC_cons, remK_own cl (g + 1) r]
      by_cases hx : x.client = cl
      · rw [if_pos hx, if_pos hx]
        simp only [if_neg h]
      · rw [if_neg hx, if_neg hx]
        cases ownC cl r <;> rfl
theorem doP_kinds {l : List NV} {c : Int} {o : OV} (hr : reqOk c o = true) : o.kind = 1 ∨ o.kind = 5 ∨ o.kind = 8 ∨ o.kind = 9 ∨ seeks o.kind := by
  obtain ⟨_, h, _⟩ := reqOk_parts hr
  unfold seeks
  omega
theorem doP_k1 {l : List NV} {c : Int} {o : OV} (hr : reqOk c o = true) (h : o.kind = 1) : doP l c o = if (l.any (isS c o.name)) = true then (l, noA 4) else if 8 ≤ many c l then (l, noA 5) else (l ++ [⟨c, o.name, false, []⟩], noA 0) := by
  unfold doP; rw [if_neg (by simp [hr]), if_pos h]
theorem doP_k5 {l : List NV} {c : Int} {o : OV} (hr : reqOk c o = true) (h : o.kind = 5) : doP l c o = (l, ⟨0, 0, (l.filter (isO c true)).map (·.name), [], []⟩) := by
  unfold doP; rw [if_neg (by simp [hr]), if_neg (by omega), if_pos h]
theorem doP_k8 {l : List NV} {c : Int} {o : OV} (hr : reqOk c o = true) (h : o.kind = 8) : doP l c o = (remK (isO c true) (goneP l c o.n) l, ⟨0, goneP l c o.n, [], [], []⟩) := by
  unfold doP; rw [if_neg (by simp [hr]), if_neg (by omega), if_neg (by omega), if_pos h]
theorem doP_other {l : List NV} {c cl : Int} (o : OV) (hc : c ≠ cl) : ownC cl (doP l c o).1 = ownC cl l := by
  cases hr : reqOk c o with
  | false => unfold doP; rw [if_pos hr]
  | true =>
    rcases doP_kinds (l := l) hr with h | h | h | h | h
    · unfold doP
      rw [if_neg (by simp [hr]), if_pos h]
      split
      · rfl
      split
      · rfl
      · rw [ownC_app, ownC_none (l := [_]) (by simpa using hc), List.append_nil]
    · unfold doP; rw [if_neg (by simp [hr]), if_neg (by omega), if_pos h]
    · unfold doP; rw [if_neg (by simp [hr]), if_neg (by omega), if_neg (by omega), if_pos h]
      exact remK_other hc _ _
    · unfold doP; rw [if_neg (by simp [hr]), if_neg (by omega), if_neg (by omega), if_neg (by omega), if_pos h]
    · cases hf : l.findIdx? (isS c o.name) with
      | none => rw [doP_none hr h hf]
      | some i =>
        obtain ⟨A, s, B, rfl, _, h1, h2⟩ := find_split hf
        rw [doP_split hr h h1 h2]
        have hs := isS_client h1
        rw [ownC_app, ownC_app, ownC_none (l := (pieceP s o).1) (fun x hx => by rw [piece_client hx, hs]; exact hc), ownC_app, ownC_cons, if_neg (by rw [hs]; exact hc), List.append_nil]
theorem any_own (cl : Int) (nm : ByteArray) (l : List NV) : (ownC cl l).any (isS cl nm) = l.any (isS cl nm) := by
  induction l with
  | nil => rfl
  | cons x r ih =>
    rw [ownC_cons]
    by_cases hx : x.client = cl
    · rw [if_pos hx, List.any_cons, List.any_cons, ih]
    · rw [if_neg hx, List.any_cons, ih]
      have : isS cl nm x = false := by
        cases h : isS cl nm x with
        | false => rfl
        | true => exact absurd (isS_client h) hx
      rw [this, Bool.false_or]
theorem many_own (cl : Int) (l : List NV) : many cl (ownC cl l) = many cl l := by
  unfold many ownC
  rw [List.countP_filter]
  exact List.countP_congr fun x _ => by simp
theorem filter_own (cl : Int) (l : List NV) : (ownC cl l).filter (isO cl true) = l.filter (isO cl true) := by
  unfold ownC
  rw [List.filter_filter]
  refine List.filter_congr fun x _ => ?_
  cases h : isO cl true x with
  | false => rfl
  | true => simp [isO_client h]
theorem count_own (cl : Int) (l : List NV) : (ownC cl l).countP (isO cl true) = l.countP (isO cl true) := by
  rw [List.countP_eq_length_filter, List.countP_eq_length_filter, filter_own]
theorem doP_own {l : List NV} {cl : Int} (o : OV) (h9 : o.kind ≠ 9) : ownC cl (doP l cl o).1 = (doP (ownC cl l) cl o).1 ∧ (doP l cl o).2 = (doP (ownC cl l) cl o).2 := by
  cases hr : reqOk cl o with
  | false =>
    have e : ∀ L, doP L cl o = (L, noA 1) := fun L => by unfold doP; rw [if_pos hr]
    rw [e, e]; exact ⟨rfl, rfl⟩
  | true =>
    rcases doP_kinds (l := l) hr with h | h | h | h | h
    · rw [doP_k1 hr h, doP_k1 hr h, any_own, many_own]
      split
      · exact ⟨rfl, rfl⟩
      split
      · exact ⟨rfl, rfl⟩
      · exact ⟨by rw [ownC_app, ownC_all (l := [_]) (by simp)], rfl⟩
    · rw [doP_k5 hr h, doP_k5 hr h, filter_own]
      exact ⟨rfl, rfl⟩
    · have hg : goneP (ownC cl l) cl o.n = goneP l cl o.n := by unfold goneP; rw [count_own]
      rw [doP_k8 hr h, doP_k8 hr h, hg]
      exact ⟨remK_own cl _ _, rfl⟩
    · exact absurd h h9
    · cases hf : l.findIdx? (isS cl o.name) with
      | none =>
        have hf2 : (ownC cl l).findIdx? (isS cl o.name) = none := List.findIdx?_eq_none_iff.2 fun x hx => List.findIdx?_eq_none_iff.1 hf x (List.mem_filter.1 hx).1
        rw [doP_none hr h hf, doP_none hr h hf2]
        exact ⟨rfl, rfl⟩
      | some i =>
        obtain ⟨A, s, B, rfl, _, h1, h2⟩ := find_split hf
        have hs := isS_client h1
        rw [doP_split hr h h1 h2]
        have e : ownC cl (A ++ s :: B) = ownC cl A ++ s :: ownC cl B := by rw [ownC_app, ownC_cons, if_pos hs]
        rw [e, doP_split (A := ownC cl A) hr h h1 (fun x hx => h2 x (List.mem_filter.1 hx).1)]
        refine ⟨?_, rfl⟩
        rw [ownC_app, ownC_app, ownC_all (l := (pieceP s o).1) (fun x hx => by rw [piece_client hx, hs])]
theorem doP_nine {l : List NV} {c : Int} {o : OV} (h9 : o.kind = 9) : (doP l c o).1 = l := by
  cases hr : reqOk c o with
  | false => unfold doP; rw [if_pos hr]
  | true => unfold doP; rw [if_neg (by simp [hr]), if_neg (by omega), if_neg (by omega), if_neg (by omega), if_pos h9]
end Go.Proofs.YtligkfhplinjlaaGreatDoorFn
namespace Go.Proofs.YtligkfhplinjlaaGreatDoorFn
open Go.Proofs.YtligkfhplinjlaaGreatDoorAl Go.Proofs.Tryz
attribute [local irreducible] IntKind.wrap CodeOk OpsL OpG ACalls thn inBlk rndR cutR WkR Wk fnR DW ExtOk partsOf
theorem b3 : HasBody prog 3 := ⟨f3, func3, Option.some_ne_none _, by decide⟩
/-! ### a client's operations change nothing of another one's -/
theorem catP_own {l : List NV} (cl : Int) (h : CatP l) : CatP (ownC cl l) := catP_sub h List.filter_sublist
set_option maxHeartbeats 16000000 in
set_option maxRecDepth 4000 in
theorem lawApart_ok (ds : List DV) (cl : Int) : ACalls prog 3 0 [.st (.sl 6 (ds.map rowD)), I cl] [] fun r h => r = B true ∧ h = [] := by
  have hup := up9_ok
  have hsh := shortD_ok ds
  have hN := newC_ok
  have hm : (List.map rowD ds).length = ds.length := List.length_map _
  cases hS : shortD ds <;> rw [hS] at hsh
  · refine fnC lay_ok func3 rfl rfl rfl rfl rfl ?_
    repeat' first | refine wr (by omega) ?_ | refine ln ?_ | refine stp lay_ok rfl ?_ | refine fin ?_ | refine n_thn ?_ | refine n_blk ?_ | refine e_thn ?_ | refine e_hit ?_ | refine e_miss rfl ?_ | refine r_thn ?_ | refine r_blk ?_ | refine e_rr ?_ | refine r_rr ?_ | refine e_cr ?_ | refine r_cr ?_ | refine .seq ?_ | refine reg ?_ | refine .block ?_ | refine .skip ?_ | refine .ret ?_ | refine .exit ?_ | refine cndT rfl ?_ | refine cndF rfl ?_ | refine c_dec rfl (fun hc => ?_) (fun hc => ?_) | refine c_ndec rfl (fun hc => ?_) (fun hc => ?_) | refine cnd rfl (fun hc => ?_) (fun hc => ?_) | ((first | refine o_none rfl ?_ | refine o_none_ ?_ | refine o_yes rfl rfl rfl ?_ | refine o_yes_ rfl rfl ?_); first | refine st_pure (hup) b11 rfl rfl rfl rfl ?_ | refine st_pure (hsh) b12 rfl rfl rfl rfl ?_ | refine st_callF 2 (hN) b13 rfl rfl rfl rfl rfl rfl (by (repeat' first | exact trivial | refine And.intro ?_ ?_ | rfl); first | done | fail) rfl ?_) | refine gd rfl rfl rfl (fun hg => ?_) (fun hg => ?_) | refine gn rfl rfl rfl (fun hg => ?_) (fun hg => ?_)
    refine f_r [] rfl trivial rfl ⟨?_, rfl⟩
    rfl
  refine fnC lay_ok func3 rfl rfl rfl rfl rfl ?_
  repeat' first | refine wr (by omega) ?_ | refine ln ?_ | refine stp lay_ok rfl ?_ | refine fin ?_ | refine n_thn ?_ | refine n_blk ?_ | refine e_thn ?_ | refine e_hit ?_ | refine e_miss rfl ?_ | refine r_thn ?_ | refine r_blk ?_ | refine e_rr ?_ | refine r_rr ?_ | refine e_cr ?_ | refine r_cr ?_ | refine .seq ?_ | refine reg ?_ | refine .block ?_ | refine .skip ?_ | refine .ret ?_ | refine .exit ?_ | refine cndT rfl ?_ | refine cndF rfl ?_ | refine c_dec rfl (fun hc => ?_) (fun hc => ?_) | refine c_ndec rfl (fun hc => ?_) (fun hc => ?_) | refine cnd rfl (fun hc => ?_) (fun hc => ?_) | ((first | refine o_none rfl ?_ | refine o_none_ ?_ | refine o_yes rfl rfl rfl ?_ | refine o_yes_ rfl rfl ?_); first | refine st_pure (hup) b11 rfl rfl rfl rfl ?_ | refine st_pure (hsh) b12 rfl rfl rfl rfl ?_ | refine st_callF 2 (hN) b13 rfl rfl rfl rfl rfl rfl (by (repeat' first | exact trivial | refine And.intro ?_ ?_ | rfl); first | done | fail) rfl ?_) | refine gd rfl rfl rfl (fun hg => ?_) (fun hg => ?_) | refine gn rfl rfl rfl (fun hg => ?_) (fun hg => ?_)
  all_goals first
    | (exfalso; omega)
    | skip
  refine lpR (fun (k, l, b, b') => k ≤ ds.length ∧ k ≤ 80 ∧ CatP l ∧ (b = true → l = []) ∧ (b' = true → ownC cl l = [])) (fun (k, l, b, b') => ds.length - k) (fun (k, l, b, b') => [(9, I k)]) (fun (k, l, b, b') => [(0, .cells [.lsl 4 4 (gN b) (l.map rowN).length]), (4, .arr 4 (l.map rowN ++ gR b)), (2, .cells [.lsl 5 4 (gN b') ((ownC cl l).map rowN).length]), (5, .arr 4 ((ownC cl l).map rowN ++ gR b'))]) ((0, [], false, false)) [0, 1, 5, 7, 8] [0, 2] [1, 3] rfl rfl rfl (.of [1, 3] (by (repeat' first | exact trivial | refine And.intro ?_ ?_ | rfl); first | done | fail) (by (repeat' first | exact trivial | refine And.intro ?_ ?_ | rfl); first | done | fail) rfl) ?_ ?_
  · exact ⟨Nat.zero_le _, Nat.zero_le _, catP_nil, by simp, by simp⟩
  rintro ⟨k, l, b, b'⟩ ⟨g1, g2, g3, g4, g5⟩
  refine nrm rfl rfl ?_
  by_cases hk : k < ds.length ∧ k < 80
  case neg =>
    repeat' first | refine wr (by omega) ?_ | refine ln ?_ | refine stp lay_ok rfl ?_ | refine fin ?_ | refine n_thn ?_ | refine n_blk ?_ | refine e_thn ?_ | refine e_hit ?_ | refine e_miss rfl ?_ | refine r_thn ?_ | refine r_blk ?_ | refine e_rr ?_ | refine r_rr ?_ | refine e_cr ?_ | refine r_cr ?_ | refine .seq ?_ | refine reg ?_ | refine .block ?_ | refine .skip ?_ | refine .ret ?_ | refine .exit ?_ | refine cndT rfl ?_ | refine cndF rfl ?_ | refine c_dec rfl (fun hc => ?_) (fun hc => ?_) | refine c_ndec rfl (fun hc => ?_) (fun hc => ?_) | refine cnd rfl (fun hc => ?_) (fun hc => ?_) | refine gd rfl rfl rfl (fun hg => ?_) (fun hg => ?_) | refine gn rfl rfl rfl (fun hg => ?_) (fun hg => ?_)
    all_goals first
      | (exfalso; omega)
      | skip
    all_goals
      refine f_r [] rfl trivial rfl ⟨?_, rfl⟩
      rfl
  obtain ⟨hk, hk80⟩ := hk
  have hat : (ds.map rowD)[((k : Nat) : Int).toNat]? = some (rowD ds[k]) := by simp [hk]
  have hfit := shortD_at hS hk hk80
  generalize ds[k] = d at *
  obtain ⟨c, o⟩ := d
  simp only at hfit
  have hdo := do_ok l b c o g4 g3 hfit
  have hC2 := doP_cat c o g3
  have hB2 := fun h => doB_nil (c := c) (o := o) g4 h
  have hoth := fun hc => doP_other (l := l) (c := c) (cl := cl) o hc
  have hf1 := doP_fit c o g3
  by_cases hmine : c = cl ∧ o.kind ≠ 9
  · obtain ⟨rfl, h9⟩ := hmine
    obtain ⟨e1, e2⟩ := doP_own (l := l) (cl := c) o h9
    have hdo' := do_ok (ownC c l) b' c o g5 (catP_own c g3) hfit
    have hB3 := fun h => doB_nil (c := c) (o := o) g5 h
    have hal := alike_ok (doP l c o).2 (doP l c o).2 hf1 hf1
    rw [alike_same] at hal
    rw [← e1, ← e2] at hdo'
    rw [← e1] at hB3
    generalize doP l c o = R at *
    generalize doB l b c o = b2 at *
    generalize doB (ownC c l) b' c o = b3 at *
    obtain ⟨l2, a⟩ := R
    simp only at hC2 hB2 hB3 hdo hdo' hal
    obtain ⟨kd, nm, p, oks, n⟩ := o
    obtain ⟨xc, xn, xs, xk, xe⟩ := a
    simp only at h9
    repeat' first | refine wr (by omega) ?_ | refine ln ?_ | refine stp lay_ok rfl ?_ | refine fin ?_ | refine n_thn ?_ | refine n_blk ?_ | refine e_thn ?_ | refine e_hit ?_ | refine e_miss rfl ?_ | refine r_thn ?_ | refine r_blk ?_ | refine e_rr ?_ | refine r_rr ?_ | refine e_cr ?_ | refine r_cr ?_ | refine .seq ?_ | refine reg ?_ | refine .block ?_ | refine .skip ?_ | refine .ret ?_ | refine .exit ?_ | refine cndT rfl ?_ | refine cndF rfl ?_ | refine c_dec rfl (fun hc => ?_) (fun hc => ?_) | refine c_ndec rfl (fun hc => ?_) (fun hc => ?_) | refine cnd rfl (fun hc => ?_) (fun hc => ?_) | refine gd rfl rfl rfl (fun hg => ?_) (fun hg => ?_) | refine gn rfl rfl rfl (fun hg => ?_) (fun hg => ?_)
    all_goals first
      | (exfalso; omega)
      | skip
    refine dreg [(0, [], [48, 49, 50, 51, 52, 53, 54, 55, 56, 57, 10]), (1, [], [47, 49, 53, 54, 55, 56, 57, 10]), (2, [], [47, 48, 53, 54, 55, 56, 57, 10]), (3, [1, 2], [47, 53, 54, 55, 56, 57, 10]), (4, [1, 2, 3], [47, 53, 54, 55, 56, 57, 10]), (5, [1, 2, 3, 4], [47, 53, 54, 55, 56, 57, 10]), (6, [], [47, 48, 49, 50, 51, 52, 54, 10]), (7, [], [47, 48, 49, 50, 51, 52, 53, 10]), (8, [6, 7], [47, 48, 49, 50, 51, 52, 10]), (9, [6, 7, 8], [47, 48, 49, 50, 51, 52, 10]), (10, [6, 7, 8, 9], [47, 48, 49, 50, 51, 52, 10]), (11, [0, 1, 2, 3, 4, 5, 6, 7, 8, 9, 10], [10]), (12, [], [47, 48, 49, 50, 51, 52, 53, 54, 55, 56, 57, 58]), (13, [0, 1, 2, 3, 4, 5, 6, 7, 8, 9, 10, 11, 12], [])] mixed (by kernel_rfl) ?_
    repeat' first | refine wr (by omega) ?_ | refine ln ?_ | refine stp lay_ok rfl ?_ | refine fin ?_ | refine n_thn ?_ | refine n_blk ?_ | refine e_thn ?_ | refine e_hit ?_ | refine e_miss rfl ?_ | refine r_thn ?_ | refine r_blk ?_ | refine e_rr ?_ | refine r_rr ?_ | refine e_cr ?_ | refine r_cr ?_ | refine .seq ?_ | refine reg ?_ | refine .block ?_ | refine .skip ?_ | refine .ret ?_ | refine .exit ?_ | refine cndT rfl ?_ | refine cndF rfl ?_ | refine c_dec rfl (fun hc => ?_) (fun hc => ?_) | refine c_ndec rfl (fun hc => ?_) (fun hc => ?_) | refine cnd rfl (fun hc => ?_) (fun hc => ?_) | ((first | refine o_none rfl ?_ | refine o_none_ ?_ | refine o_yes rfl rfl rfl ?_ | refine o_yes_ rfl rfl ?_); first | refine st_index [SV.int .i64 c, .int .i64 kd, .str nm, .str p, .sl 1 (oks.map rowS), .int .i64 n] lay_ok rfl rfl rfl rfl (by omega) hat ?_ | refine st_callG [0,4] 1 (hdo) b14 rfl rfl rfl rfl rfl (by (repeat' first | exact trivial | refine And.intro ?_ ?_ | rfl); first | done | fail) rfl ?_ | refine st_callG [2,5] 1 (hdo') b14 rfl rfl rfl rfl rfl (by (repeat' first | exact trivial | refine And.intro ?_ ?_ | rfl); first | done | fail) rfl ?_ | refine st_pure (hal) b15 rfl rfl rfl rfl ?_) | refine gd rfl rfl rfl (fun hg => ?_) (fun hg => ?_) | refine gn rfl rfl rfl (fun hg => ?_) (fun hg => ?_) | refine dwr (by omega) ?_ | refine dwl ?_ | refine dws lay_ok rfl rfl rfl rfl rfl rfl rfl ?_ | refine dwu lay_ok rfl rfl rfl rfl rfl rfl rfl rfl rfl ?_ | refine dw_end ?_ | refine dw_skip rfl rfl rfl ?_ | refine dwn lay_ok rfl rfl rfl rfl rfl ?_ | refine dwG [0,4] rfl rfl rfl rfl (by refine st_callG [0,4] 1 (hdo) b14 rfl rfl rfl rfl rfl (by (repeat' first | exact trivial | refine And.intro ?_ ?_ | rfl); first | done | fail) rfl ?_; exact fin rfl) rfl rfl rfl rfl rfl ?_ | refine dwG [2,5] rfl rfl rfl rfl (by refine st_callG [2,5] 1 (hdo') b14 rfl rfl rfl rfl rfl (by (repeat' first | exact trivial | refine And.intro ?_ ?_ | rfl); first | done | fail) rfl ?_; exact fin rfl) rfl rfl rfl rfl rfl ?_ | refine dwb rfl rfl rfl rfl rfl (by (first | refine st_index [SV.int .i64 c, .int .i64 kd, .str nm, .str p, .sl 1 (oks.map rowS), .int .i64 n] lay_ok rfl rfl rfl rfl (by omega) hat ?_ | refine st_callG [0,4] 1 (hdo) b14 rfl rfl rfl rfl rfl (by (repeat' first | exact trivial | refine And.intro ?_ ?_ | rfl); first | done | fail) rfl ?_ | refine st_callG [2,5] 1 (hdo') b14 rfl rfl rfl rfl rfl (by (repeat' first | exact trivial | refine And.intro ?_ ?_ | rfl); first | done | fail) rfl ?_ | refine st_pure (hal) b15 rfl rfl rfl rfl ?_); exact fin rfl) rfl rfl ?_ | refine dwg rfl rfl rfl rfl rfl (by (first | refine st_index [SV.int .i64 c, .int .i64 kd, .str nm, .str p, .sl 1 (oks.map rowS), .int .i64 n] lay_ok rfl rfl rfl rfl (by omega) hat ?_ | refine st_callG [0,4] 1 (hdo) b14 rfl rfl rfl rfl rfl (by (repeat' first | exact trivial | refine And.intro ?_ ?_ | rfl); first | done | fail) rfl ?_ | refine st_callG [2,5] 1 (hdo') b14 rfl rfl rfl rfl rfl (by (repeat' first | exact trivial | refine And.intro ?_ ?_ | rfl); first | done | fail) rfl ?_ | refine st_pure (hal) b15 rfl rfl rfl rfl ?_); exact fin rfl) rfl rfl rfl rfl rfl ?_ | refine dw_dec rfl rfl rfl (fun hg => ?_) (fun hg => ?_) | refine dw_ndec rfl rfl rfl (fun hg => ?_) (fun hg => ?_)
    all_goals first
      | (exfalso; omega)
      | (exfalso; contradiction)
      | skip
    refine n_rr ((k + 1, l2, b2, b3)) ?_ (.of [6, 8] (by (repeat' first | exact trivial | refine And.intro ?_ ?_ | rfl | exact congrArg (fun z : Int => some (AV.st (.int .i64 z))) (show (k : Int) + 1 = ((k + 1 : Nat) : Int) by omega)); first | done | fail) (by (repeat' first | exact trivial | refine And.intro ?_ ?_ | rfl | exact congrArg (fun z : Int => some (AV.st (.int .i64 z))) (show (k : Int) + 1 = ((k + 1 : Nat) : Int) by omega)); first | done | fail) rfl) ?_
    · show ds.length - (k + 1) < ds.length - k; omega
    · exact ⟨hk, hk80, hC2, hB2, hB3⟩
  · have hown : ownC cl (doP l c o).1 = ownC cl l := by
      by_cases hc1 : c = cl
      · have h9 : o.kind = 9 := by
          rcases Decidable.em (o.kind = 9) with h | h
          · exact h
          · exact absurd ⟨hc1, h⟩ hmine
        rw [doP_nine h9]
      · exact hoth hc1
    generalize doP l c o = R at *
    generalize doB l b c o = b2 at *
    obtain ⟨l2, a⟩ := R
    simp only at hC2 hB2 hdo hown
    obtain ⟨kd, nm, p, oks, n⟩ := o
    obtain ⟨xc, xn, xs, xk, xe⟩ := a
    simp only at hmine
    rw [← hown] at g5 ⊢
    repeat' first | refine wr (by omega) ?_ | refine ln ?_ | refine stp lay_ok rfl ?_ | refine fin ?_ | refine n_thn ?_ | refine n_blk ?_ | refine e_thn ?_ | refine e_hit ?_ | refine e_miss rfl ?_ | refine r_thn ?_ | refine r_blk ?_ | refine e_rr ?_ | refine r_rr ?_ | refine e_cr ?_ | refine r_cr ?_ | refine .seq ?_ | refine reg ?_ | refine .block ?_ | refine .skip ?_ | refine .ret ?_ | refine .exit ?_ | refine cndT rfl ?_ | refine cndF rfl ?_ | refine c_dec rfl (fun hc => ?_) (fun hc => ?_) | refine c_ndec rfl (fun hc => ?_) (fun hc => ?_) | refine cnd rfl (fun hc => ?_) (fun hc => ?_) | refine gd rfl rfl rfl (fun hg => ?_) (fun hg => ?_) | refine gn rfl rfl rfl (fun hg => ?_) (fun hg => ?_) | refine dwr (by omega) ?_ | refine dwl ?_ | refine dws lay_ok rfl rfl rfl rfl rfl rfl rfl ?_ | refine dwu lay_ok rfl rfl rfl rfl rfl rfl rfl rfl rfl ?_ | refine dw_end ?_ | refine dw_skip rfl rfl rfl ?_ | refine dwn lay_ok rfl rfl rfl rfl rfl ?_ | refine dw_dec rfl rfl rfl (fun hg => ?_) (fun hg => ?_) | refine dw_ndec rfl rfl rfl (fun hg => ?_) (fun hg => ?_)
    all_goals first
      | (exfalso; omega)
      | skip
    refine dreg [(0, [], [48, 49, 50, 51, 52, 53, 54, 55, 56, 57, 10]), (1, [], [47, 49, 53, 54, 55, 56, 57, 10]), (2, [], [47, 48, 53, 54, 55, 56, 57, 10]), (3, [1, 2], [47, 53, 54, 55, 56, 57, 10]), (4, [1, 2, 3], [47, 53, 54, 55, 56, 57, 10]), (5, [1, 2, 3, 4], [47, 53, 54, 55, 56, 57, 10]), (6, [], [47, 48, 49, 50, 51, 52, 54, 10]), (7, [], [47, 48, 49, 50, 51, 52, 53, 10]), (8, [6, 7], [47, 48, 49, 50, 51, 52, 10]), (9, [6, 7, 8], [47, 48, 49, 50, 51, 52, 10]), (10, [6, 7, 8, 9], [47, 48, 49, 50, 51, 52, 10]), (11, [0, 1, 2, 3, 4, 5, 6, 7, 8, 9, 10], [10]), (12, [], [47, 48, 49, 50, 51, 52, 53, 54, 55, 56, 57, 58]), (13, [0, 1, 2, 3, 4, 5, 6, 7, 8, 9, 10, 11, 12], [])] mixed (by kernel_rfl) ?_
    repeat' first | refine wr (by omega) ?_ | refine ln ?_ | refine stp lay_ok rfl ?_ | refine fin ?_ | refine n_thn ?_ | refine n_blk ?_ | refine e_thn ?_ | refine e_hit ?_ | refine e_miss rfl ?_ | refine r_thn ?_ | refine r_blk ?_ | refine e_rr ?_ | refine r_rr ?_ | refine e_cr ?_ | refine r_cr ?_ | refine .seq ?_ | refine reg ?_ | refine .block ?_ | refine .skip ?_ | refine .ret ?_ | refine .exit ?_ | refine cndT rfl ?_ | refine cndF rfl ?_ | refine c_dec rfl (fun hc => ?_) (fun hc => ?_) | refine c_ndec rfl (fun hc => ?_) (fun hc => ?_) | refine cnd rfl (fun hc => ?_) (fun hc => ?_) | ((first | refine o_none rfl ?_ | refine o_none_ ?_ | refine o_yes rfl rfl rfl ?_ | refine o_yes_ rfl rfl ?_); first | refine st_index [SV.int .i64 c, .int .i64 kd, .str nm, .str p, .sl 1 (oks.map rowS), .int .i64 n] lay_ok rfl rfl rfl rfl (by omega) hat ?_ | refine st_callG [0,4] 1 (hdo) b14 rfl rfl rfl rfl rfl (by (repeat' first | exact trivial | refine And.intro ?_ ?_ | rfl); first | done | fail) rfl ?_) | refine gd rfl rfl rfl (fun hg => ?_) (fun hg => ?_) | refine gn rfl rfl rfl (fun hg => ?_) (fun hg => ?_) | refine dwr (by omega) ?_ | refine dwl ?_ | refine dws lay_ok rfl rfl rfl rfl rfl rfl rfl ?_ | refine dwu lay_ok rfl rfl rfl rfl rfl rfl rfl rfl rfl ?_ | refine dw_end ?_ | refine dw_skip rfl rfl rfl ?_ | refine dwn lay_ok rfl rfl rfl rfl rfl ?_ | refine dwG [0,4] rfl rfl rfl rfl (by refine st_callG [0,4] 1 (hdo) b14 rfl rfl rfl rfl rfl (by (repeat' first | exact trivial | refine And.intro ?_ ?_ | rfl); first | done | fail) rfl ?_; exact fin rfl) rfl rfl rfl rfl rfl ?_ | refine dwb rfl rfl rfl rfl rfl (by (first | refine st_index [SV.int .i64 c, .int .i64 kd, .str nm, .str p, .sl 1 (oks.map rowS), .int .i64 n] lay_ok rfl rfl rfl rfl (by omega) hat ?_ | refine st_callG [0,4] 1 (hdo) b14 rfl rfl rfl rfl rfl (by (repeat' first | exact trivial | refine And.intro ?_ ?_ | rfl); first | done | fail) rfl ?_); exact fin rfl) rfl rfl ?_ | refine dwg rfl rfl rfl rfl rfl (by (first | refine st_index [SV.int .i64 c, .int .i64 kd, .str nm, .str p, .sl 1 (oks.map rowS), .int .i64 n] lay_ok rfl rfl rfl rfl (by omega) hat ?_ | refine st_callG [0,4] 1 (hdo) b14 rfl rfl rfl rfl rfl (by (repeat' first | exact trivial | refine And.intro ?_ ?_ | rfl); first | done | fail) rfl ?_); exact fin rfl) rfl rfl rfl rfl rfl ?_ | refine dw_dec rfl rfl rfl (fun hg => ?_) (fun hg => ?_) | refine dw_ndec rfl rfl rfl (fun hg => ?_) (fun hg => ?_)
    all_goals first
      | (exfalso; omega)
      | (exfalso; exact hmine ⟨by assumption, by assumption⟩)
      | skip
    all_goals
      refine n_rr ((k + 1, l2, b2, b')) ?_ (.of [6, 5] (by (repeat' first | exact trivial | refine And.intro ?_ ?_ | rfl | exact congrArg (fun z : Int => some (AV.st (.int .i64 z))) (show (k : Int) + 1 = ((k + 1 : Nat) : Int) by omega)); first | done | fail) (by (repeat' first | exact trivial | refine And.intro ?_ ?_ | rfl | exact congrArg (fun z : Int => some (AV.st (.int .i64 z))) (show (k : Int) + 1 = ((k + 1 : Nat) : Int) by omega)); first | done | fail) rfl) ?_
      · show ds.length - (k + 1) < ds.length - k; omega
      · exact ⟨hk, hk80, hC2, hB2, g5⟩
end Go.Proofs.YtligkfhplinjlaaGreatDoorFn
namespace Go.Proofs.YtligkfhplinjlaaGreatDoor
open Go.Proofs.YtligkfhplinjlaaGreatDoorAl Go.ChangeAt Go.RowKit
open Go.Proofs.YtligkfhplinjlaaGreatDoorFn
theorem own : ownKnob Tryz.prog.godebug = none := by kernel_rfl
theorem laidOut : laidOutB Tryz.prog = true := by kernel_rfl
def pars : List Par := [⟨22, false, ΦL 6 80 ΦD⟩, ⟨3, false, ΦI⟩]
theorem pars_ok : ParsOk Tryz.prog pars :=
  ⟨rdLD, ⟨_, Tryz.underlying22, rfl⟩, by kernel_rfl, of_decide_eq_true (by kernel_rfl),
   rdI, ⟨_, Tryz.underlying3, rfl⟩, by kernel_rfl, of_decide_eq_true (by kernel_rfl), trivial⟩
theorem law_ok : LawOk Tryz.prog 3 pars := by
  rintro svs ⟨_, _, rfl, ⟨r0, h0, hr0, hl0⟩, _, _, rfl, ⟨x1, h1, hm1⟩, rfl⟩
  cases h0
  obtain ⟨x0, rfl, hm0⟩ := rows_map (f := rowD) (Ok := DV.inMem) (fun row hm => ofD (hr0 row hm))
  simp only [List.length_map] at hl0
  cases h1
  have hreach : reachBytes ≤ 140737488351232 := by decide
  exact lawApart_ok x0 x1
set_option maxRecDepth 100000 in
theorem law_lift (os : Os) (started : os.Started) (H : Type) (enc : TypeId × Value → H) :
    ReturnsInHanded {} Tryz.checked os 3 .any (fun w args => (Rows.catalogApartSpec.pre enc Tryz.prog Tryz.f3 [] false w args ∧ laidMetH Tryz.prog Rows.catalogApartRow.laid w) ∧ sizedMet enc Tryz.prog Tryz.f3 (OpenSpec.ofChange Rows.catalogApartSpec) false w args) (Rows.catalogApartSpec.post enc Tryz.prog Tryz.f3 false true false false) :=
  law_liftedL (C := Tryz.checked) (ps := pars) own started (by kernel_rfl) Tryz.func3
    (ChangeSpec.witness_shaped (enc := enc) (C := Tryz.checked) (os := os) (X := fun w _ => laidMetH Tryz.prog Rows.catalogApartRow.laid w) false (World.laidAll Tryz.prog os Rows.catalogApartRow.laid) #[.slice none 0 0, .int .i64 0] 8 (World.laidAll_os _ _ _)
      (World.shaped_of_ZipB (by kernel_rfl) (by kernel_rfl)) (by kernel_rfl) (by kernel_rfl) (by kernel_rfl)
      (by rw [MakeChecks.laidMetH_plain _ _ _ (by kernel_rfl)]; exact laidMet_laidAll _ (by kernel_rfl) (by kernel_rfl)))
    laidOut rfl rfl Tryz.underlying4 rfl
    (fun ds hds => by
      match ds, hds with
      | [_, _], _ => rfl) pars_ok law_ok
theorem law_over : Rows.catalogApartRow.holds Tryz.pinned (OpenSpec.ofChange Rows.catalogApartSpec) :=
  OpenClaim.holds_of_wide 3 Tryz.f3 rfl rfl rfl rfl rfl rfl rfl ⟨rfl, rfl, rfl, rfl, rfl⟩ rfl rfl rfl rfl rfl (by kernel_rfl) Tryz.func3 (by kernel_rfl)
    (of_decide_eq_true (by kernel_rfl)) (by unfold Func.isWrapper; first | (rw [if_pos (by decide +kernel)]; kernel_rfl) | (rw [if_neg (by decide +kernel)]; exact ⟨rfl, rfl⟩))
    (fun os started H enc _ => law_lift os started H enc)
theorem CatalogApart_holds : Rows.CatalogApartCardSaid :=
  Claim7.holds_tied_plain_at .later [] [.data, .pinned] true Rows.catalogApartCard.stood.harness Rows.catalogApartCard.stood.looks law_over (fun _ h => by cases h) (by kernel_rfl) (fun _ h => by cases h) catalogApart_row_tie rfl ⟨rfl, rfl⟩ (by kernel_rfl) rfl
    (fun f fn hf hfn => by
      obtain rfl : f = 3 := Option.some.inj ((show Tryz.prog.funcNamed "becket/becketlaw09.CatalogApart" = some 3 by kernel_rfl).symm.trans hf) |>.symm
      obtain rfl : fn = Tryz.f3 := (Option.some.inj (Tryz.func3.symm.trans hfn)).symm
      exact ⟨by kernel_rfl, fun j t ht => by
        have hm : t ∈ ([22, 3] : List Nat) := by
          have e := Array.mem_of_getElem? ht
          rw [Tryz.params3] at e
          simpa using e
        have hall : (([22, 3] : List Nat).all fun u => !Tryz.prog.wantsStandIn u) = true := by kernel_rfl
        exact (show Tryz.prog.wantsStandIn t = false by simpa using List.all_eq_true.1 hall t hm)⟩)
    (by kernel_rfl)
#print axioms CatalogApart_holds
end Go.Proofs.YtligkfhplinjlaaGreatDoor
