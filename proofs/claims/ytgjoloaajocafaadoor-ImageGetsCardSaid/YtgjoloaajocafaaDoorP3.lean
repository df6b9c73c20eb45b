/- The law ImageGets: for every input it says true: The catalog of any bytes, or that they are none's. No condition. -/
import Derived.Test.YtgjoloaajocafaaDoorP2
import Derived.Test.YtgjoloaajocafaaDoorAlZn
import Derived.KernelRfl
import Derived.Test.YtgjoloaajocafaaDoorRows
import Derived.Test.YtgjoloaajocafaaDoorTie
import Derived.Test.YtgjoloaajocafaaDoorCards
set_option linter.all false
namespace Go.Proofs.YtgjoloaajocafaaDoorFn
open Go.Proofs.YtgjoloaajocafaaDoorAl Go.Proofs.Tryd
attribute [local irreducible] IntKind.wrap CodeOk OpsL OpG ACalls thn inBlk rndR cutR WkR Wk fnR DW ExtOk partsOf
theorem b12 : HasBody prog 12 := ⟨f12, func12, Option.some_ne_none _, by decide⟩
/-! ### a part has no slash -/
theorem dec_slash (s : ByteArray) (p j : Nat) (hm : mayR (Utf8.decode s p).1 = true) (hj : j < (Utf8.decode s p).2) (hlt : p + j < s.size) : (s.get! (p + j)).toNat ≠ 47 := by
  have hd := dec_eq s p
  have hmn : mayR 65533 = false := by decide
  generalize Utf8.decode s p = D at *
  have h123 : j = 0 ∨ j = 1 ∨ j = 2 ∨ j = 3 ∨ 4 ≤ j := by omega
  split at hd
  · subst hd
    rename_i h
    simp only at hm hj
    have : j = 0 := by omega
    subst this
    rw [mayR_lo h] at hm
    simp only [plainB, Bool.or_eq_true, decide_eq_true_eq] at hm
    rw [Nat.add_zero]; omega
  rename_i h0
  have hfirst : (s.get! (p + 0)).toNat ≠ 47 := by rw [Nat.add_zero]; omega
  split at hd
  · rename_i h1
    split at hd
    · subst hd; simp only at hj
      rcases h123 with rfl | rfl | rfl | rfl | h <;> first | exact hfirst | omega
    · subst hd; simp only at hm; rw [hmn] at hm; cases hm
  split at hd
  · rename_i h1
    split at hd
    · subst hd; simp only at hj
      rcases h123 with rfl | rfl | rfl | rfl | h <;> first | exact hfirst | omega
    · subst hd; simp only at hm; rw [hmn] at hm; cases hm
  split at hd
  · rename_i h1
    split at hd
    · subst hd; simp only at hj
      rcases h123 with rfl | rfl | rfl | rfl | h <;> first | exact hfirst | omega
    · subst hd; simp only at hm; rw [hmn] at hm; cases hm
  · subst hd; simp only at hm; rw [hmn] at hm; cases hm
theorem runs_slash (s : ByteArray) : ∀ (f p n : Nat), s.size < p + f → runs s f p = some n → ∀ j, p ≤ j → j < s.size → (s.get! j).toNat ≠ 47
  | 0, p, n, hf, _, j, h1, h2 => by omega
  | f + 1, p, n, hf, h, j, h1, h2 => by
    rw [runs, if_pos (by omega)] at h
    split at h
    · rename_i hm
      cases hr : runs s f (p + (Utf8.decode s p).2) with
      | none => rw [hr] at h; cases h
      | some n' =>
        have hw := decode_pos s p
        by_cases hj : j < p + (Utf8.decode s p).2
        · have := dec_slash s p (j - p) hm (by omega) (by omega)
          rwa [show p + (j - p) = j by omega] at this
        · exact runs_slash s f _ n' (by omega) hr j (by omega) h2
    · cases h
theorem slAt_iff (s : ByteArray) : slAt s < 0 ↔ ∀ j : Nat, j < s.size → (s.get! j).toNat ≠ 47 := by
  constructor
  · intro h j hj e
    have h1 := (idx_neg h).2
    rw [List.count_eq_zero] at h1
    apply h1
    have h2 := get_some hj
    rw [← data_get] at h2
    have : s.get! j = 47 := UInt8.toNat.inj (by rw [e]; rfl)
    rw [this] at h2
    exact List.mem_of_getElem? h2
  · intro h
    rcases Int.lt_or_le (slAt s) 0 with h0 | h0
    · exact h0
    · exfalso
      obtain ⟨m, hm⟩ : ∃ m : Nat, slAt s = m := ⟨(slAt s).toNat, by omega⟩
      have h3 : 0 < s.data.toList.count 47 := by have := (idx_pos hm).2.2; omega
      have h4 := List.count_pos_iff.1 h3
      obtain ⟨j, hj⟩ := List.mem_iff_getElem?.1 h4
      rw [data_get] at hj
      have hjs : j < s.size := by
        rcases Nat.lt_or_ge j s.size with g | g
        · exact g
        · rw [getElem?_neg s j (by omega)] at hj; cases hj
      rw [get_some hjs] at hj
      exact h j hjs (by rw [Option.some.inj hj]; rfl)
theorem nameOk_part (s : ByteArray) : nameOk s = partOk s := by
  unfold nameOk
  rcases Int.lt_or_le (slAt s) 0 with h0 | h0
  · rw [decide_eq_false (by omega), Bool.not_false, Bool.and_true]
    unfold pathOk
    rw [parts_neg h0]
    simp
  · rw [decide_eq_true (by omega), Bool.not_true, Bool.and_false]
    symm
    cases hp : partOk s with
    | false => rfl
    | true =>
      exfalso
      unfold partOk at hp
      cases hr : runs s (s.size + 1) 0 with
      | none => rw [hr] at hp; cases hp
      | some n =>
        have h1 := runs_slash s (s.size + 1) 0 n (by omega) hr
        have h2 := (slAt_iff s).2 (fun j hj => h1 j (Nat.zero_le _) hj)
        omega
theorem entryC_pos {l : List EV} {i : Nat} {e : EV} {n : Int} (h : entryC l i e = some n) : n = 1 ∨ n = 2 ∨ n = 4 := by
  rw [entryC_eq] at h
  split at h
  · split at h
    · have := Option.some.inj h; omega
    · split at h
      · cases h
      · have := Option.some.inj h; omega
  · have := Option.some.inj h; omega
theorem badFrom_pos (l : List EV) : ∀ (f i j : Nat) (n : Int), badFrom l f i = some (j, n) → n = 1 ∨ n = 2 ∨ n = 4
  | 0, _, _, _, h => by cases h
  | f + 1, i, j, n, h => by
    rw [badFrom] at h
    split at h
    · cases h
    · split at h
      · rename_i n' e
        simp only [Option.some.injEq, Prod.mk.injEq] at h
        rw [← h.2]; exact entryC_pos e
      · exact badFrom_pos l f (i + 1) j n h
theorem treeOk_check (l : List EV) : treeOk l = decide ((checkP l).1 = 0) := by
  unfold treeOk checkP
  by_cases h : 32 < l.length
  · rw [if_pos h, decide_eq_false (by omega)]; rfl
  · rw [if_neg h, decide_eq_true (by omega), Bool.true_and]
    cases hb : badFrom l l.length 0 with
    | none => rfl
    | some x =>
      obtain ⟨i, n⟩ := x
      have := badFrom_pos l _ _ _ _ hb
      simp; omega
theorem any_take {α : Type} {p : α → Bool} {l : List α} {k : Nat} (h : k < l.length) : (l.take (k + 1)).any p = ((l.take k).any p || p l[k]) := by
  rw [List.take_succ_eq_append_getElem h, List.any_append]; simp only [List.any_cons, List.any_nil, Bool.or_false]
theorem any_at {α : Type} {p : α → Bool} {l : List α} {k : Nat} (h : k < l.length) (hp : p l[k] = true) : l.any p = true :=
  List.any_eq_true.2 ⟨_, List.getElem_mem h, hp⟩
set_option maxHeartbeats 8000000 in
set_option maxRecDepth 4000 in
theorem refMay_ok (l : List NV) (hl : l.length ≤ 4000000000) (hk : ∀ s ∈ l, s.fit) : ACalls prog 12 0 [.st (.sl 4 (l.map rowN))] [] fun r h => r = B (fromB l) ∧ h = [] := by
  have hm : (List.map rowN l).length = l.length := List.length_map _
  have hW0 : fromB l = fromF (l.take 0) (l.drop 0) := rfl
  generalize fromB l = W at *
  refine fnC lay_ok func12 rfl rfl rfl rfl rfl ?_
  repeat' first | refine wr (by omega) ?_ | refine ln ?_ | refine stp lay_ok rfl ?_ | refine fin ?_ | refine n_thn ?_ | refine n_blk ?_ | refine e_thn ?_ | refine e_hit ?_ | refine e_miss rfl ?_ | refine r_thn ?_ | refine r_blk ?_ | refine e_rr ?_ | refine r_rr ?_ | refine e_cr ?_ | refine r_cr ?_ | refine .seq ?_ | refine reg ?_ | refine .block ?_ | refine .skip ?_ | refine .ret ?_ | refine .exit ?_ | refine cndT rfl ?_ | refine cndF rfl ?_ | refine c_dec rfl (fun hc => ?_) (fun hc => ?_) | refine c_ndec rfl (fun hc => ?_) (fun hc => ?_) | refine cnd rfl (fun hc => ?_) (fun hc => ?_) | refine gd rfl rfl rfl (fun hg => ?_) (fun hg => ?_) | refine gn rfl rfl rfl (fun hg => ?_) (fun hg => ?_) | refine dwr (by omega) ?_ | refine dwl ?_ | refine dws lay_ok rfl rfl rfl rfl rfl rfl rfl ?_ | refine dwu lay_ok rfl rfl rfl rfl rfl rfl rfl rfl rfl ?_ | refine dw_end ?_ | refine dw_skip rfl rfl rfl ?_ | refine dwn lay_ok rfl rfl rfl rfl rfl ?_ | refine dw_dec rfl rfl rfl (fun hg => ?_) (fun hg => ?_) | refine dw_ndec rfl rfl rfl (fun hg => ?_) (fun hg => ?_)
  refine lpR (fun k => k ≤ l.length ∧ W = fromF (l.take k) (l.drop k)) (fun k => l.length - k) (fun k => [(3, I k)]) (fun k => []) (0) [0] [] [] rfl rfl rfl (.of [] (by (repeat' first | exact trivial | refine And.intro ?_ ?_ | rfl); first | done | fail) (by (repeat' first | exact trivial | refine And.intro ?_ ?_ | rfl); first | done | fail) rfl) ?_ ?_
  · exact ⟨Nat.zero_le _, hW0⟩
  rintro i ⟨h1, h2⟩
  refine nrm rfl rfl ?_
  by_cases hi : i < l.length
  case neg =>
    have : i = l.length := by omega
    subst this
    rw [List.drop_length] at h2
    repeat' first | refine wr (by omega) ?_ | refine ln ?_ | refine stp lay_ok rfl ?_ | refine fin ?_ | refine n_thn ?_ | refine n_blk ?_ | refine e_thn ?_ | refine e_hit ?_ | refine e_miss rfl ?_ | refine r_thn ?_ | refine r_blk ?_ | refine e_rr ?_ | refine r_rr ?_ | refine e_cr ?_ | refine r_cr ?_ | refine .seq ?_ | refine reg ?_ | refine .block ?_ | refine .skip ?_ | refine .ret ?_ | refine .exit ?_ | refine cndT rfl ?_ | refine cndF rfl ?_ | refine c_dec rfl (fun hc => ?_) (fun hc => ?_) | refine c_ndec rfl (fun hc => ?_) (fun hc => ?_) | refine cnd rfl (fun hc => ?_) (fun hc => ?_) | refine gd rfl rfl rfl (fun hg => ?_) (fun hg => ?_) | refine gn rfl rfl rfl (fun hg => ?_) (fun hg => ?_) | refine dwr (by omega) ?_ | refine dwl ?_ | refine dws lay_ok rfl rfl rfl rfl rfl rfl rfl ?_ | refine dwu lay_ok rfl rfl rfl rfl rfl rfl rfl rfl rfl ?_ | refine dw_end ?_ | refine dw_skip rfl rfl rfl ?_ | refine dwn lay_ok rfl rfl rfl rfl rfl ?_ | refine dw_dec rfl rfl rfl (fun hg => ?_) (fun hg => ?_) | refine dw_ndec rfl rfl rfl (fun hg => ?_) (fun hg => ?_)
    · exfalso; omega
    · refine f_r [] rfl trivial rfl ⟨?_, rfl⟩
      rw [h2]; rfl
  have hat : (l.map rowN)[((i : Nat) : Int).toNat]? = some (rowN l[i]) := by simp [hi]
  have hf := hk _ (List.getElem_mem hi)
  rw [fromF_step hi] at h2
  have hMd : mayN (l.take i) l[i] = (decide (0 ≤ l[i].client ∧ l[i].client < 8) && decide (many l[i].client (l.take i) < 8) && nameOk l[i].name && !((l.take i).any fun x => decide (x.client = l[i].client) && decide (x.name = l[i].name)) && treeOk l[i].entries && !(l[i].entries.any fun e => decide (e.keys.length > 16))) := rfl
  rw [nameOk_part, treeOk_check] at hMd
  have hpart := refPart_ok l[i].name (by have := hf.1; omega)
  have hchk := refCheck_ok l[i].entries hf.2.1 (fun e he => (hf.2.2 e he).1) (fun e he => (hf.2.2 e he).2)
  have hjr : ∀ j (hj : j < i), (l.map rowN)[((j : Nat) : Int).toNat]? = some (rowN (l[j]'(by omega))) := fun j hj => by simp [show j < l.length by omega]
  generalize mayN (l.take i) l[i] = M at *
  generalize l[i] = s at *
  obtain ⟨c, n, d, es⟩ := s
  simp only at *
  generalize (checkP es).1 = ck at *
  generalize (checkP es).2 = cp at *
  have hme : (List.map rowE es).length = es.length := List.length_map _
  have hle : es.length ≤ 4000000000 := hf.2.1
  repeat' first | refine wr (by omega) ?_ | refine ln ?_ | refine stp lay_ok rfl ?_ | refine fin ?_ | refine n_thn ?_ | refine n_blk ?_ | refine e_thn ?_ | refine e_hit ?_ | refine e_miss rfl ?_ | refine r_thn ?_ | refine r_blk ?_ | refine e_rr ?_ | refine r_rr ?_ | refine e_cr ?_ | refine r_cr ?_ | refine .seq ?_ | refine reg ?_ | refine .block ?_ | refine .skip ?_ | refine .ret ?_ | refine .exit ?_ | refine cndT rfl ?_ | refine cndF rfl ?_ | refine c_dec rfl (fun hc => ?_) (fun hc => ?_) | refine c_ndec rfl (fun hc => ?_) (fun hc => ?_) | refine cnd rfl (fun hc => ?_) (fun hc => ?_) | refine gd rfl rfl rfl (fun hg => ?_) (fun hg => ?_) | refine gn rfl rfl rfl (fun hg => ?_) (fun hg => ?_) | refine dwr (by omega) ?_ | refine dwl ?_ | refine dws lay_ok rfl rfl rfl rfl rfl rfl rfl ?_ | refine dwu lay_ok rfl rfl rfl rfl rfl rfl rfl rfl rfl ?_ | refine dw_end ?_ | refine dw_skip rfl rfl rfl ?_ | refine dwn lay_ok rfl rfl rfl rfl rfl ?_ | refine dw_dec rfl rfl rfl (fun hg => ?_) (fun hg => ?_) | refine dw_ndec rfl rfl rfl (fun hg => ?_) (fun hg => ?_)
  all_goals first
    | (exfalso; omega)
    | skip
  repeat' first | refine o_frb 0 [.int .i64 c, .str n, .bool d, .sl 3 (es.map rowE)] rfl rfl rfl (by (repeat' first | exact trivial | refine And.intro ?_ ?_ | rfl); first | done | fail) (by (repeat' first | exact trivial | refine And.intro ?_ ?_ | rfl); first | done | fail) rfl rfl ?_ | refine wr (by omega) ?_ | refine ln ?_ | refine stp lay_ok rfl ?_ | refine fin ?_ | refine n_thn ?_ | refine n_blk ?_ | refine e_thn ?_ | refine e_hit ?_ | refine e_miss rfl ?_ | refine r_thn ?_ | refine r_blk ?_ | refine e_rr ?_ | refine r_rr ?_ | refine e_cr ?_ | refine r_cr ?_ | refine .seq ?_ | refine reg ?_ | refine .block ?_ | refine .skip ?_ | refine .ret ?_ | refine .exit ?_ | refine cndT rfl ?_ | refine cndF rfl ?_ | refine c_dec rfl (fun hc => ?_) (fun hc => ?_) | refine c_ndec rfl (fun hc => ?_) (fun hc => ?_) | refine cnd rfl (fun hc => ?_) (fun hc => ?_) | ((first | refine o_none rfl ?_ | refine o_none_ ?_ | refine o_yes rfl rfl rfl ?_ | refine o_yes_ rfl rfl ?_); first | refine st_index (rowN ⟨c, n, d, es⟩) lay_ok rfl rfl rfl rfl (by omega) hat ?_ | refine st_pure (hpart) b27 rfl rfl rfl rfl ?_ | refine st_pure (hchk) b28 rfl rfl rfl rfl ?_) | refine gb (b := (partOk n)) rfl rfl rfl (fun hg => ?_) (fun hg => ?_) | refine gb (b := (!partOk n)) rfl rfl rfl (fun hg => ?_) (fun hg => ?_) | refine gd rfl rfl rfl (fun hg => ?_) (fun hg => ?_) | refine gn rfl rfl rfl (fun hg => ?_) (fun hg => ?_) | refine dwr (by omega) ?_ | refine dwl ?_ | refine dws lay_ok rfl rfl rfl rfl rfl rfl rfl ?_ | refine dwu lay_ok rfl rfl rfl rfl rfl rfl rfl rfl rfl ?_ | refine dw_end ?_ | refine dw_skip rfl rfl rfl ?_ | refine dwn lay_ok rfl rfl rfl rfl rfl ?_ | refine dwb rfl rfl rfl rfl rfl (by (first | refine st_index (rowN ⟨c, n, d, es⟩) lay_ok rfl rfl rfl rfl (by omega) hat ?_ | refine st_pure (hpart) b27 rfl rfl rfl rfl ?_ | refine st_pure (hchk) b28 rfl rfl rfl rfl ?_); exact fin rfl) rfl rfl ?_ | refine dwg rfl rfl rfl rfl rfl (by (first | refine st_index (rowN ⟨c, n, d, es⟩) lay_ok rfl rfl rfl rfl (by omega) hat ?_ | refine st_pure (hpart) b27 rfl rfl rfl rfl ?_ | refine st_pure (hchk) b28 rfl rfl rfl rfl ?_); exact fin rfl) rfl rfl rfl rfl rfl ?_ | refine dw_dec rfl rfl rfl (fun hg => ?_) (fun hg => ?_) | refine dw_ndec rfl rfl rfl (fun hg => ?_) (fun hg => ?_)
  all_goals first
    | (refine f_r [] rfl trivial rfl ⟨?_, rfl⟩
       have hMf : M = false := by rw [hMd]; simp_all; done
       rw [h2, hMf]; rfl)
    | (refine f_r [] rfl trivial rfl ⟨?_, rfl⟩
       have hMf : M = false := by rw [hMd, decide_eq_false (by omega)]; rfl
       rw [h2, hMf]; rfl)
    | skip
  have hP : partOk n = true := by cases h : partOk n <;> simp_all
  have hck : ck = 0 := by omega
  rw [hP, hck, decide_eq_true (show 0 ≤ c ∧ c < 8 by omega), decide_eq_true (rfl : (0 : Int) = 0), Bool.true_and, Bool.and_true, Bool.and_true] at hMd
  clear hpart hchk
  refine lpR (fun j => j ≤ es.length ∧ (es.take j).any (fun e => decide (e.keys.length > 16)) = false) (fun j => es.length - j) (fun j => [(8, I j)]) (fun j => []) (0) [0, 3, 4] [] [] rfl rfl rfl (.of [] (by (repeat' first | exact trivial | refine And.intro ?_ ?_ | rfl); first | done | fail) (by (repeat' first | exact trivial | refine And.intro ?_ ?_ | rfl); first | done | fail) rfl) ?_ ?_
  · exact ⟨Nat.zero_le _, rfl⟩
  rintro j ⟨hj1, hj2⟩
  refine nrm rfl rfl ?_
  by_cases hj : j < es.length
  · have hatj := at_rowE hj
    have htk := any_take (p := fun e : EV => decide (e.keys.length > 16)) hj
    have han := any_at (p := fun e : EV => decide (e.keys.length > 16)) hj
    generalize es[j] = e at *
    obtain ⟨p', z', ks'⟩ := e
    simp only at htk han
    repeat' first | refine wr (by omega) ?_ | refine ln ?_ | refine stp lay_ok rfl ?_ | refine fin ?_ | refine n_thn ?_ | refine n_blk ?_ | refine e_thn ?_ | refine e_hit ?_ | refine e_miss rfl ?_ | refine r_thn ?_ | refine r_blk ?_ | refine e_rr ?_ | refine r_rr ?_ | refine e_cr ?_ | refine r_cr ?_ | refine .seq ?_ | refine reg ?_ | refine .block ?_ | refine .skip ?_ | refine .ret ?_ | refine .exit ?_ | refine cndT rfl ?_ | refine cndF rfl ?_ | refine c_dec rfl (fun hc => ?_) (fun hc => ?_) | refine c_ndec rfl (fun hc => ?_) (fun hc => ?_) | refine cnd rfl (fun hc => ?_) (fun hc => ?_) | ((first | refine o_none rfl ?_ | refine o_none_ ?_ | refine o_yes rfl rfl rfl ?_ | refine o_yes_ rfl rfl ?_); first | refine st_index (rowE ⟨p', z', ks'⟩) lay_ok rfl rfl rfl rfl (by omega) hatj ?_) | refine gd rfl rfl rfl (fun hg => ?_) (fun hg => ?_) | refine gn rfl rfl rfl (fun hg => ?_) (fun hg => ?_) | refine dwr (by omega) ?_ | refine dwl ?_ | refine dws lay_ok rfl rfl rfl rfl rfl rfl rfl ?_ | refine dwu lay_ok rfl rfl rfl rfl rfl rfl rfl rfl rfl ?_ | refine dw_end ?_ | refine dw_skip rfl rfl rfl ?_ | refine dwn lay_ok rfl rfl rfl rfl rfl ?_ | refine dwb rfl rfl rfl rfl rfl (by (first | refine st_index (rowE ⟨p', z', ks'⟩) lay_ok rfl rfl rfl rfl (by omega) hatj ?_); exact fin rfl) rfl rfl ?_ | refine dwg rfl rfl rfl rfl rfl (by (first | refine st_index (rowE ⟨p', z', ks'⟩) lay_ok rfl rfl rfl rfl (by omega) hatj ?_); exact fin rfl) rfl rfl rfl rfl rfl ?_ | refine dw_dec rfl rfl rfl (fun hg => ?_) (fun hg => ?_) | refine dw_ndec rfl rfl rfl (fun hg => ?_) (fun hg => ?_)
    all_goals first
      | (exfalso; omega)
      | (have hc2 : (ks'.length : Int) > 16 := hc
         refine f_r [] rfl trivial rfl ⟨?_, rfl⟩
         have := han (by rw [decide_eq_true_eq]; omega)
         have hMf : M = false := by rw [hMd, this]; simp
         rw [h2, hMf]; rfl)
      | (have hc2 : ¬ (ks'.length : Int) > 16 := hc
         refine n_rr (j + 1) ?_ (.of [] (by (repeat' first | exact trivial | refine And.intro ?_ ?_ | rfl); first | done | fail) (by (repeat' first | exact trivial | refine And.intro ?_ ?_ | rfl); first | done | fail) rfl) ?_
         · omega
         · refine ⟨hj, ?_⟩
           rw [htk, hj2, decide_eq_false (by omega)]; rfl)
  have hje : j = es.length := by omega
  subst hje
  rw [List.take_length] at hj2
  rw [hj2, Bool.not_false, Bool.and_true] at hMd
  repeat' first | refine wr (by omega) ?_ | refine ln ?_ | refine stp lay_ok rfl ?_ | refine fin ?_ | refine n_thn ?_ | refine n_blk ?_ | refine e_thn ?_ | refine e_hit ?_ | refine e_miss rfl ?_ | refine r_thn ?_ | refine r_blk ?_ | refine e_rr ?_ | refine r_rr ?_ | refine e_cr ?_ | refine r_cr ?_ | refine .seq ?_ | refine reg ?_ | refine .block ?_ | refine .skip ?_ | refine .ret ?_ | refine .exit ?_ | refine cndT rfl ?_ | refine cndF rfl ?_ | refine c_dec rfl (fun hc => ?_) (fun hc => ?_) | refine c_ndec rfl (fun hc => ?_) (fun hc => ?_) | refine cnd rfl (fun hc => ?_) (fun hc => ?_) | refine gd rfl rfl rfl (fun hg => ?_) (fun hg => ?_) | refine gn rfl rfl rfl (fun hg => ?_) (fun hg => ?_) | refine dwr (by omega) ?_ | refine dwl ?_ | refine dws lay_ok rfl rfl rfl rfl rfl rfl rfl ?_ | refine dwu lay_ok rfl rfl rfl rfl rfl rfl rfl rfl rfl ?_ | refine dw_end ?_ | refine dw_skip rfl rfl rfl ?_ | refine dwn lay_ok rfl rfl rfl rfl rfl ?_ | refine dw_dec rfl rfl rfl (fun hg => ?_) (fun hg => ?_) | refine dw_ndec rfl rfl rfl (fun hg => ?_) (fun hg => ?_)
  all_goals first
    | (exfalso; omega)
    | skip
  refine lpR (fun j => j ≤ i ∧ (l.take j).any (fun x => decide (x.client = c) && decide (x.name = n)) = false) (fun j => i - j) (fun j => [(9, I (many c (l.take j))), (10, I j)]) (fun j => []) (0) [0, 3, 4] [] [] rfl rfl rfl (.of [] (by (repeat' first | exact trivial | refine And.intro ?_ ?_ | rfl); first | done | fail) (by (repeat' first | exact trivial | refine And.intro ?_ ?_ | rfl); first | done | fail) rfl) ?_ ?_
  · exact ⟨Nat.zero_le _, rfl⟩
  rintro j ⟨hj1, hj3⟩
  refine nrm rfl rfl ?_
  have hml := many_le c (l.take j)
  rw [List.length_take] at hml
  by_cases hj : j < i
  · have hjl : j < l.length := by omega
    have hatj := hjr j hj
    have htk := any_take (p := fun x : NV => decide (x.client = c) && decide (x.name = n)) hjl
    have han : (decide (l[j].client = c) && decide (l[j].name = n)) = true → (l.take i).any (fun x => decide (x.client = c) && decide (x.name = n)) = true := fun h =>
      List.any_eq_true.2 ⟨_, List.mem_take_iff_getElem.2 ⟨j, by omega, rfl⟩, h⟩
    have hmt := many_take c l j hjl
    generalize l[j] = x at *
    obtain ⟨c', n', d', es'⟩ := x
    simp only at htk han hmt
    repeat' first | refine wr (by omega) ?_ | refine ln ?_ | refine stp lay_ok rfl ?_ | refine fin ?_ | refine n_thn ?_ | refine n_blk ?_ | refine e_thn ?_ | refine e_hit ?_ | refine e_miss rfl ?_ | refine r_thn ?_ | refine r_blk ?_ | refine e_rr ?_ | refine r_rr ?_ | refine e_cr ?_ | refine r_cr ?_ | refine .seq ?_ | refine reg ?_ | refine .block ?_ | refine .skip ?_ | refine .ret ?_ | refine .exit ?_ | refine cndT rfl ?_ | refine cndF rfl ?_ | refine c_dec rfl (fun hc => ?_) (fun hc => ?_) | refine c_ndec rfl (fun hc => ?_) (fun hc => ?_) | refine cnd rfl (fun hc => ?_) (fun hc => ?_) | refine gd rfl rfl rfl (fun hg => ?_) (fun hg => ?_) | refine gn rfl rfl rfl (fun hg => ?_) (fun hg => ?_) | refine dwr (by omega) ?_ | refine dwl ?_ | refine dws lay_ok rfl rfl rfl rfl rfl rfl rfl ?_ | refine dwu lay_ok rfl rfl rfl rfl rfl rfl rfl rfl rfl ?_ | refine dw_end ?_ | refine dw_skip rfl rfl rfl ?_ | refine dwn lay_ok rfl rfl rfl rfl rfl ?_ | refine dw_dec rfl rfl rfl (fun hg => ?_) (fun hg => ?_) | refine dw_ndec rfl rfl rfl (fun hg => ?_) (fun hg => ?_)
    all_goals first
      | (exfalso; omega)
      | skip
    refine dreg [(0, [], [67, 71, 72]), (1, [], [66, 71, 72]), (2, [0, 1], [71, 72]), (3, [0, 1, 2], [71, 72]), (4, [0, 1, 2, 3], [71, 72]), (5, [], [66, 67, 68, 69, 70]), (6, [5], [66, 67, 68, 69, 70]), (7, [0, 1, 2, 3, 4, 5, 6], [])] mixed (by kernel_rfl) ?_
    repeat' first | refine wr (by omega) ?_ | refine ln ?_ | refine stp lay_ok rfl ?_ | refine fin ?_ | refine n_thn ?_ | refine n_blk ?_ | refine e_thn ?_ | refine e_hit ?_ | refine e_miss rfl ?_ | refine r_thn ?_ | refine r_blk ?_ | refine e_rr ?_ | refine r_rr ?_ | refine e_cr ?_ | refine r_cr ?_ | refine .seq ?_ | refine reg ?_ | refine .block ?_ | refine .skip ?_ | refine .ret ?_ | refine .exit ?_ | refine cndT rfl ?_ | refine cndF rfl ?_ | refine c_dec rfl (fun hc => ?_) (fun hc => ?_) | refine c_ndec rfl (fun hc => ?_) (fun hc => ?_) | refine cnd rfl (fun hc => ?_) (fun hc => ?_) | ((first | refine o_none rfl ?_ | refine o_none_ ?_ | refine o_yes rfl rfl rfl ?_ | refine o_yes_ rfl rfl ?_); first | refine st_index (rowN ⟨c', n', d', es'⟩) lay_ok rfl rfl rfl rfl (by omega) hatj ?_) | refine gd rfl rfl rfl (fun hg => ?_) (fun hg => ?_) | refine gn rfl rfl rfl (fun hg => ?_) (fun hg => ?_) | refine dwr (by omega) ?_ | refine dwl ?_ | refine dws lay_ok rfl rfl rfl rfl rfl rfl rfl ?_ | refine dwu lay_ok rfl rfl rfl rfl rfl rfl rfl rfl rfl ?_ | refine dw_end ?_ | refine dw_skip rfl rfl rfl ?_ | refine dwn lay_ok rfl rfl rfl rfl rfl ?_ | refine dwb rfl rfl rfl rfl rfl (by (first | refine st_index (rowN ⟨c', n', d', es'⟩) lay_ok rfl rfl rfl rfl (by omega) hatj ?_); exact fin rfl) rfl rfl ?_ | refine dwg rfl rfl rfl rfl rfl (by (first | refine st_index (rowN ⟨c', n', d', es'⟩) lay_ok rfl rfl rfl rfl (by omega) hatj ?_); exact fin rfl) rfl rfl rfl rfl rfl ?_ | refine dw_dec rfl rfl rfl (fun hg => ?_) (fun hg => ?_) | refine dw_ndec rfl rfl rfl (fun hg => ?_) (fun hg => ?_)
    · refine dreg [(0, [], [77, 81, 82]), (1, [], [76, 81, 82]), (2, [0, 1], [81, 82]), (3, [0, 1, 2], [81, 82]), (4, [0, 1, 2, 3], [81, 82]), (5, [], [76, 77, 78, 79, 80]), (6, [5], [76, 77, 78, 79, 80]), (7, [0, 1, 2, 3, 4, 5, 6], [])] mixed (by kernel_rfl) ?_
      repeat' first | refine wr (by omega) ?_ | refine ln ?_ | refine stp lay_ok rfl ?_ | refine fin ?_ | refine n_thn ?_ | refine n_blk ?_ | refine e_thn ?_ | refine e_hit ?_ | refine e_miss rfl ?_ | refine r_thn ?_ | refine r_blk ?_ | refine e_rr ?_ | refine r_rr ?_ | refine e_cr ?_ | refine r_cr ?_ | refine .seq ?_ | refine reg ?_ | refine .block ?_ | refine .skip ?_ | refine .ret ?_ | refine .exit ?_ | refine cndT rfl ?_ | refine cndF rfl ?_ | refine c_dec rfl (fun hc => ?_) (fun hc => ?_) | refine c_ndec rfl (fun hc => ?_) (fun hc => ?_) | refine cnd rfl (fun hc => ?_) (fun hc => ?_) | ((first | refine o_none rfl ?_ | refine o_none_ ?_ | refine o_yes rfl rfl rfl ?_ | refine o_yes_ rfl rfl ?_); first | refine st_index (rowN ⟨c', n', d', es'⟩) lay_ok rfl rfl rfl rfl (by omega) hatj ?_) | refine gd rfl rfl rfl (fun hg => ?_) (fun hg => ?_) | refine gn rfl rfl rfl (fun hg => ?_) (fun hg => ?_) | refine dwr (by omega) ?_ | refine dwl ?_ | refine dws lay_ok rfl rfl rfl rfl rfl rfl rfl ?_ | refine dwu lay_ok rfl rfl rfl rfl rfl rfl rfl rfl rfl ?_ | refine dw_end ?_ | refine dw_skip rfl rfl rfl ?_ | refine dwn lay_ok rfl rfl rfl rfl rfl ?_ | refine dwb rfl rfl rfl rfl rfl (by (first | refine st_index (rowN ⟨c', n', d', es'⟩) lay_ok rfl rfl rfl rfl (by omega) hatj ?_); exact fin rfl) rfl rfl ?_ | refine dwg rfl rfl rfl rfl rfl (by (first | refine st_index (rowN ⟨c', n', d', es'⟩) lay_ok rfl rfl rfl rfl (by omega) hatj ?_); exact fin rfl) rfl rfl rfl rfl rfl ?_ | refine dw_dec rfl rfl rfl (fun hg => ?_) (fun hg => ?_) | refine dw_ndec rfl rfl rfl (fun hg => ?_) (fun hg => ?_)
      · refine f_r [] rfl trivial rfl ⟨?_, rfl⟩
        have h9 : c' = c := by assumption
        have h8 : n' = n := by assumption
        have := han (by rw [decide_eq_true h9, decide_eq_true h8]; rfl)
        have hMf : M = false := by rw [hMd, this]; simp
        rw [h2, hMf]; rfl
      · have h9 : c' = c := by assumption
        have h8 : ¬ n' = n := by assumption
        refine n_rr (j + 1) ?_ (.of [] (by (repeat' first | exact trivial | refine And.intro ?_ ?_ | rfl | rw [hmt, if_pos h9]; push_cast; rfl); first | done | fail) (by (repeat' first | exact trivial | refine And.intro ?_ ?_ | rfl | rw [hmt, if_pos h9]; push_cast; rfl); first | done | fail) rfl) ?_
        · omega
        · refine ⟨hj, ?_⟩
          rw [htk, hj3, decide_eq_false h8]; simp
    · have h9 : ¬ c' = c := by assumption
      refine n_rr (j + 1) ?_ (.of [] (by (repeat' first | exact trivial | refine And.intro ?_ ?_ | rfl | rw [hmt, if_neg h9]; rfl); first | done | fail) (by (repeat' first | exact trivial | refine And.intro ?_ ?_ | rfl | rw [hmt, if_neg h9]; rfl); first | done | fail) rfl) ?_
      · omega
      · refine ⟨hj, ?_⟩
        rw [htk, hj3, decide_eq_false h9]; simp
  have hje : j = i := by omega
  subst hje
  rw [hj3, Bool.not_false, Bool.and_true] at hMd
  repeat' first | refine wr (by omega) ?_ | refine ln ?_ | refine stp lay_ok rfl ?_ | refine fin ?_ | refine n_thn ?_ | refine n_blk ?_ | refine e_thn ?_ | refine e_hit ?_ | refine e_miss rfl ?_ | refine r_thn ?_ | refine r_blk ?_ | refine e_rr ?_ | refine r_rr ?_ | refine e_cr ?_ | refine r_cr ?_ | refine .seq ?_ | refine reg ?_ | refine .block ?_ | refine .skip ?_ | refine .ret ?_ | refine .exit ?_ | refine cndT rfl ?_ | refine cndF rfl ?_ | refine c_dec rfl (fun hc => ?_) (fun hc => ?_) | refine c_ndec rfl (fun hc => ?_) (fun hc => ?_) | refine cnd rfl (fun hc => ?_) (fun hc => ?_) | refine gd rfl rfl rfl (fun hg => ?_) (fun hg => ?_) | refine gn rfl rfl rfl (fun hg => ?_) (fun hg => ?_) | refine dwr (by omega) ?_ | refine dwl ?_ | refine dws lay_ok rfl rfl rfl rfl rfl rfl rfl ?_ | refine dwu lay_ok rfl rfl rfl rfl rfl rfl rfl rfl rfl ?_ | refine dw_end ?_ | refine dw_skip rfl rfl rfl ?_ | refine dwn lay_ok rfl rfl rfl rfl rfl ?_ | refine dw_dec rfl rfl rfl (fun hg => ?_) (fun hg => ?_) | refine dw_ndec rfl rfl rfl (fun hg => ?_) (fun hg => ?_)
  all_goals first
    | (exfalso; omega)
    | (refine f_r [] rfl trivial rfl ⟨?_, rfl⟩
       have hMf : M = false := by rw [hMd, decide_eq_false (by omega)]
       rw [h2, hMf]; rfl)
    | (refine n_rr (j + 1) ?_ (.of [] (by (repeat' first | exact trivial | refine And.intro ?_ ?_ | rfl); first | done | fail) (by (repeat' first | exact trivial | refine And.intro ?_ ?_ | rfl); first | done | fail) rfl) ?_
       · omega
       · refine ⟨hi, ?_⟩
         rw [h2, hMd, decide_eq_true (by omega)]; rfl)
end Go.Proofs.YtgjoloaajocafaaDoorFn
namespace Go.Proofs.YtgjoloaajocafaaDoorFn
open Go.Proofs.YtgjoloaajocafaaDoorAl Go.Proofs.Tryd
/-! ### what the reference reads -/
theorem refT_le {b : List UInt8} {s : RS} (h : s.at_ ≤ b.length) : (refT b s).2.at_ ≤ b.length ∧ (refT b s).1.size ≤ 4096 := by
  have hn := numM_le (b := b) (s := s) (most := 4096) h
  unfold refT
  simp only
  split
  · exact ⟨hn.1, show mt.size ≤ 4096 by decide⟩
  · rename_i h2
    refine ⟨by show (numM b s 4096).2.at_ + (numM b s 4096).1 ≤ b.length; omega, ?_⟩
    have e2 : (strOf ((b.drop (numM b s 4096).2.at_).take (numM b s 4096).1)).size = ((b.drop (numM b s 4096).2.at_).take (numM b s 4096).1).length := by simp [strOf, ByteArray.size]
    rw [e2, List.length_take]; omega
def textsP (b : List UInt8) : Nat → RS → List ByteArray → List ByteArray × RS
  | 0, s, acc => (acc, s)
  | n + 1, s, acc => if s.bad then (acc, s) else textsP b n (refT b s).2 (acc ++ [(refT b s).1])
def entryP (b : List UInt8) (s : RS) : EV × RS :=
  let r1 := refT b s
  let r2 := numR b r1.2
  let r3 := numR b r2.2
  let r4 := textsP b r3.1 r3.2 []
  (⟨r1.1, r2.1, r4.1⟩, r4.2)
def entsP (b : List UInt8) : Nat → RS → List EV → List EV × RS
  | 0, s, acc => (acc, s)
  | n + 1, s, acc => if s.bad then (acc, s) else entsP b n (entryP b s).2 (acc ++ [(entryP b s).1])
def snapP (b : List UInt8) (s : RS) : NV × RS :=
  let r1 := numR b s
  let r2 := refT b r1.2
  let r3 := numM b r2.2 1
  let r4 := numR b r3.2
  let r5 := entsP b r4.1 r4.2 []
  (⟨r1.1, r2.1, decide ((r3.1 : Int) = 1), r5.1⟩, r5.2)
def snapsP (b : List UInt8) : Nat → RS → List NV → List NV × RS
  | 0, s, acc => (acc, s)
  | n + 1, s, acc => if s.bad then (acc, s) else snapsP b n (snapP b s).2 (acc ++ [(snapP b s).1])
def getP (b : List UInt8) : Option (List NV) :=
  let r0 := numR b ⟨0, false⟩
  let r := snapsP b r0.1 r0.2 []
  if r.2.bad || decide (r.2.at_ < b.length) then none else if fromB r.1 then some r.1 else none
theorem textsP_le (b : List UInt8) : ∀ (n : Nat) (s : RS) (acc : List ByteArray), s.at_ ≤ b.length → (textsP b n s acc).2.at_ ≤ b.length ∧ (textsP b n s acc).1.length ≤ acc.length + n
  | 0, s, acc, h => ⟨h, Nat.le_refl _⟩
  | n + 1, s, acc, h => by
    rw [textsP]
    split
    · exact ⟨h, by simp⟩
    · have := textsP_le b n (refT b s).2 (acc ++ [(refT b s).1]) (refT_le h).1
      refine ⟨this.1, ?_⟩
      have h2 := this.2
      rw [List.length_append, List.length_singleton] at h2; omega
theorem entryP_le {b : List UInt8} {s : RS} (h : s.at_ ≤ b.length) : (entryP b s).2.at_ ≤ b.length ∧ (entryP b s).1.path.size ≤ 4096 ∧ (entryP b s).1.keys.length ≤ 65536 := by
  have h1 := refT_le h
  have h2 := numR_le h1.1
  have h3 := numR_le h2.1
  have h4 := textsP_le b (numR b (numR b (refT b s).2).2).1 (numR b (numR b (refT b s).2).2).2 [] h3.1
  refine ⟨h4.1, h1.2, ?_⟩
  have h5 := h4.2
  have h6 := h3.2
  simp only [List.length_nil] at h5
  exact Nat.le_trans h5 (by omega)
theorem entsP_le (b : List UInt8) : ∀ (n : Nat) (s : RS) (acc : List EV), s.at_ ≤ b.length → (∀ e ∈ acc, e.path.size ≤ 4096 ∧ e.keys.length ≤ 65536) →
    (entsP b n s acc).2.at_ ≤ b.length ∧ (entsP b n s acc).1.length ≤ acc.length + n ∧ ∀ e ∈ (entsP b n s acc).1, e.path.size ≤ 4096 ∧ e.keys.length ≤ 65536
  | 0, s, acc, h, ha => ⟨h, Nat.le_refl _, ha⟩
  | n + 1, s, acc, h, ha => by
    rw [entsP]
    split
    · exact ⟨h, by simp, ha⟩
    · have he := entryP_le h
      have := entsP_le b n (entryP b s).2 (acc ++ [(entryP b s).1]) he.1 (fun e hm => by
        rcases List.mem_append.1 hm with hm | hm
        · exact ha e hm
        · rw [List.mem_singleton] at hm; subst hm; exact he.2)
      refine ⟨this.1, ?_, this.2.2⟩
      have h2 := this.2.1
      rw [List.length_append, List.length_singleton] at h2; omega
theorem snapP_le {b : List UInt8} {s : RS} (h : s.at_ ≤ b.length) : (snapP b s).2.at_ ≤ b.length ∧ (snapP b s).1.red := by
  have h1 := numR_le h
  have h2 := refT_le h1.1
  have h3 := numM_le (most := 1) h2.1
  have h4 := numR_le h3.1
  have h5 := entsP_le b (numR b (numM b (refT b (numR b s).2).2 1).2).1 (numR b (numM b (refT b (numR b s).2).2 1).2).2 [] h4.1 (fun e he => by cases he)
  refine ⟨h5.1, h2.2, ?_, h5.2.2⟩
  have h6 := h5.2.1
  simp only [List.length_nil] at h6
  exact Nat.le_trans h6 (by omega)
/-! ### two readers, alike unless something is amiss -/
def Alk {α : Type} (x y : α × RS) : Prop := (x.2.bad = true ∧ y.2.bad = true) ∨ x = y
theorem numM_bad {b : List UInt8} {s : RS} {m : Nat} (h : s.bad = true) : numM b s m = (0, s) := by rw [numM, if_pos h]
theorem numR_bad {b : List UInt8} {s : RS} (h : s.bad = true) : numR b s = (0, s) := by rw [numR, if_pos h]
theorem textR_bad {b : List UInt8} {s : RS} (h : s.bad = true) : textR b s = (mt, s) := by rw [textR, if_pos h]
theorem refT_bad {b : List UInt8} {s : RS} (h : s.bad = true) : (refT b s).2.bad = true := by
  unfold refT
  simp only [numM_bad h, h, true_or, if_true]
theorem textsR_bad' {b : List UInt8} {n : Nat} {s : RS} {acc : List ByteArray} (h : s.bad = true) : textsR b n s acc = (acc, s) := by
  cases n with
  | zero => rfl
  | succ n => rw [textsR, if_pos h]
theorem textsP_bad {b : List UInt8} {n : Nat} {s : RS} {acc : List ByteArray} (h : s.bad = true) : textsP b n s acc = (acc, s) := by
  cases n with
  | zero => rfl
  | succ n => rw [textsP, if_pos h]
theorem entryR_bad {b : List UInt8} {s : RS} (h : s.bad = true) : (entryR b s).2.bad = true := by
  simp only [entryR, textR_bad h, numR_bad h, textsR_bad' h, h]
theorem entryP_bad {b : List UInt8} {s : RS} (h : s.bad = true) : (entryP b s).2.bad = true := by
  have h1 := refT_bad (b := b) h
  simp only [entryP, numR_bad h1, textsP_bad h1, h1]
theorem entsR_bad {b : List UInt8} {n : Nat} {s : RS} {acc : List EV} (h : s.bad = true) : entsR b n s acc = (acc, s) := by
  cases n with
  | zero => rfl
  | succ n => rw [entsR, if_pos h]
theorem entsP_bad {b : List UInt8} {n : Nat} {s : RS} {acc : List EV} (h : s.bad = true) : entsP b n s acc = (acc, s) := by
  cases n with
  | zero => rfl
  | succ n => rw [entsP, if_pos h]
theorem snapR_bad {b : List UInt8} {s : RS} (h : s.bad = true) : (snapR b s).2.bad = true := by
  have h4 : ∀ d, (⟨s.at_, s.bad || d⟩ : RS).bad = true := fun d => by simp [h]
  simp only [snapR, numR_bad h, textR_bad h, numR_bad (h4 _), entsR_bad (h4 _), h4]
theorem snapP_bad {b : List UInt8} {s : RS} (h : s.bad = true) : (snapP b s).2.bad = true := by
  have h1 := refT_bad (b := b) h
  simp only [snapP, numR_bad h, numM_bad h1, numR_bad h1, entsP_bad h1, h1]
theorem snapsR_bad {b : List UInt8} {n : Nat} {s : RS} {acc : List NV} (h : s.bad = true) : snapsR b n s acc = (acc, s) := by
  cases n with
  | zero => rfl
  | succ n => rw [snapsR, if_pos h]
theorem snapsP_bad {b : List UInt8} {n : Nat} {s : RS} {acc : List NV} (h : s.bad = true) : snapsP b n s acc = (acc, s) := by
  cases n with
  | zero => rfl
  | succ n => rw [snapsP, if_pos h]
theorem txC_eq (b : List UInt8) (s : RS) : Alk (textR b s) (refT b s) := by
  by_cases hs : s.bad = true
  · exact .inl ⟨by rw [textR_bad hs]; exact hs, refT_bad hs⟩
  · have hs' : s.bad = false := by cases h : s.bad <;> simp_all
    unfold textR refT numM
    simp only [hs', Bool.false_eq_true, if_false]
    unfold txC
    cases hg : gnC b s.at_ 4096 with
    | error e => left; simp
    | ok x =>
      obtain ⟨n, q⟩ := x
      simp only [Bool.false_eq_true, false_or]
      by_cases h : b.length < q + n
      · left; simp [h]
      · right; simp [h]
theorem texts_alk (b : List UInt8) : ∀ (n : Nat) (s : RS) (acc : List ByteArray), Alk (textsR b n s acc) (textsP b n s acc)
  | 0, s, acc => .inr rfl
  | n + 1, s, acc => by
    rw [textsR, textsP]
    split
    · exact .inr rfl
    · rcases txC_eq b s with ⟨h1, h2⟩ | h
      · exact .inl ⟨by rw [textsR_bad' h1]; exact h1, by rw [textsP_bad h2]; exact h2⟩
      · rw [h]; exact texts_alk b n _ _
theorem entry_alk (b : List UInt8) (s : RS) : Alk (entryR b s) (entryP b s) := by
  unfold entryR entryP
  simp only
  rcases txC_eq b s with ⟨h1, h2⟩ | h
  · left
    simp only [numR_bad h1, textsR_bad' h1, numR_bad h2, textsP_bad h2]
    exact ⟨h1, h2⟩
  · rw [h]
    rcases texts_alk b (numR b (numR b (refT b s).2).2).1 (numR b (numR b (refT b s).2).2).2 [] with h1 | h1
    · exact .inl h1
    · right; rw [h1]
theorem ents_alk (b : List UInt8) : ∀ (n : Nat) (s : RS) (acc : List EV), Alk (entsR b n s acc) (entsP b n s acc)
  | 0, s, acc => .inr rfl
  | n + 1, s, acc => by
    rw [entsR, entsP]
    split
    · exact .inr rfl
    · rcases entry_alk b s with ⟨h1, h2⟩ | h
      · exact .inl ⟨by rw [entsR_bad h1]; exact h1, by rw [entsP_bad h2]; exact h2⟩
      · rw [h]; exact ents_alk b n _ _
theorem num1_alk (b : List UInt8) (s : RS) : Alk ((numR b s).1, (⟨(numR b s).2.at_, (numR b s).2.bad || decide (((numR b s).1 : Int) > 1)⟩ : RS)) (numM b s 1) := by
  by_cases hs : s.bad = true
  · exact .inl ⟨by rw [numR_bad hs]; simp [hs], by rw [numM_bad hs]; exact hs⟩
  · have hs' : s.bad = false := by cases h : s.bad <;> simp_all
    cases hg : gnF (b.drop s.at_) 0 0 with
    | none =>
      have e1 : numR b s = (0, ⟨s.at_, true⟩) := by simp [numR, gnC, hg, hs']
      have e2 : numM b s 1 = (0, ⟨s.at_, true⟩) := by simp [numM, gnC, hg, hs']
      rw [e1, e2]
      left; simp
    | some x =>
      obtain ⟨n, q⟩ := x
      by_cases h : 1 < n
      · have e2 : numM b s 1 = (0, ⟨s.at_, true⟩) := by simp [numM, gnC, hg, hs', h]
        rw [e2]
        left
        by_cases h6 : 65536 < n
        · have e1 : numR b s = (0, ⟨s.at_, true⟩) := by simp [numR, gnC, hg, hs', h6]
          rw [e1]; simp
        · have e1 : numR b s = (n, ⟨s.at_ + q, false⟩) := by simp [numR, gnC, hg, hs', h6]
          rw [e1]; simp; omega
      · have e2 : numM b s 1 = (n, ⟨s.at_ + q, false⟩) := by simp [numM, gnC, hg, hs', h]
        have e1 : numR b s = (n, ⟨s.at_ + q, false⟩) := by simp [numR, gnC, hg, hs', show ¬ 65536 < n by omega]
        rw [e1, e2]
        right
        have : ¬ ((n : Int) > 1) := by omega
        simp [this]
theorem snap_alk (b : List UInt8) (s : RS) : Alk (snapR b s) (snapP b s) := by
  unfold snapR snapP
  simp only
  rcases txC_eq b (numR b s).2 with ⟨h1, h2⟩ | h
  · left
    have h4 : ∀ d, (⟨(textR b (numR b s).2).2.at_, (textR b (numR b s).2).2.bad || d⟩ : RS).bad = true := fun d => by simp [h1]
    simp only [numR_bad h1, numM_bad h2, numR_bad h2, entsP_bad h2, numR_bad (h4 _), entsR_bad (h4 _)]
    exact ⟨h4 _, h2⟩
  · rw [h]
    rcases num1_alk b (refT b (numR b s).2).2 with ⟨h1, h2⟩ | h1
    · left
      have h3 : (⟨(numR b (refT b (numR b s).2).2).2.at_, (numR b (refT b (numR b s).2).2).2.bad || decide (((numR b (refT b (numR b s).2).2).1 : Int) > 1)⟩ : RS).bad = true := h1
      rw [numR_bad h3, numR_bad h2, entsP_bad h2, entsR_bad h3]
      exact ⟨h3, h2⟩
    · have e1 := congrArg Prod.fst h1
      have e2 := congrArg Prod.snd h1
      simp only at e1 e2
      rw [e2, e1]
      rcases ents_alk b (numR b (numM b (refT b (numR b s).2).2 1).2).1 (numR b (numM b (refT b (numR b s).2).2 1).2).2 [] with h3 | h3
      · exact .inl h3
      · right; rw [h3]
theorem snaps_alk (b : List UInt8) : ∀ (n : Nat) (s : RS) (acc : List NV), Alk (snapsR b n s acc) (snapsP b n s acc)
  | 0, s, acc => .inr rfl
  | n + 1, s, acc => by
    rw [snapsR, snapsP]
    split
    · exact .inr rfl
    · rcases snap_alk b s with ⟨h1, h2⟩ | h
      · exact .inl ⟨by rw [snapsR_bad h1]; exact h1, by rw [snapsP_bad h2]; exact h2⟩
      · rw [h]; exact snaps_alk b n _ _
theorem getP_eq (b : List UInt8) : getP b = getR b := by
  unfold getP getR
  simp only
  rcases snaps_alk b (numR b ⟨0, false⟩).1 (numR b ⟨0, false⟩).2 [] with ⟨h1, h2⟩ | h
  · rw [h1, h2]; rfl
  · rw [h]
end Go.Proofs.YtgjoloaajocafaaDoorFn
namespace Go.Proofs.YtgjoloaajocafaaDoorFn
open Go.Proofs.YtgjoloaajocafaaDoorAl Go.Proofs.Tryd
attribute [local irreducible] IntKind.wrap CodeOk OpsL OpG ACalls thn inBlk rndR cutR WkR Wk fnR DW ExtOk partsOf
theorem b8 : HasBody prog 8 := ⟨f8, func8, Option.some_ne_none _, by decide⟩
def finP (b : List UInt8) (r : List NV × RS) : Option (List NV) := if r.2.bad || decide (r.2.at_ < b.length) then none else if fromB r.1 then some r.1 else none
set_option maxHeartbeats 8000000 in
set_option maxRecDepth 4000 in
theorem refGet10_ok (b : List UInt8) (hb : b.length ≤ 4000000000) : ACalls prog 8 0 [Bs b] [] fun r h => (match getP b with | none => r = .tuple [.st .nilsl, B false] | some l => r = .tuple [.st (.sl 4 (l.map rowN)), B true]) ∧ h = [] := by
  have hN0 := refRNum_ok b ⟨0, false⟩ 65536 hb (Nat.zero_le _) (Nat.le_refl _)
  rw [numM_numR] at hN0
  have hle0 := numR_le (b := b) (s := ⟨0, false⟩) (Nat.zero_le _)
  have hgp : getP b = finP b (snapsP b (numR b ⟨0, false⟩).1 (numR b ⟨0, false⟩).2 []) := rfl
  generalize getP b = G at *
  generalize numR b ⟨0, false⟩ = r0 at *
  obtain ⟨n, s0⟩ := r0
  simp only at *
  have hlb : (List.map rowB b).length = b.length := List.length_map _
  refine fnC lay_ok func8 rfl rfl rfl rfl rfl ?_
  repeat' first | refine wr (by omega) ?_ | refine ln ?_ | refine stp lay_ok rfl ?_ | refine fin ?_ | refine n_thn ?_ | refine n_blk ?_ | refine e_thn ?_ | refine e_hit ?_ | refine e_miss rfl ?_ | refine r_thn ?_ | refine r_blk ?_ | refine e_rr ?_ | refine r_rr ?_ | refine e_cr ?_ | refine r_cr ?_ | refine .seq ?_ | refine reg ?_ | refine .block ?_ | refine .skip ?_ | refine .ret ?_ | refine .exit ?_ | refine cndT rfl ?_ | refine cndF rfl ?_ | refine c_dec rfl (fun hc => ?_) (fun hc => ?_) | refine c_ndec rfl (fun hc => ?_) (fun hc => ?_) | refine cnd rfl (fun hc => ?_) (fun hc => ?_) | ((first | refine o_none rfl ?_ | refine o_none_ ?_ | refine o_yes rfl rfl rfl ?_ | refine o_yes_ rfl rfl ?_); first | refine st_callF 0 (hN0) b22 rfl rfl rfl rfl rfl rfl (by (repeat' first | exact trivial | refine And.intro ?_ ?_ | rfl); first | done | fail) rfl ?_) | refine gd rfl rfl rfl (fun hg => ?_) (fun hg => ?_) | refine gn rfl rfl rfl (fun hg => ?_) (fun hg => ?_) | refine dwr (by omega) ?_ | refine dwl ?_ | refine dws lay_ok rfl rfl rfl rfl rfl rfl rfl ?_ | refine dwu lay_ok rfl rfl rfl rfl rfl rfl rfl rfl rfl ?_ | refine dw_end ?_ | refine dw_skip rfl rfl rfl ?_ | refine dwn lay_ok rfl rfl rfl rfl rfl ?_ | refine dwb rfl rfl rfl rfl rfl (by (first | refine st_callF 0 (hN0) b22 rfl rfl rfl rfl rfl rfl (by (repeat' first | exact trivial | refine And.intro ?_ ?_ | rfl); first | done | fail) rfl ?_); exact fin rfl) rfl rfl ?_ | refine dwg rfl rfl rfl rfl rfl (by (first | refine st_callF 0 (hN0) b22 rfl rfl rfl rfl rfl rfl (by (repeat' first | exact trivial | refine And.intro ?_ ?_ | rfl); first | done | fail) rfl ?_); exact fin rfl) rfl rfl rfl rfl rfl ?_ | refine dw_dec rfl rfl rfl (fun hg => ?_) (fun hg => ?_) | refine dw_ndec rfl rfl rfl (fun hg => ?_) (fun hg => ?_)
  refine CodeOk.wk (Wk.nilT 4 5 rfl rfl) (Nat.le_succ _) ?_
  refine nrm rfl rfl ?_
  generalize hK : snapsP b n s0 [] = K at *
  refine lpR (fun (s, l, i, f) => s.at_ ≤ b.length ∧ l.length + f ≤ 65536 ∧ i + f = n ∧ K = snapsP b f s l ∧ (∀ e ∈ l, e.red)) (fun (s, l, i, f) => f) (fun (s, l, i, f) => [(7, I i), (5, .lsl 2 4 0 (l.map rowN).length)]) (fun (s, l, i, f) => [(0, rcell b s), (2, .arr 4 (l.map rowN))]) ((s0, [], 0, n)) [0, 4, 6] [0] [1] rfl rfl rfl (.of [1] (by (repeat' first | exact trivial | refine And.intro ?_ ?_ | rfl); first | done | fail) (by (repeat' first | exact trivial | refine And.intro ?_ ?_ | rfl); first | done | fail) rfl) ?_ ?_
  · exact ⟨hle0.1, by simp; omega, by omega, hK.symm, fun e he => by cases he⟩
  rintro ⟨⟨q, bad⟩, l, i, f⟩ ⟨g1, g2, g3, g4, g5⟩
  refine nrm rfl rfl ?_
  rw [g4] at hgp
  have hm : (List.map rowN l).length = l.length := List.length_map _
  by_cases hex : f = 0 ∨ bad = true
  · have hsn : snapsP b f ⟨q, bad⟩ l = (l, ⟨q, bad⟩) := by
      rcases hex with rfl | rfl
      · rfl
      · exact snapsP_bad rfl
    rw [hsn] at hgp
    simp only [finP] at hgp
    cases bad
    · have hf0 : f = 0 := by simpa using hex
      subst hf0
      simp only [Bool.false_or, decide_eq_true_eq] at hgp
      by_cases hq : q < b.length
      · rw [if_pos hq] at hgp
        subst hgp
        repeat' first | refine wr (by omega) ?_ | refine ln ?_ | refine stp lay_ok rfl ?_ | refine fin ?_ | refine n_thn ?_ | refine n_blk ?_ | refine e_thn ?_ | refine e_hit ?_ | refine e_miss rfl ?_ | refine r_thn ?_ | refine r_blk ?_ | refine e_rr ?_ | refine r_rr ?_ | refine e_cr ?_ | refine r_cr ?_ | refine .seq ?_ | refine reg ?_ | refine .block ?_ | refine .skip ?_ | refine .ret ?_ | refine .exit ?_ | refine cndT rfl ?_ | refine cndF rfl ?_ | refine c_dec rfl (fun hc => ?_) (fun hc => ?_) | refine c_ndec rfl (fun hc => ?_) (fun hc => ?_) | refine cnd rfl (fun hc => ?_) (fun hc => ?_) | refine gd rfl rfl rfl (fun hg => ?_) (fun hg => ?_) | refine gn rfl rfl rfl (fun hg => ?_) (fun hg => ?_) | refine dwr (by omega) ?_ | refine dwl ?_ | refine dws lay_ok rfl rfl rfl rfl rfl rfl rfl ?_ | refine dwu lay_ok rfl rfl rfl rfl rfl rfl rfl rfl rfl ?_ | refine dw_end ?_ | refine dw_skip rfl rfl rfl ?_ | refine dwn lay_ok rfl rfl rfl rfl rfl ?_ | refine dw_dec rfl rfl rfl (fun hg => ?_) (fun hg => ?_) | refine dw_ndec rfl rfl rfl (fun hg => ?_) (fun hg => ?_)
        all_goals first
          | (exfalso; omega)
          | (exfalso; simp only at *; omega)
          | (refine f_r [] rfl trivial rfl ⟨?_, rfl⟩; rfl)
      · rw [if_neg hq] at hgp
        have hmy := refMay_ok l (by omega) (fun s hs => (g5 s hs).fit)
        cases hfb : fromB l <;> rw [hfb] at hmy hgp
        · simp only [Bool.false_eq_true, if_false] at hgp
          subst hgp
          repeat' first | refine o_frzA (f := 12) rfl rfl rfl rfl (by (repeat' first | exact trivial | refine And.intro ?_ ?_ | rfl); first | done | fail) (by (repeat' first | exact trivial | refine And.intro ?_ ?_ | rfl); first | done | fail) rfl rfl ?_ | refine wr (by omega) ?_ | refine ln ?_ | refine stp lay_ok rfl ?_ | refine fin ?_ | refine n_thn ?_ | refine n_blk ?_ | refine e_thn ?_ | refine e_hit ?_ | refine e_miss rfl ?_ | refine r_thn ?_ | refine r_blk ?_ | refine e_rr ?_ | refine r_rr ?_ | refine e_cr ?_ | refine r_cr ?_ | refine .seq ?_ | refine reg ?_ | refine .block ?_ | refine .skip ?_ | refine .ret ?_ | refine .exit ?_ | refine cndT rfl ?_ | refine cndF rfl ?_ | refine c_dec rfl (fun hc => ?_) (fun hc => ?_) | refine c_ndec rfl (fun hc => ?_) (fun hc => ?_) | refine cnd rfl (fun hc => ?_) (fun hc => ?_) | ((first | refine o_none rfl ?_ | refine o_none_ ?_ | refine o_yes rfl rfl rfl ?_ | refine o_yes_ rfl rfl ?_); first | refine st_pure (hmy) b12 rfl rfl rfl rfl ?_) | refine gd rfl rfl rfl (fun hg => ?_) (fun hg => ?_) | refine gn rfl rfl rfl (fun hg => ?_) (fun hg => ?_) | refine dwr (by omega) ?_ | refine dwl ?_ | refine dws lay_ok rfl rfl rfl rfl rfl rfl rfl ?_ | refine dwu lay_ok rfl rfl rfl rfl rfl rfl rfl rfl rfl ?_ | refine dw_end ?_ | refine dw_skip rfl rfl rfl ?_ | refine dwn lay_ok rfl rfl rfl rfl rfl ?_ | refine dwb rfl rfl rfl rfl rfl (by (first | refine st_pure (hmy) b12 rfl rfl rfl rfl ?_); exact fin rfl) rfl rfl ?_ | refine dwg rfl rfl rfl rfl rfl (by (first | refine st_pure (hmy) b12 rfl rfl rfl rfl ?_); exact fin rfl) rfl rfl rfl rfl rfl ?_ | refine dw_dec rfl rfl rfl (fun hg => ?_) (fun hg => ?_) | refine dw_ndec rfl rfl rfl (fun hg => ?_) (fun hg => ?_)
          all_goals first
            | (exfalso; omega)
            | (exfalso; simp only at *; omega)
            | (refine f_r [] rfl trivial rfl ⟨?_, rfl⟩; rfl)
        · simp only [if_true] at hgp
          subst hgp
          repeat' first | refine o_frzA (f := 12) rfl rfl rfl rfl (by (repeat' first | exact trivial | refine And.intro ?_ ?_ | rfl); first | done | fail) (by (repeat' first | exact trivial | refine And.intro ?_ ?_ | rfl); first | done | fail) rfl rfl ?_ | refine wr (by omega) ?_ | refine ln ?_ | refine stp lay_ok rfl ?_ | refine fin ?_ | refine n_thn ?_ | refine n_blk ?_ | refine e_thn ?_ | refine e_hit ?_ | refine e_miss rfl ?_ | refine r_thn ?_ | refine r_blk ?_ | refine e_rr ?_ | refine r_rr ?_ | refine e_cr ?_ | refine r_cr ?_ | refine .seq ?_ | refine reg ?_ | refine .block ?_ | refine .skip ?_ | refine .ret ?_ | refine .exit ?_ | refine cndT rfl ?_ | refine cndF rfl ?_ | refine c_dec rfl (fun hc => ?_) (fun hc => ?_) | refine c_ndec rfl (fun hc => ?_) (fun hc => ?_) | refine cnd rfl (fun hc => ?_) (fun hc => ?_) | ((first | refine o_none rfl ?_ | refine o_none_ ?_ | refine o_yes rfl rfl rfl ?_ | refine o_yes_ rfl rfl ?_); first | refine st_pure (hmy) b12 rfl rfl rfl rfl ?_) | refine gd rfl rfl rfl (fun hg => ?_) (fun hg => ?_) | refine gn rfl rfl rfl (fun hg => ?_) (fun hg => ?_) | refine dwr (by omega) ?_ | refine dwl ?_ | refine dws lay_ok rfl rfl rfl rfl rfl rfl rfl ?_ | refine dwu lay_ok rfl rfl rfl rfl rfl rfl rfl rfl rfl ?_ | refine dw_end ?_ | refine dw_skip rfl rfl rfl ?_ | refine dwn lay_ok rfl rfl rfl rfl rfl ?_ | refine dwb rfl rfl rfl rfl rfl (by (first | refine st_pure (hmy) b12 rfl rfl rfl rfl ?_); exact fin rfl) rfl rfl ?_ | refine dwg rfl rfl rfl rfl rfl (by (first | refine st_pure (hmy) b12 rfl rfl rfl rfl ?_); exact fin rfl) rfl rfl rfl rfl rfl ?_ | refine dw_dec rfl rfl rfl (fun hg => ?_) (fun hg => ?_) | refine dw_ndec rfl rfl rfl (fun hg => ?_) (fun hg => ?_)
          all_goals first
            | (exfalso; omega)
            | (exfalso; simp only at *; omega)
            | (refine f_r [] rfl trivial rfl ⟨?_, rfl⟩; rfl)
    · simp only [Bool.true_or, if_true] at hgp
      subst hgp
      repeat' first | refine wr (by omega) ?_ | refine ln ?_ | refine stp lay_ok rfl ?_ | refine fin ?_ | refine n_thn ?_ | refine n_blk ?_ | refine e_thn ?_ | refine e_hit ?_ | refine e_miss rfl ?_ | refine r_thn ?_ | refine r_blk ?_ | refine e_rr ?_ | refine r_rr ?_ | refine e_cr ?_ | refine r_cr ?_ | refine .seq ?_ | refine reg ?_ | refine .block ?_ | refine .skip ?_ | refine .ret ?_ | refine .exit ?_ | refine cndT rfl ?_ | refine cndF rfl ?_ | refine c_dec rfl (fun hc => ?_) (fun hc => ?_) | refine c_ndec rfl (fun hc => ?_) (fun hc => ?_) | refine cnd rfl (fun hc => ?_) (fun hc => ?_) | refine gd rfl rfl rfl (fun hg => ?_) (fun hg => ?_) | refine gn rfl rfl rfl (fun hg => ?_) (fun hg => ?_) | refine dwr (by omega) ?_ | refine dwl ?_ | refine dws lay_ok rfl rfl rfl rfl rfl rfl rfl ?_ | refine dwu lay_ok rfl rfl rfl rfl rfl rfl rfl rfl rfl ?_ | refine dw_end ?_ | refine dw_skip rfl rfl rfl ?_ | refine dwn lay_ok rfl rfl rfl rfl rfl ?_ | refine dw_dec rfl rfl rfl (fun hg => ?_) (fun hg => ?_) | refine dw_ndec rfl rfl rfl (fun hg => ?_) (fun hg => ?_)
      all_goals first
        | (exfalso; omega)
        | (refine f_r [] rfl trivial rfl ⟨?_, rfl⟩; rfl)
  have hbf : bad = false := by cases bad <;> simp_all
  subst hbf
  have hf0 : f ≠ 0 := fun h => hex (.inl h)
  obtain ⟨f', rfl⟩ : ∃ f', f = f' + 1 := ⟨f - 1, by omega⟩
  clear hex
  have hst : snapsP b (f' + 1) ⟨q, false⟩ l = snapsP b f' (snapP b ⟨q, false⟩).2 (l ++ [(snapP b ⟨q, false⟩).1]) := by rw [snapsP, if_neg (by simp)]
  rw [hst] at hgp g4
  clear hst
  have hsl := snapP_le (s := ⟨q, false⟩) g1
  have hsp : snapP b ⟨q, false⟩ = (⟨(numR b ⟨q, false⟩).1, (refT b (numR b ⟨q, false⟩).2).1, decide (((numM b (refT b (numR b ⟨q, false⟩).2).2 1).1 : Int) = 1), (entsP b (numR b (numM b (refT b (numR b ⟨q, false⟩).2).2 1).2).1 (numR b (numM b (refT b (numR b ⟨q, false⟩).2).2 1).2).2 []).1⟩, (entsP b (numR b (numM b (refT b (numR b ⟨q, false⟩).2).2 1).2).1 (numR b (numM b (refT b (numR b ⟨q, false⟩).2).2 1).2).2 []).2) := rfl
  generalize snapP b ⟨q, false⟩ = SP at *
  -- the snapshot's head
  have hN1 := refRNum_ok b ⟨q, false⟩ 65536 hb g1 (Nat.le_refl _)
  rw [numM_numR] at hN1
  have hle1 := numR_le (b := b) (s := ⟨q, false⟩) g1
  generalize numR b ⟨q, false⟩ = r1 at *
  obtain ⟨c, s1⟩ := r1
  simp only at *
  have hT1 := refRText_ok b s1 hb hle1.1
  have hle2 := refT_le hle1.1
  generalize refT b s1 = r2 at *
  obtain ⟨p, s2⟩ := r2
  simp only at *
  have hM1 := refRNum_ok b s2 1 hb hle2.1 (by decide)
  have hle3 := numM_le (most := 1) hle2.1
  generalize numM b s2 1 = r3 at *
  obtain ⟨d, s3⟩ := r3
  simp only at *
  have hN2 := refRNum_ok b s3 65536 hb hle3.1 (Nat.le_refl _)
  rw [numM_numR] at hN2
  have hle4 := numR_le (b := b) hle3.1
  generalize numR b s3 = r4 at *
  obtain ⟨m, s4⟩ := r4
  simp only at *
  generalize hz : decide ((d : Int) = 1) = z at *
  repeat' first | refine wr (by omega) ?_ | refine ln ?_ | refine stp lay_ok rfl ?_ | refine fin ?_ | refine n_thn ?_ | refine n_blk ?_ | refine e_thn ?_ | refine e_hit ?_ | refine e_miss rfl ?_ | refine r_thn ?_ | refine r_blk ?_ | refine e_rr ?_ | refine r_rr ?_ | refine e_cr ?_ | refine r_cr ?_ | refine .seq ?_ | refine reg ?_ | refine .block ?_ | refine .skip ?_ | refine .ret ?_ | refine .exit ?_ | refine cndT rfl ?_ | refine cndF rfl ?_ | refine c_dec rfl (fun hc => ?_) (fun hc => ?_) | refine c_ndec rfl (fun hc => ?_) (fun hc => ?_) | refine cnd rfl (fun hc => ?_) (fun hc => ?_) | ((first | refine o_none rfl ?_ | refine o_none_ ?_ | refine o_yes rfl rfl rfl ?_ | refine o_yes_ rfl rfl ?_); first | refine st_callF 0 (hN1) b22 rfl rfl rfl rfl rfl rfl (by (repeat' first | exact trivial | refine And.intro ?_ ?_ | rfl); first | done | fail) rfl ?_ | refine st_callF 0 (hT1) b23 rfl rfl rfl rfl rfl rfl (by (repeat' first | exact trivial | refine And.intro ?_ ?_ | rfl); first | done | fail) rfl ?_ | refine st_callF 0 (hM1) b22 rfl rfl rfl rfl rfl rfl (by (repeat' first | exact trivial | refine And.intro ?_ ?_ | rfl); first | done | fail) rfl ?_ | refine st_callF 0 (hN2) b22 rfl rfl rfl rfl rfl rfl (by (repeat' first | exact trivial | refine And.intro ?_ ?_ | rfl); first | done | fail) rfl ?_) | refine gd rfl rfl rfl (fun hg => ?_) (fun hg => ?_) | refine gn rfl rfl rfl (fun hg => ?_) (fun hg => ?_) | refine dwr (by omega) ?_ | refine dwl ?_ | refine dws lay_ok rfl rfl rfl rfl rfl rfl rfl ?_ | refine dwu lay_ok rfl rfl rfl rfl rfl rfl rfl rfl rfl ?_ | refine dw_end ?_ | refine dw_skip rfl rfl rfl ?_ | refine dwn lay_ok rfl rfl rfl rfl rfl ?_ | refine dwb rfl rfl rfl rfl rfl (by (first | refine st_callF 0 (hN1) b22 rfl rfl rfl rfl rfl rfl (by (repeat' first | exact trivial | refine And.intro ?_ ?_ | rfl); first | done | fail) rfl ?_ | refine st_callF 0 (hT1) b23 rfl rfl rfl rfl rfl rfl (by (repeat' first | exact trivial | refine And.intro ?_ ?_ | rfl); first | done | fail) rfl ?_ | refine st_callF 0 (hM1) b22 rfl rfl rfl rfl rfl rfl (by (repeat' first | exact trivial | refine And.intro ?_ ?_ | rfl); first | done | fail) rfl ?_ | refine st_callF 0 (hN2) b22 rfl rfl rfl rfl rfl rfl (by (repeat' first | exact trivial | refine And.intro ?_ ?_ | rfl); first | done | fail) rfl ?_); exact fin rfl) rfl rfl ?_ | refine dwg rfl rfl rfl rfl rfl (by (first | refine st_callF 0 (hN1) b22 rfl rfl rfl rfl rfl rfl (by (repeat' first | exact trivial | refine And.intro ?_ ?_ | rfl); first | done | fail) rfl ?_ | refine st_callF 0 (hT1) b23 rfl rfl rfl rfl rfl rfl (by (repeat' first | exact trivial | refine And.intro ?_ ?_ | rfl); first | done | fail) rfl ?_ | refine st_callF 0 (hM1) b22 rfl rfl rfl rfl rfl rfl (by (repeat' first | exact trivial | refine And.intro ?_ ?_ | rfl); first | done | fail) rfl ?_ | refine st_callF 0 (hN2) b22 rfl rfl rfl rfl rfl rfl (by (repeat' first | exact trivial | refine And.intro ?_ ?_ | rfl); first | done | fail) rfl ?_); exact fin rfl) rfl rfl rfl rfl rfl ?_ | refine dw_dec rfl rfl rfl (fun hg => ?_) (fun hg => ?_) | refine dw_ndec rfl rfl rfl (fun hg => ?_) (fun hg => ?_)
  all_goals first
    | (exfalso; omega)
    | skip
  rw [hz]
  clear hN0 hN1 hN2 hM1 hT1
  refine CodeOk.wk (Wk.nilC 3 3 3 rfl rfl rfl rfl rfl) (Nat.le_succ _) ?_
  refine nrm rfl rfl ?_
  generalize hM4 : entsP b m s4 [] = M4 at *
  refine lpR (fun (s, es, j, g) => s.at_ ≤ b.length ∧ es.length + g ≤ 65536 ∧ j + g = m ∧ M4 = entsP b g s es) (fun (s, es, j, g) => g) (fun (s, es, j, g) => [(11, I j)]) (fun (s, es, j, g) => [(0, rcell b s), (3, .cells [.st (.int .i64 (c : Int)), .st (.str p), .st (.bool z), .lsl 5 3 0 (es.map rowE).length]), (5, .arr 3 (es.map rowE))]) ((s4, [], 0, m)) [0, 4, 5, 6, 7, 8, 10] [0, 3] [4] rfl rfl rfl (.of [4] (by (repeat' first | exact trivial | refine And.intro ?_ ?_ | rfl); first | done | fail) (by (repeat' first | exact trivial | refine And.intro ?_ ?_ | rfl); first | done | fail) rfl) ?_ ?_
  · exact ⟨hle4.1, by simp; omega, by omega, hM4.symm⟩
  rintro ⟨⟨q2, bad⟩, es, j, g⟩ ⟨k1, k2, k3, k4⟩
  refine nrm rfl rfl ?_
  rw [k4] at hsp
  have hme : (List.map rowE es).length = es.length := List.length_map _
  by_cases hex : g = 0 ∨ bad = true
  · have hsn : entsP b g ⟨q2, bad⟩ es = (es, ⟨q2, bad⟩) := by
      rcases hex with rfl | rfl
      · rfl
      · exact entsP_bad rfl
    rw [hsn] at hsp
    simp only at hsp
    subst hsp
    simp only at hsl hgp
    have hr : List.map rowN l ++ [rowN ⟨c, p, z, es⟩] = List.map rowN (l ++ [⟨c, p, z, es⟩]) := by rw [List.map_append]; rfl
    cases bad
    all_goals
      repeat' first | refine wr (by omega) ?_ | refine ln ?_ | refine stp lay_ok rfl ?_ | refine fin ?_ | refine n_thn ?_ | refine n_blk ?_ | refine e_thn ?_ | refine e_hit ?_ | refine e_miss rfl ?_ | refine r_thn ?_ | refine r_blk ?_ | refine e_rr ?_ | refine r_rr ?_ | refine e_cr ?_ | refine r_cr ?_ | refine .seq ?_ | refine reg ?_ | refine .block ?_ | refine .skip ?_ | refine .ret ?_ | refine .exit ?_ | refine cndT rfl ?_ | refine cndF rfl ?_ | refine c_dec rfl (fun hc => ?_) (fun hc => ?_) | refine c_ndec rfl (fun hc => ?_) (fun hc => ?_) | refine cnd rfl (fun hc => ?_) (fun hc => ?_) | refine gd rfl rfl rfl (fun hg => ?_) (fun hg => ?_) | refine gn rfl rfl rfl (fun hg => ?_) (fun hg => ?_) | refine dwr (by omega) ?_ | refine dwl ?_ | refine dws lay_ok rfl rfl rfl rfl rfl rfl rfl ?_ | refine dwu lay_ok rfl rfl rfl rfl rfl rfl rfl rfl rfl ?_ | refine dw_end ?_ | refine dw_skip rfl rfl rfl ?_ | refine dwn lay_ok rfl rfl rfl rfl rfl ?_ | refine dw_dec rfl rfl rfl (fun hg => ?_) (fun hg => ?_) | refine dw_ndec rfl rfl rfl (fun hg => ?_) (fun hg => ?_)
      all_goals first
        | (exfalso; simp only [Bool.false_eq_true, or_false] at hex; omega)
        | skip
    all_goals
      refine OpsL.wk (Wk.frz 5 [ 92, 91, 0, 4, 5, 6, 7, 8] rfl rfl rfl (by (repeat' first | exact trivial | refine And.intro ?_ ?_ | rfl); first | done | fail) (by (repeat' first | exact trivial | refine And.intro ?_ ?_ | rfl); first | done | fail) rfl rfl) (Nat.le_refl _) ?_; refine nrmO rfl rfl ?_
      repeat' first | refine wr (by omega) ?_ | refine ln ?_ | refine stp lay_ok rfl ?_ | refine fin ?_ | refine n_thn ?_ | refine n_blk ?_ | refine e_thn ?_ | refine e_hit ?_ | refine e_miss rfl ?_ | refine r_thn ?_ | refine r_blk ?_ | refine e_rr ?_ | refine r_rr ?_ | refine e_cr ?_ | refine r_cr ?_ | refine .seq ?_ | refine reg ?_ | refine .block ?_ | refine .skip ?_ | refine .ret ?_ | refine .exit ?_ | refine cndT rfl ?_ | refine cndF rfl ?_ | refine c_dec rfl (fun hc => ?_) (fun hc => ?_) | refine c_ndec rfl (fun hc => ?_) (fun hc => ?_) | refine cnd rfl (fun hc => ?_) (fun hc => ?_) | ((first | refine o_none rfl ?_ | refine o_none_ ?_ | refine o_yes rfl rfl rfl ?_ | refine o_yes_ rfl rfl ?_); first | refine st_append lay_ok rfl rfl rfl rfl rfl rfl rfl rfl (.lsl rfl rfl) (.sl (rows := [rowN ⟨c, p, z, es⟩])) rfl (rowN_one (b := [⟨c, p, z, es⟩])) (by simp only [List.length_cons, List.length_nil]; omega) (by simp only [List.length_cons, List.length_nil]; omega) ?_) | refine gd rfl rfl rfl (fun hg => ?_) (fun hg => ?_) | refine gn rfl rfl rfl (fun hg => ?_) (fun hg => ?_) | refine dwr (by omega) ?_ | refine dwl ?_ | refine dws lay_ok rfl rfl rfl rfl rfl rfl rfl ?_ | refine dwu lay_ok rfl rfl rfl rfl rfl rfl rfl rfl rfl ?_ | refine dw_end ?_ | refine dw_skip rfl rfl rfl ?_ | refine dwn lay_ok rfl rfl rfl rfl rfl ?_ | refine dwb rfl rfl rfl rfl rfl (by (first | refine st_append lay_ok rfl rfl rfl rfl rfl rfl rfl rfl (.lsl rfl rfl) (.sl (rows := [rowN ⟨c, p, z, es⟩])) rfl (rowN_one (b := [⟨c, p, z, es⟩])) (by simp only [List.length_cons, List.length_nil]; omega) (by simp only [List.length_cons, List.length_nil]; omega) ?_); exact fin rfl) rfl rfl ?_ | refine dwg rfl rfl rfl rfl rfl (by (first | refine st_append lay_ok rfl rfl rfl rfl rfl rfl rfl rfl (.lsl rfl rfl) (.sl (rows := [rowN ⟨c, p, z, es⟩])) rfl (rowN_one (b := [⟨c, p, z, es⟩])) (by simp only [List.length_cons, List.length_nil]; omega) (by simp only [List.length_cons, List.length_nil]; omega) ?_); exact fin rfl) rfl rfl rfl rfl rfl ?_ | refine dw_dec rfl rfl rfl (fun hg => ?_) (fun hg => ?_) | refine dw_ndec rfl rfl rfl (fun hg => ?_) (fun hg => ?_)
      rw [hr]
      refine n_rr ((_, l ++ [⟨c, p, z, es⟩], i + 1, f')) ?_ (.of [6] (by (repeat' first | exact trivial | refine And.intro ?_ ?_ | rfl); first | done | fail) (by (repeat' first | exact trivial | refine And.intro ?_ ?_ | rfl); first | done | fail) rfl) ?_
      · exact Nat.lt_succ_self _
      · refine ⟨hsl.1, by show (l ++ [_]).length + f' ≤ 65536; rw [List.length_append, List.length_singleton]; omega, by show i + 1 + f' = n; omega, g4, fun e he => ?_⟩
        rcases List.mem_append.1 he with he | he
        · exact g5 e he
        · rw [List.mem_singleton] at he; subst he; exact hsl.2
  have hbf : bad = false := by cases bad <;> simp_all
  subst hbf
  have hg0 : g ≠ 0 := fun h => hex (.inl h)
  obtain ⟨g', rfl⟩ : ∃ g', g = g' + 1 := ⟨g - 1, by omega⟩
  clear hex
  have hst : entsP b (g' + 1) ⟨q2, false⟩ es = entsP b g' (entryP b ⟨q2, false⟩).2 (es ++ [(entryP b ⟨q2, false⟩).1]) := by rw [entsP, if_neg (by simp)]
  rw [hst] at hsp k4
  clear hst
  have hel := entryP_le (s := ⟨q2, false⟩) k1
  have hep : entryP b ⟨q2, false⟩ = (⟨(refT b ⟨q2, false⟩).1, (numR b (refT b ⟨q2, false⟩).2).1, (textsP b (numR b (numR b (refT b ⟨q2, false⟩).2).2).1 (numR b (numR b (refT b ⟨q2, false⟩).2).2).2 []).1⟩, (textsP b (numR b (numR b (refT b ⟨q2, false⟩).2).2).1 (numR b (numR b (refT b ⟨q2, false⟩).2).2).2 []).2) := rfl
  generalize entryP b ⟨q2, false⟩ = EP at *
  have hT1 := refRText_ok b ⟨q2, false⟩ hb k1
  have hle5 := refT_le (b := b) (s := ⟨q2, false⟩) k1
  generalize refT b ⟨q2, false⟩ = r5 at *
  obtain ⟨p', s5⟩ := r5
  simp only at *
  have hN1 := refRNum_ok b s5 65536 hb hle5.1 (Nat.le_refl _)
  rw [numM_numR] at hN1
  have hle6 := numR_le (b := b) hle5.1
  generalize numR b s5 = r6 at *
  obtain ⟨z', s6⟩ := r6
  simp only at *
  have hN2 := refRNum_ok b s6 65536 hb hle6.1 (Nat.le_refl _)
  rw [numM_numR] at hN2
  have hle7 := numR_le (b := b) hle6.1
  generalize numR b s6 = r7 at *
  obtain ⟨m', s7⟩ := r7
  simp only at *
  repeat' first | refine wr (by omega) ?_ | refine ln ?_ | refine stp lay_ok rfl ?_ | refine fin ?_ | refine n_thn ?_ | refine n_blk ?_ | refine e_thn ?_ | refine e_hit ?_ | refine e_miss rfl ?_ | refine r_thn ?_ | refine r_blk ?_ | refine e_rr ?_ | refine r_rr ?_ | refine e_cr ?_ | refine r_cr ?_ | refine .seq ?_ | refine reg ?_ | refine .block ?_ | refine .skip ?_ | refine .ret ?_ | refine .exit ?_ | refine cndT rfl ?_ | refine cndF rfl ?_ | refine c_dec rfl (fun hc => ?_) (fun hc => ?_) | refine c_ndec rfl (fun hc => ?_) (fun hc => ?_) | refine cnd rfl (fun hc => ?_) (fun hc => ?_) | ((first | refine o_none rfl ?_ | refine o_none_ ?_ | refine o_yes rfl rfl rfl ?_ | refine o_yes_ rfl rfl ?_); first | refine st_callF 0 (hT1) b23 rfl rfl rfl rfl rfl rfl (by (repeat' first | exact trivial | refine And.intro ?_ ?_ | rfl); first | done | fail) rfl ?_ | refine st_callF 0 (hN1) b22 rfl rfl rfl rfl rfl rfl (by (repeat' first | exact trivial | refine And.intro ?_ ?_ | rfl); first | done | fail) rfl ?_ | refine st_callF 0 (hN2) b22 rfl rfl rfl rfl rfl rfl (by (repeat' first | exact trivial | refine And.intro ?_ ?_ | rfl); first | done | fail) rfl ?_) | refine gd rfl rfl rfl (fun hg => ?_) (fun hg => ?_) | refine gn rfl rfl rfl (fun hg => ?_) (fun hg => ?_) | refine dwr (by omega) ?_ | refine dwl ?_ | refine dws lay_ok rfl rfl rfl rfl rfl rfl rfl ?_ | refine dwu lay_ok rfl rfl rfl rfl rfl rfl rfl rfl rfl ?_ | refine dw_end ?_ | refine dw_skip rfl rfl rfl ?_ | refine dwn lay_ok rfl rfl rfl rfl rfl ?_ | refine dwb rfl rfl rfl rfl rfl (by (first | refine st_callF 0 (hT1) b23 rfl rfl rfl rfl rfl rfl (by (repeat' first | exact trivial | refine And.intro ?_ ?_ | rfl); first | done | fail) rfl ?_ | refine st_callF 0 (hN1) b22 rfl rfl rfl rfl rfl rfl (by (repeat' first | exact trivial | refine And.intro ?_ ?_ | rfl); first | done | fail) rfl ?_ | refine st_callF 0 (hN2) b22 rfl rfl rfl rfl rfl rfl (by (repeat' first | exact trivial | refine And.intro ?_ ?_ | rfl); first | done | fail) rfl ?_); exact fin rfl) rfl rfl ?_ | refine dwg rfl rfl rfl rfl rfl (by (first | refine st_callF 0 (hT1) b23 rfl rfl rfl rfl rfl rfl (by (repeat' first | exact trivial | refine And.intro ?_ ?_ | rfl); first | done | fail) rfl ?_ | refine st_callF 0 (hN1) b22 rfl rfl rfl rfl rfl rfl (by (repeat' first | exact trivial | refine And.intro ?_ ?_ | rfl); first | done | fail) rfl ?_ | refine st_callF 0 (hN2) b22 rfl rfl rfl rfl rfl rfl (by (repeat' first | exact trivial | refine And.intro ?_ ?_ | rfl); first | done | fail) rfl ?_); exact fin rfl) rfl rfl rfl rfl rfl ?_ | refine dw_dec rfl rfl rfl (fun hg => ?_) (fun hg => ?_) | refine dw_ndec rfl rfl rfl (fun hg => ?_) (fun hg => ?_)
  all_goals first
    | (exfalso; omega)
    | skip
  clear hN1 hN2 hT1
  refine CodeOk.wk (Wk.nilC 1 6 2 rfl rfl rfl rfl rfl) (Nat.le_succ _) ?_
  refine nrm rfl rfl ?_
  generalize hL : textsP b m' s7 [] = L at *
  refine lpR (fun (s, ks, k, u) => s.at_ ≤ b.length ∧ ks.length + u ≤ 65536 ∧ k + u = m' ∧ L = textsP b u s ks) (fun (s, ks, k, u) => u) (fun (s, ks, k, u) => [(14, I k)]) (fun (s, ks, k, u) => [(0, rcell b s), (6, .cells [.st (.str p'), .st (.int .i64 (z' : Int)), .lsl 8 1 0 (ks.map rowS).length]), (8, .arr 1 (ks.map rowS))]) ((s7, [], 0, m')) [0, 4, 5, 6, 7, 8, 10, 11, 12, 13] [0, 6] [7] rfl rfl rfl (.of [7] (by (repeat' first | exact trivial | refine And.intro ?_ ?_ | rfl); first | done | fail) (by (repeat' first | exact trivial | refine And.intro ?_ ?_ | rfl); first | done | fail) rfl) ?_ ?_
  · exact ⟨hle7.1, by simp; omega, by omega, hL.symm⟩
  rintro ⟨⟨q3, bad⟩, ks, k, u⟩ ⟨j1, j2, j3, j4⟩
  refine nrm rfl rfl ?_
  have hmk : (List.map rowS ks).length = ks.length := List.length_map _
  by_cases hex : u = 0 ∨ bad = true
  · have hsn : textsP b u ⟨q3, bad⟩ ks = (ks, ⟨q3, bad⟩) := by
      rcases hex with rfl | rfl
      · rfl
      · exact textsP_bad rfl
    rw [hsn] at j4
    subst j4
    simp only at hep
    subst hep
    simp only at hel hsp k4
    have hr : List.map rowE es ++ [rowE ⟨p', z', ks⟩] = List.map rowE (es ++ [⟨p', z', ks⟩]) := by rw [List.map_append]; rfl
    cases bad
    all_goals
      repeat' first | refine wr (by omega) ?_ | refine ln ?_ | refine stp lay_ok rfl ?_ | refine fin ?_ | refine n_thn ?_ | refine n_blk ?_ | refine e_thn ?_ | refine e_hit ?_ | refine e_miss rfl ?_ | refine r_thn ?_ | refine r_blk ?_ | refine e_rr ?_ | refine r_rr ?_ | refine e_cr ?_ | refine r_cr ?_ | refine .seq ?_ | refine reg ?_ | refine .block ?_ | refine .skip ?_ | refine .ret ?_ | refine .exit ?_ | refine cndT rfl ?_ | refine cndF rfl ?_ | refine c_dec rfl (fun hc => ?_) (fun hc => ?_) | refine c_ndec rfl (fun hc => ?_) (fun hc => ?_) | refine cnd rfl (fun hc => ?_) (fun hc => ?_) | refine gd rfl rfl rfl (fun hg => ?_) (fun hg => ?_) | refine gn rfl rfl rfl (fun hg => ?_) (fun hg => ?_) | refine dwr (by omega) ?_ | refine dwl ?_ | refine dws lay_ok rfl rfl rfl rfl rfl rfl rfl ?_ | refine dwu lay_ok rfl rfl rfl rfl rfl rfl rfl rfl rfl ?_ | refine dw_end ?_ | refine dw_skip rfl rfl rfl ?_ | refine dwn lay_ok rfl rfl rfl rfl rfl ?_ | refine dw_dec rfl rfl rfl (fun hg => ?_) (fun hg => ?_) | refine dw_ndec rfl rfl rfl (fun hg => ?_) (fun hg => ?_)
      all_goals first
        | (exfalso; simp only [Bool.false_eq_true, or_false] at hex; omega)
        | skip
    all_goals
      refine OpsL.wk (Wk.frz 8 [ 87, 86, 85, 0, 4, 5, 6, 7, 8, 10, 11, 12] rfl rfl rfl (by (repeat' first | exact trivial | refine And.intro ?_ ?_ | rfl); first | done | fail) (by (repeat' first | exact trivial | refine And.intro ?_ ?_ | rfl); first | done | fail) rfl rfl) (Nat.le_refl _) ?_; refine nrmO rfl rfl ?_
      repeat' first | refine wr (by omega) ?_ | refine ln ?_ | refine stp lay_ok rfl ?_ | refine fin ?_ | refine n_thn ?_ | refine n_blk ?_ | refine e_thn ?_ | refine e_hit ?_ | refine e_miss rfl ?_ | refine r_thn ?_ | refine r_blk ?_ | refine e_rr ?_ | refine r_rr ?_ | refine e_cr ?_ | refine r_cr ?_ | refine .seq ?_ | refine reg ?_ | refine .block ?_ | refine .skip ?_ | refine .ret ?_ | refine .exit ?_ | refine cndT rfl ?_ | refine cndF rfl ?_ | refine c_dec rfl (fun hc => ?_) (fun hc => ?_) | refine c_ndec rfl (fun hc => ?_) (fun hc => ?_) | refine cnd rfl (fun hc => ?_) (fun hc => ?_) | ((first | refine o_none rfl ?_ | refine o_none_ ?_ | refine o_yes rfl rfl rfl ?_ | refine o_yes_ rfl rfl ?_); first | refine st_append lay_ok rfl rfl rfl rfl rfl rfl rfl rfl (.lsl rfl rfl) (.sl (rows := [rowE ⟨p', z', ks⟩])) rfl (rowE_one (b := [⟨p', z', ks⟩])) (by simp only [List.length_cons, List.length_nil]; omega) (by simp only [List.length_cons, List.length_nil]; omega) ?_) | refine gd rfl rfl rfl (fun hg => ?_) (fun hg => ?_) | refine gn rfl rfl rfl (fun hg => ?_) (fun hg => ?_) | refine dwr (by omega) ?_ | refine dwl ?_ | refine dws lay_ok rfl rfl rfl rfl rfl rfl rfl ?_ | refine dwu lay_ok rfl rfl rfl rfl rfl rfl rfl rfl rfl ?_ | refine dw_end ?_ | refine dw_skip rfl rfl rfl ?_ | refine dwn lay_ok rfl rfl rfl rfl rfl ?_ | refine dwb rfl rfl rfl rfl rfl (by (first | refine st_append lay_ok rfl rfl rfl rfl rfl rfl rfl rfl (.lsl rfl rfl) (.sl (rows := [rowE ⟨p', z', ks⟩])) rfl (rowE_one (b := [⟨p', z', ks⟩])) (by simp only [List.length_cons, List.length_nil]; omega) (by simp only [List.length_cons, List.length_nil]; omega) ?_); exact fin rfl) rfl rfl ?_ | refine dwg rfl rfl rfl rfl rfl (by (first | refine st_append lay_ok rfl rfl rfl rfl rfl rfl rfl rfl (.lsl rfl rfl) (.sl (rows := [rowE ⟨p', z', ks⟩])) rfl (rowE_one (b := [⟨p', z', ks⟩])) (by simp only [List.length_cons, List.length_nil]; omega) (by simp only [List.length_cons, List.length_nil]; omega) ?_); exact fin rfl) rfl rfl rfl rfl rfl ?_ | refine dw_dec rfl rfl rfl (fun hg => ?_) (fun hg => ?_) | refine dw_ndec rfl rfl rfl (fun hg => ?_) (fun hg => ?_)
      rw [hr]
      refine n_rr ((_, es ++ [⟨p', z', ks⟩], j + 1, g')) ?_ (.of [9] (by (repeat' first | exact trivial | refine And.intro ?_ ?_ | rfl); first | done | fail) (by (repeat' first | exact trivial | refine And.intro ?_ ?_ | rfl); first | done | fail) rfl) ?_
      · exact Nat.lt_succ_self _
      · refine ⟨hel.1, by show (es ++ [_]).length + g' ≤ 65536; rw [List.length_append, List.length_singleton]; omega, by show j + 1 + g' = m; omega, k4⟩
  have hbf : bad = false := by cases bad <;> simp_all
  subst hbf
  have hu0 : u ≠ 0 := fun h => hex (.inl h)
  obtain ⟨u', rfl⟩ : ∃ u', u = u' + 1 := ⟨u - 1, by omega⟩
  clear hex
  have hst : textsP b (u' + 1) ⟨q3, false⟩ ks = textsP b u' (refT b ⟨q3, false⟩).2 (ks ++ [(refT b ⟨q3, false⟩).1]) := by rw [textsP, if_neg (by simp)]
  rw [hst] at j4
  clear hst
  have hT := refRText_ok b ⟨q3, false⟩ hb j1
  have hle8 := refT_le (b := b) (s := ⟨q3, false⟩) j1
  generalize refT b ⟨q3, false⟩ = r8 at *
  obtain ⟨x, s8⟩ := r8
  simp only at *
  have hr : List.map rowS ks ++ [[SV.str x]] = List.map rowS (ks ++ [x]) := by rw [List.map_append]; rfl
  repeat' first | refine wr (by omega) ?_ | refine ln ?_ | refine stp lay_ok rfl ?_ | refine fin ?_ | refine n_thn ?_ | refine n_blk ?_ | refine e_thn ?_ | refine e_hit ?_ | refine e_miss rfl ?_ | refine r_thn ?_ | refine r_blk ?_ | refine e_rr ?_ | refine r_rr ?_ | refine e_cr ?_ | refine r_cr ?_ | refine .seq ?_ | refine reg ?_ | refine .block ?_ | refine .skip ?_ | refine .ret ?_ | refine .exit ?_ | refine cndT rfl ?_ | refine cndF rfl ?_ | refine c_dec rfl (fun hc => ?_) (fun hc => ?_) | refine c_ndec rfl (fun hc => ?_) (fun hc => ?_) | refine cnd rfl (fun hc => ?_) (fun hc => ?_) | refine gd rfl rfl rfl (fun hg => ?_) (fun hg => ?_) | refine gn rfl rfl rfl (fun hg => ?_) (fun hg => ?_) | refine dwr (by omega) ?_ | refine dwl ?_ | refine dws lay_ok rfl rfl rfl rfl rfl rfl rfl ?_ | refine dwu lay_ok rfl rfl rfl rfl rfl rfl rfl rfl rfl ?_ | refine dw_end ?_ | refine dw_skip rfl rfl rfl ?_ | refine dwn lay_ok rfl rfl rfl rfl rfl ?_ | refine dw_dec rfl rfl rfl (fun hg => ?_) (fun hg => ?_) | refine dw_ndec rfl rfl rfl (fun hg => ?_) (fun hg => ?_)
  all_goals first
    | (exfalso; omega)
    | skip
  refine dreg [(0, [], [80, 81, 82]), (1, [0], [80, 81, 82]), (2, [], [78, 79]), (3, [2], [78, 79]), (4, [2, 3], [78, 79]), (5, [0, 1, 2, 3, 4], []), (6, [0, 1, 2, 3, 4, 5], []), (7, [0, 1, 2, 3, 4, 5, 6], [])] mixed (by kernel_rfl) ?_
  repeat' first | refine wr (by omega) ?_ | refine ln ?_ | refine stp lay_ok rfl ?_ | refine fin ?_ | refine n_thn ?_ | refine n_blk ?_ | refine e_thn ?_ | refine e_hit ?_ | refine e_miss rfl ?_ | refine r_thn ?_ | refine r_blk ?_ | refine e_rr ?_ | refine r_rr ?_ | refine e_cr ?_ | refine r_cr ?_ | refine .seq ?_ | refine reg ?_ | refine .block ?_ | refine .skip ?_ | refine .ret ?_ | refine .exit ?_ | refine cndT rfl ?_ | refine cndF rfl ?_ | refine c_dec rfl (fun hc => ?_) (fun hc => ?_) | refine c_ndec rfl (fun hc => ?_) (fun hc => ?_) | refine cnd rfl (fun hc => ?_) (fun hc => ?_) | ((first | refine o_none rfl ?_ | refine o_none_ ?_ | refine o_yes rfl rfl rfl ?_ | refine o_yes_ rfl rfl ?_); first | refine st_callF 0 (hT) b23 rfl rfl rfl rfl rfl rfl (by (repeat' first | exact trivial | refine And.intro ?_ ?_ | rfl); first | done | fail) rfl ?_ | refine st_append lay_ok rfl rfl rfl rfl rfl rfl rfl rfl (.lsl rfl rfl) .sl rfl (rowS_one (b := [x])) (by simp only [List.length_cons, List.length_nil]; omega) (by simp only [List.length_cons, List.length_nil]; omega) ?_) | refine gd rfl rfl rfl (fun hg => ?_) (fun hg => ?_) | refine gn rfl rfl rfl (fun hg => ?_) (fun hg => ?_) | refine dwr (by omega) ?_ | refine dwl ?_ | refine dws lay_ok rfl rfl rfl rfl rfl rfl rfl ?_ | refine dwu lay_ok rfl rfl rfl rfl rfl rfl rfl rfl rfl ?_ | refine dw_end ?_ | refine dw_skip rfl rfl rfl ?_ | refine dwn lay_ok rfl rfl rfl rfl rfl ?_ | refine dwb rfl rfl rfl rfl rfl (by (first | refine st_callF 0 (hT) b23 rfl rfl rfl rfl rfl rfl (by (repeat' first | exact trivial | refine And.intro ?_ ?_ | rfl); first | done | fail) rfl ?_ | refine st_append lay_ok rfl rfl rfl rfl rfl rfl rfl rfl (.lsl rfl rfl) .sl rfl (rowS_one (b := [x])) (by simp only [List.length_cons, List.length_nil]; omega) (by simp only [List.length_cons, List.length_nil]; omega) ?_); exact fin rfl) rfl rfl ?_ | refine dwg rfl rfl rfl rfl rfl (by (first | refine st_callF 0 (hT) b23 rfl rfl rfl rfl rfl rfl (by (repeat' first | exact trivial | refine And.intro ?_ ?_ | rfl); first | done | fail) rfl ?_ | refine st_append lay_ok rfl rfl rfl rfl rfl rfl rfl rfl (.lsl rfl rfl) .sl rfl (rowS_one (b := [x])) (by simp only [List.length_cons, List.length_nil]; omega) (by simp only [List.length_cons, List.length_nil]; omega) ?_); exact fin rfl) rfl rfl rfl rfl rfl ?_ | refine dw_dec rfl rfl rfl (fun hg => ?_) (fun hg => ?_) | refine dw_ndec rfl rfl rfl (fun hg => ?_) (fun hg => ?_)
  rw [hr]
  refine n_rr ((s8, ks ++ [x], k + 1, u')) ?_ (.of [9] (by (repeat' first | exact trivial | refine And.intro ?_ ?_ | rfl); first | done | fail) (by (repeat' first | exact trivial | refine And.intro ?_ ?_ | rfl); first | done | fail) rfl) ?_
  · exact Nat.lt_succ_self _
  · exact ⟨hle8.1, by show (ks ++ [x]).length + u' ≤ 65536; rw [List.length_append, List.length_singleton]; omega, by show k + 1 + u' = m'; omega, j4⟩
end Go.Proofs.YtgjoloaajocafaaDoorFn
namespace Go.Proofs.YtgjoloaajocafaaDoorFn
open Go.Proofs.YtgjoloaajocafaaDoorAl Go.Proofs.Tryd
attribute [local irreducible] IntKind.wrap CodeOk OpsL OpG ACalls thn inBlk rndR cutR WkR Wk fnR DW ExtOk partsOf
theorem fromF_mem : ∀ (ahead l : List NV), fromF ahead l = true → ∀ s ∈ l, ∃ a, mayN a s = true
  | _, [], _, s, h => by cases h
  | ahead, x :: r, h, s, hm => by
    rw [fromF, Bool.and_eq_true] at h
    rcases List.mem_cons.1 hm with rfl | hm
    · exact ⟨_, h.1⟩
    · exact fromF_mem _ _ h.2 s hm
theorem snapsR_ok (b : List UInt8) (l0 : List NV) (h : getR b = some l0) : l0.length ≤ 65536 ∧ ∀ s ∈ l0, s.fit := by
  simp only [getR] at h
  split at h
  · cases h
  · split at h
    · cases h
      have h0 := numR_le (b := b) (s := ⟨0, false⟩) (Nat.zero_le _)
      have h1 := snapsR_le b (numR b ⟨0, false⟩).1 (numR b ⟨0, false⟩).2 [] h0.1 (fun e he => by cases he)
      refine ⟨?_, fun s hs => (h1.2.2 s hs).fit⟩
      have h2 := h1.2.1
      simp only [List.length_nil] at h2
      exact Nat.le_trans h2 (by omega)
    · cases h
theorem lawGets_ok (b : List UInt8) (hb : b.length ≤ 140737488351232) : ACalls prog 3 0 [Bs b] [] fun r h => r = B true ∧ h = [] := by
  have hlm : (List.map rowB b).length = b.length := List.length_map _
  refine fnC lay_ok func3 rfl rfl rfl rfl rfl ?_
  by_cases hx : 20000 < b.length
  · repeat' first | refine wr (by omega) ?_ | refine ln ?_ | refine stp lay_ok rfl ?_ | refine fin ?_ | refine n_thn ?_ | refine n_blk ?_ | refine e_thn ?_ | refine e_hit ?_ | refine e_miss rfl ?_ | refine r_thn ?_ | refine r_blk ?_ | refine e_rr ?_ | refine r_rr ?_ | refine e_cr ?_ | refine r_cr ?_ | refine .seq ?_ | refine reg ?_ | refine .block ?_ | refine .skip ?_ | refine .ret ?_ | refine .exit ?_ | refine cndT rfl ?_ | refine cndF rfl ?_ | refine c_dec rfl (fun hc => ?_) (fun hc => ?_) | refine c_ndec rfl (fun hc => ?_) (fun hc => ?_) | refine cnd rfl (fun hc => ?_) (fun hc => ?_) | ((first | refine o_none rfl ?_ | refine o_none_ ?_ | refine o_yes rfl rfl rfl ?_ | refine o_yes_ rfl rfl ?_); first | refine st_pure (up_ok) b6 rfl rfl rfl rfl ?_) | refine gd rfl rfl rfl (fun hg => ?_) (fun hg => ?_) | refine gn rfl rfl rfl (fun hg => ?_) (fun hg => ?_)
    all_goals first
      | (exfalso; omega)
      | (refine f_r [] rfl trivial rfl ⟨?_, rfl⟩; rfl)
  have hr := refGet10_ok b (by omega)
  rw [getP_eq] at hr
  cases hg : getR b with
  | none =>
    rw [hg] at hr
    have hi := get_no b (by omega) hg
    repeat' first | refine wr (by omega) ?_ | refine ln ?_ | refine stp lay_ok rfl ?_ | refine fin ?_ | refine n_thn ?_ | refine n_blk ?_ | refine e_thn ?_ | refine e_hit ?_ | refine e_miss rfl ?_ | refine r_thn ?_ | refine r_blk ?_ | refine e_rr ?_ | refine r_rr ?_ | refine e_cr ?_ | refine r_cr ?_ | refine .seq ?_ | refine reg ?_ | refine .block ?_ | refine .skip ?_ | refine .ret ?_ | refine .exit ?_ | refine cndT rfl ?_ | refine cndF rfl ?_ | refine c_dec rfl (fun hc => ?_) (fun hc => ?_) | refine c_ndec rfl (fun hc => ?_) (fun hc => ?_) | refine cnd rfl (fun hc => ?_) (fun hc => ?_) | ((first | refine o_none rfl ?_ | refine o_none_ ?_ | refine o_yes rfl rfl rfl ?_ | refine o_yes_ rfl rfl ?_); first | refine st_pure (up_ok) b6 rfl rfl rfl rfl ?_ | refine st_pure (hi) b7 rfl rfl rfl rfl ?_ | refine st_pure (hr) b8 rfl rfl rfl rfl ?_) | refine gd rfl rfl rfl (fun hg => ?_) (fun hg => ?_) | refine gn rfl rfl rfl (fun hg => ?_) (fun hg => ?_)
    all_goals first
      | (exfalso; omega)
      | (refine f_r [] rfl trivial rfl ⟨?_, rfl⟩; rfl)
  | some l0 =>
    rw [hg] at hr
    have hi := get_ok b l0 (by omega) hg
    have hf := snapsR_ok b l0 hg
    have hsn := snaps_ok l0 (by omega) hf.2
    have hsm := same9_ok l0 l0 (by omega) (by omega) hf.2 hf.2
    rw [decide_eq_true rfl] at hsm
    repeat' first | refine o_frb 0 [.sl 4 (l0.map rowN)] rfl rfl rfl (by (repeat' first | exact trivial | refine And.intro ?_ ?_ | rfl); first | done | fail) (by (repeat' first | exact trivial | refine And.intro ?_ ?_ | rfl); first | done | fail) rfl rfl ?_ | refine wr (by omega) ?_ | refine ln ?_ | refine stp lay_ok rfl ?_ | refine fin ?_ | refine n_thn ?_ | refine n_blk ?_ | refine e_thn ?_ | refine e_hit ?_ | refine e_miss rfl ?_ | refine r_thn ?_ | refine r_blk ?_ | refine e_rr ?_ | refine r_rr ?_ | refine e_cr ?_ | refine r_cr ?_ | refine .seq ?_ | refine reg ?_ | refine .block ?_ | refine .skip ?_ | refine .ret ?_ | refine .exit ?_ | refine cndT rfl ?_ | refine cndF rfl ?_ | refine c_dec rfl (fun hc => ?_) (fun hc => ?_) | refine c_ndec rfl (fun hc => ?_) (fun hc => ?_) | refine cnd rfl (fun hc => ?_) (fun hc => ?_) | ((first | refine o_none rfl ?_ | refine o_none_ ?_ | refine o_yes rfl rfl rfl ?_ | refine o_yes_ rfl rfl ?_); first | refine st_pure (up_ok) b6 rfl rfl rfl rfl ?_ | refine st_callF 1 (hi) b7 rfl rfl rfl rfl rfl rfl (by (repeat' first | exact trivial | refine And.intro ?_ ?_ | rfl); first | done | fail) rfl ?_ | refine st_pure (hr) b8 rfl rfl rfl rfl ?_ | refine st_pure (hsn) b10 rfl rfl rfl rfl ?_ | refine st_pure (hsm) b9 rfl rfl rfl rfl ?_) | refine gd rfl rfl rfl (fun hg => ?_) (fun hg => ?_) | refine gn rfl rfl rfl (fun hg => ?_) (fun hg => ?_)
    all_goals first
      | (exfalso; omega)
      | (refine f_r [] rfl trivial rfl ⟨?_, rfl⟩; rfl)
end Go.Proofs.YtgjoloaajocafaaDoorFn
namespace Go.Proofs.YtgjoloaajocafaaDoorFn
open Go.Proofs.YtgjoloaajocafaaDoorAl Go.Proofs.Tryd Go.ChangeAt Go.RowKit
/-! ### what arguments of the laws' types read as -/
abbrev ΦI (xs : List SV) : Prop := ∃ n, xs = [.int .i64 n] ∧ (Lit.int .i64 n).wf = true
theorem rdI : Rd prog 3 ΦI := rd_int underlying3
abbrev ΦU8 (xs : List SV) : Prop := ∃ n, xs = [.int .u8 n] ∧ (Lit.int .u8 n).wf = true
theorem rdU8 : Rd prog 5 ΦU8 := rd_int underlying5
abbrev ΦB (xs : List SV) : Prop := ∃ b, xs = [.bool b]
theorem rdB : Rd prog 4 ΦB := rd_bool underlying4
abbrev ΦS (xs : List SV) : Prop := ∃ s : ByteArray, xs = [.str s] ∧ s.size ≤ reachBytes
theorem rdS : Rd prog 9 ΦS := rd_str underlying9
abbrev ΦL (sz bytes : Nat) (Φ : List SV → Prop) (xs : List SV) : Prop := ∃ rows, xs = [.sl sz rows] ∧ (∀ row ∈ rows, Φ row) ∧ rows.length * bytes ≤ reachBytes
theorem rdLB : Rd prog 22 (ΦL 1 1 ΦU8) := rd_slice underlying22 (by kernel_rfl) (by kernel_rfl) rfl rdU8
theorem rdLS : Rd prog 40 (ΦL 1 16 ΦS) := rd_slice underlying40 (by kernel_rfl) (by kernel_rfl) rfl rdS
theorem cI : prog.cellsOf 3 = 1 := by kernel_rfl
theorem cB : prog.cellsOf 4 = 1 := by kernel_rfl
theorem cS : prog.cellsOf 9 = 1 := by kernel_rfl
theorem cLS : prog.cellsOf 40 = 1 := by kernel_rfl
theorem cE : prog.cellsOf 64 = 3 := by kernel_rfl
theorem cLE : prog.cellsOf 53 = 1 := by kernel_rfl
theorem cN : prog.cellsOf 55 = 4 := by kernel_rfl
abbrev ΦE : List SV → Prop := Pieces [ΦS, ΦI, ΦL 1 16 ΦS]
theorem rdE : Rd prog 64 ΦE := rd_struct underlying64 ⟨rfl, rdS, by rw [cS], rdI, by rw [cI, cS], rdLS, by rw [cE, cI, cS, cLS]; rfl⟩
theorem rdLE : Rd prog 53 (ΦL 3 48 ΦE) := rd_slice underlying53 (by kernel_rfl) (by kernel_rfl) rfl rdE
abbrev ΦN : List SV → Prop := Pieces [ΦI, ΦS, ΦB, ΦL 3 48 ΦE]
theorem rdN : Rd prog 55 ΦN := rd_struct underlying55 ⟨rfl, rdI, by rw [cI], rdS, by rw [cI, cS], rdB, by rw [cI, cS, cB], rdLE, by rw [cN, cI, cS, cB, cLE]; rfl⟩
theorem rdLN : Rd prog 29 (ΦL 4 56 ΦN) := rd_slice underlying29 (by kernel_rfl) (by kernel_rfl) rfl rdN
/-- What is true of whatever a reader of memory brings: sizes that memory has room for. -/
def EV.inMem (e : EV) : Prop := e.path.size ≤ reachBytes ∧ e.keys.length * 16 ≤ reachBytes ∧ ∀ k ∈ e.keys, k.size ≤ reachBytes
def NV.inMem (s : NV) : Prop := s.name.size ≤ reachBytes ∧ s.entries.length * 48 ≤ reachBytes ∧ ∀ e ∈ s.entries, e.inMem
theorem ofB {rows : List (List SV)} (h : ∀ row ∈ rows, ΦU8 row) : ∃ l : List UInt8, rows = l.map rowB := by
  obtain ⟨l, e, _⟩ := rows_map (f := rowB) (Ok := fun _ => True) (rows := rows) (fun row hm => by
    obtain ⟨n, rfl, hw⟩ := h row hm
    refine ⟨UInt8.ofNat n.toNat, ?_, trivial⟩
    have : 0 ≤ n ∧ n ≤ 255 := by simpa [Lit.wf, IntKind.min, IntKind.max, IntKind.signed, IntKind.bits] using hw
    simp only [rowB, UInt8.toNat_ofNat']
    congr 2; omega)
  exact ⟨l, e⟩
theorem ofSs {rows : List (List SV)} (h : ∀ row ∈ rows, ΦS row) : ∃ l : List ByteArray, rows = l.map rowS ∧ ∀ s ∈ l, s.size ≤ reachBytes :=
  rows_map (f := rowS) (Ok := fun s => s.size ≤ reachBytes) h
theorem ofE {xs : List SV} (h : ΦE xs) : ∃ e : EV, xs = rowE e ∧ e.inMem := by
  obtain ⟨_, _, rfl, ⟨p, rfl, hp⟩, _, _, rfl, ⟨z, rfl, _⟩, _, _, rfl, ⟨rows, rfl, hr, hl⟩, rfl⟩ := h
  obtain ⟨l, rfl, hs⟩ := ofSs hr
  exact ⟨⟨p, z, l⟩, rfl, hp, by simpa using hl, hs⟩
theorem ofN {xs : List SV} (h : ΦN xs) : ∃ s : NV, xs = rowN s ∧ s.inMem := by
  obtain ⟨_, _, rfl, ⟨c, rfl, _⟩, _, _, rfl, ⟨n, rfl, hn⟩, _, _, rfl, ⟨b, rfl⟩, _, _, rfl, ⟨rows, rfl, hr, hl⟩, rfl⟩ := h
  obtain ⟨l, rfl, hs⟩ := rows_map (f := rowE) (Ok := EV.inMem) (fun row hm => ofE (hr row hm))
  exact ⟨⟨c, n, b, l⟩, rfl, hn, by simpa using hl, hs⟩
end Go.Proofs.YtgjoloaajocafaaDoorFn
namespace Go.Proofs.YtgjoloaajocafaaDoor
open Go.Proofs.YtgjoloaajocafaaDoorAl Go.ChangeAt Go.RowKit
open Go.Proofs.YtgjoloaajocafaaDoorFn
theorem own : ownKnob Tryd.prog.godebug = none := by kernel_rfl
theorem laidOut : laidOutB Tryd.prog = true := by kernel_rfl
def pars : List Par := [⟨22, false, ΦL 1 1 ΦU8⟩]
theorem pars_ok : ParsOk Tryd.prog pars :=
  ⟨rdLB, ⟨_, Tryd.underlying22, rfl⟩, by kernel_rfl, of_decide_eq_true (by kernel_rfl), trivial⟩
theorem law_ok : LawOk Tryd.prog 3 pars := by
  rintro svs ⟨_, _, rfl, ⟨r0, h0, hr0, hl0⟩, rfl⟩
  cases h0
  obtain ⟨x0, rfl⟩ := ofB hr0
  simp only [List.length_map] at hl0
  have hreach : reachBytes ≤ 140737488351232 := by decide
  exact lawGets_ok x0 (by omega)
set_option maxRecDepth 100000 in
theorem law_lift (os : Os) (started : os.Started) (H : Type) (enc : TypeId × Value → H) :
    ReturnsInHanded {} Tryd.checked os 3 .any (fun w args => (Rows.imageGetsSpec.pre enc Tryd.prog Tryd.f3 [] false w args ∧ laidMetH Tryd.prog Rows.imageGetsRow.laid w) ∧ sizedMet enc Tryd.prog Tryd.f3 (OpenSpec.ofChange Rows.imageGetsSpec) false w args) (Rows.imageGetsSpec.post enc Tryd.prog Tryd.f3 false true false false) :=
  law_liftedL (C := Tryd.checked) (ps := pars) own started (by kernel_rfl) Tryd.func3
    (ChangeSpec.witness_shaped (enc := enc) (C := Tryd.checked) (os := os) (X := fun w _ => laidMetH Tryd.prog Rows.imageGetsRow.laid w) false (World.laidAll Tryd.prog os Rows.imageGetsRow.laid) #[.slice none 0 0] 8 (World.laidAll_os _ _ _)
      (World.shaped_of_ZipB (by kernel_rfl) (by kernel_rfl)) (by kernel_rfl) (by kernel_rfl) (by kernel_rfl)
      (by rw [MakeChecks.laidMetH_plain _ _ _ (by kernel_rfl)]; exact laidMet_laidAll _ (by kernel_rfl) (by kernel_rfl)))
    laidOut rfl rfl Tryd.underlying4 rfl
    (fun ds hds => by
      match ds, hds with
      | [_], _ => rfl) pars_ok law_ok
theorem law_over : Rows.imageGetsRow.holds Tryd.pinned (OpenSpec.ofChange Rows.imageGetsSpec) :=
  OpenClaim.holds_of_wide 3 Tryd.f3 rfl rfl rfl rfl rfl rfl rfl ⟨rfl, rfl, rfl, rfl, rfl⟩ rfl rfl rfl rfl rfl (by kernel_rfl) Tryd.func3 (by kernel_rfl)
    (of_decide_eq_true (by kernel_rfl)) (by unfold Func.isWrapper; first | (rw [if_pos (by decide +kernel)]; kernel_rfl) | (rw [if_neg (by decide +kernel)]; exact ⟨rfl, rfl⟩))
    (fun os started H enc _ => law_lift os started H enc)
theorem ImageGets_holds : Rows.ImageGetsCardSaid :=
  Claim7.holds_tied_plain_at .later [] [.data, .pinned] true Rows.imageGetsCard.stood.harness Rows.imageGetsCard.stood.looks law_over (fun _ h => by cases h) (by kernel_rfl) (fun _ h => by cases h) imageGets_row_tie rfl ⟨rfl, rfl⟩ (by kernel_rfl) rfl
    (fun f fn hf hfn => by
      obtain rfl : f = 3 := Option.some.inj ((show Tryd.prog.funcNamed "becket/becketlaw10.ImageGets" = some 3 by kernel_rfl).symm.trans hf) |>.symm
      obtain rfl : fn = Tryd.f3 := (Option.some.inj (Tryd.func3.symm.trans hfn)).symm
      exact ⟨by kernel_rfl, fun j t ht => by
        have hm : t ∈ ([22] : List Nat) := by
          have e := Array.mem_of_getElem? ht
          rw [Tryd.params3] at e
          simpa using e
        have hall : (([22] : List Nat).all fun u => !Tryd.prog.wantsStandIn u) = true := by kernel_rfl
        exact (show Tryd.prog.wantsStandIn t = false by simpa using List.all_eq_true.1 hall t hm)⟩)
    (by kernel_rfl)
#print axioms ImageGets_holds
end Go.Proofs.YtgjoloaajocafaaDoor
