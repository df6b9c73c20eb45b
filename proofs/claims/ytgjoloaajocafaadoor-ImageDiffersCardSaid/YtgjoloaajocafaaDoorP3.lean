/- The law ImageDiffers: for every input it says true: The clients whose parts differ, of any two catalogs. No condition. -/
import Derived.Test.YtgjoloaajocafaaDoorP2
import Derived.Test.YtgjoloaajocafaaDoorAlZn
import Derived.KernelRfl
import Derived.Test.YtgjoloaajocafaaDoorRows
import Derived.Test.YtgjoloaajocafaaDoorTie
import Derived.Test.YtgjoloaajocafaaDoorCards
set_option linter.all false
namespace Go.Proofs.YtgjoloaajocafaaDoorFn
open Go.Proofs.YtgjoloaajocafaaDoorAl Go.Proofs.Tryd
attribute [local irreducible] IntKind.wrap CodeOk OpsL OpG ACalls thn inBlk rndR cutR WkR Wk fnR DW ExtOk partsOf
theorem b12 : HasBody prog 12 := ⟨f12, func12, Option.some_ne_none _, by decide⟩
/-! ### a part has no slash -/
theorem dec_slash (s : ByteArray) (p j : Nat) (hm : mayR (Utf8.decode s p).1 = true) (hj : j < (Utf8.decode s p).2) (hlt : p + j < s.size) : (s.get! (p + j)).toNat ≠ 47 := by
  have hd := dec_eq s p
  have hmn : mayR 65533 = false := by decide
  generalize Utf8.decode s p = D at *
  have h123 : j = 0 ∨ j = 1 ∨ j = 2 ∨ j = 3 ∨ 4 ≤ j := by omega
  split at hd
  · subst hd
    rename_i h
    simp only at hm hj
    have : j = 0 := by omega
    subst this
    rw [mayR_lo h] at hm
    simp only [plainB, Bool.or_eq_true, decide_eq_true_eq] at hm
    rw [Nat.add_zero]; omega
  rename_i h0
  have hfirst : (s.get! (p + 0)).toNat ≠ 47 := by rw [Nat.add_zero]; omega
  split at hd
  · rename_i h1
    split at hd
    · subst hd; simp only at hj
      rcases h123 with rfl | rfl | rfl | rfl | h <;> first | exact hfirst | omega
    · subst hd; simp only at hm; rw [hmn] at hm; cases hm
  split at hd
  · rename_i h1
    split at hd
    · subst hd; simp only at hj
      rcases h123 with rfl | rfl | rfl | rfl | h <;> first | exact hfirst | omega
    · subst hd; simp only at hm; rw [hmn] at hm; cases hm
  split at hd
  · rename_i h1
    split at hd
    · subst hd; simp only at hj
      rcases h123 with rfl | rfl | rfl | rfl | h <;> first | exact hfirst | omega
    · subst hd; simp only at hm; rw [hmn] at hm; cases hm
  · subst hd; simp only at hm; rw [hmn] at hm; cases hm
theorem runs_slash (s : ByteArray) : ∀ (f p n : Nat), s.size < p + f → runs s f p = some n → ∀ j, p ≤ j → j < s.size → (s.get! j).toNat ≠ 47
  | 0, p, n, hf, _, j, h1, h2 => by omega
  | f + 1, p, n, hf, h, j, h1, h2 => by
    rw [runs, if_pos (by omega)] at h
    split at h
    · rename_i hm
      cases hr : runs s f (p + (Utf8.decode s p).2) with
      | none => rw [hr] at h; cases h
      | some n' =>
        have hw := decode_pos s p
        by_cases hj : j < p + (Utf8.decode s p).2
        · have := dec_slash s p (j - p) hm (by omega) (by omega)
          rwa [show p + (j - p) = j by omega] at this
        · exact runs_slash s f _ n' (by omega) hr j (by omega) h2
    · cases h
theorem slAt_iff (s : ByteArray) : slAt s < 0 ↔ ∀ j : Nat, j < s.size → (s.get! j).toNat ≠ 47 := by
  constructor
  · intro h j hj e
    have h1 := (idx_neg h).2
    rw [List.count_eq_zero] at h1
    apply h1
    have h2 := get_some hj
    rw [← data_get] at h2
    have : s.get! j = 47 := UInt8.toNat.inj (by rw [e]; rfl)
    rw [this] at h2
    exact List.mem_of_getElem? h2
  · intro h
    rcases Int.lt_or_le (slAt s) 0 with h0 | h0
    · exact h0
    · exfalso
      obtain ⟨m, hm⟩ : ∃ m : Nat, slAt s = m := ⟨(slAt s).toNat, by omega⟩
      have h3 : 0 < s.data.toList.count 47 := by have := (idx_pos hm).2.2; omega
      have h4 := List.count_pos_iff.1 h3
      obtain ⟨j, hj⟩ := List.mem_iff_getElem?.1 h4
      rw [data_get] at hj
      have hjs : j < s.size := by
        rcases Nat.lt_or_ge j s.size with g | g
        · exact g
        · rw [getElem?_neg s j (by omega)] at hj; cases hj
      rw [get_some hjs] at hj
      exact h j hjs (by rw [Option.some.inj hj]; rfl)
theorem nameOk_part (s : ByteArray) : nameOk s = partOk s := by
  unfold nameOk
  rcases Int.lt_or_le (slAt s) 0 with h0 | h0
  · rw [decide_eq_false (by omega), Bool.not_false, Bool.and_true]
    unfold pathOk
    rw [parts_neg h0]
    simp
  · rw [decide_eq_true (by omega), Bool.not_true, Bool.and_false]
    symm
    cases hp : partOk s with
    | false => rfl
    | true =>
      exfalso
      unfold partOk at hp
      cases hr : runs s (s.size + 1) 0 with
      | none => rw [hr] at hp; cases hp
      | some n =>
        have h1 := runs_slash s (s.size + 1) 0 n (by omega) hr
        have h2 := (slAt_iff s).2 (fun j hj => h1 j (Nat.zero_le _) hj)
        omega
theorem entryC_pos {l : List EV} {i : Nat} {e : EV} {n : Int} (h : entryC l i e = some n) : n = 1 ∨ n = 2 ∨ n = 4 := by
  rw [entryC_eq] at h
  split at h
  · split at h
    · have := Option.some.inj h; omega
    · split at h
      · cases h
      · have := Option.some.inj h; omega
  · have := Option.some.inj h; omega
theorem badFrom_pos (l : List EV) : ∀ (f i j : Nat) (n : Int), badFrom l f i = some (j, n) → n = 1 ∨ n = 2 ∨ n = 4
  | 0, _, _, _, h => by cases h
  | f + 1, i, j, n, h => by
    rw [badFrom] at h
    split at h
    · cases h
    · split at h
      · rename_i n' e
        simp only [Option.some.injEq, Prod.mk.injEq] at h
        rw [← h.2]; exact entryC_pos e
      · exact badFrom_pos l f (i + 1) j n h
theorem treeOk_check (l : List EV) : treeOk l = decide ((checkP l).1 = 0) := by
  unfold treeOk checkP
  by_cases h : 32 < l.length
  · rw [if_pos h, decide_eq_false (by omega)]; rfl
  · rw [if_neg h, decide_eq_true (by omega), Bool.true_and]
    cases hb : badFrom l l.length 0 with
    | none => rfl
    | some x =>
      obtain ⟨i, n⟩ := x
      have := badFrom_pos l _ _ _ _ hb
      simp; omega
theorem any_take {α : Type} {p : α → Bool} {l : List α} {k : Nat} (h : k < l.length) : (l.take (k + 1)).any p = ((l.take k).any p || p l[k]) := by
  rw [List.take_succ_eq_append_getElem h, List.any_append]; simp only [List.any_cons, List.any_nil, Bool.or_false]
theorem any_at {α : Type} {p : α → Bool} {l : List α} {k : Nat} (h : k < l.length) (hp : p l[k] = true) : l.any p = true :=
  List.any_eq_true.2 ⟨_, List.getElem_mem h, hp⟩
set_option maxHeartbeats 8000000 in
set_option maxRecDepth 4000 in
theorem refMay_ok (l : List NV) (hl : l.length ≤ 4000000000) (hk : ∀ s ∈ l, s.fit) : ACalls prog 12 0 [.st (.sl 4 (l.map rowN))] [] fun r h => r = B (fromB l) ∧ h = [] := by
  have hm : (List.map rowN l).length = l.length := List.length_map _
  have hW0 : fromB l = fromF (l.take 0) (l.drop 0) := rfl
  generalize fromB l = W at *
  refine fnC lay_ok func12 rfl rfl rfl rfl rfl ?_
  repeat' first | refine wr (by omega) ?_ | refine ln ?_ | refine stp lay_ok rfl ?_ | refine fin ?_ | refine n_thn ?_ | refine n_blk ?_ | refine e_thn ?_ | refine e_hit ?_ | refine e_miss rfl ?_ | refine r_thn ?_ | refine r_blk ?_ | refine e_rr ?_ | refine r_rr ?_ | refine e_cr ?_ | refine r_cr ?_ | refine .seq ?_ | refine reg ?_ | refine .block ?_ | refine .skip ?_ | refine .ret ?_ | refine .exit ?_ | refine cndT rfl ?_ | refine cndF rfl ?_ | refine c_dec rfl (fun hc => ?_) (fun hc => ?_) | refine c_ndec rfl (fun hc => ?_) (fun hc => ?_) | refine cnd rfl (fun hc => ?_) (fun hc => ?_) | refine gd rfl rfl rfl (fun hg => ?_) (fun hg => ?_) | refine gn rfl rfl rfl (fun hg => ?_) (fun hg => ?_) | refine dwr (by omega) ?_ | refine dwl ?_ | refine dws lay_ok rfl rfl rfl rfl rfl rfl rfl ?_ | refine dwu lay_ok rfl rfl rfl rfl rfl rfl rfl rfl rfl ?_ | refine dw_end ?_ | refine dw_skip rfl rfl rfl ?_ | refine dwn lay_ok rfl rfl rfl rfl rfl ?_ | refine dw_dec rfl rfl rfl (fun hg => ?_) (fun hg => ?_) | refine dw_ndec rfl rfl rfl (fun hg => ?_) (fun hg => ?_)
  refine lpR (fun k => k ≤ l.length ∧ W = fromF (l.take k) (l.drop k)) (fun k => l.length - k) (fun k => [(3, I k)]) (fun k => []) (0) [0] [] [] rfl rfl rfl (.of [] (by (repeat' first | exact trivial | refine And.intro ?_ ?_ | rfl); first | done | fail) (by (repeat' first | exact trivial | refine And.intro ?_ ?_ | rfl); first | done | fail) rfl) ?_ ?_
  · exact ⟨Nat.zero_le _, hW0⟩
  rintro i ⟨h1, h2⟩
  refine nrm rfl rfl ?_
  by_cases hi : i < l.length
  case neg =>
    have : i = l.length := by omega
    subst this
    rw [List.drop_length] at h2
    repeat' first | refine wr (by omega) ?_ | refine ln ?_ | refine stp lay_ok rfl ?_ | refine fin ?_ | refine n_thn ?_ | refine n_blk ?_ | refine e_thn ?_ | refine e_hit ?_ | refine e_miss rfl ?_ | refine r_thn ?_ | refine r_blk ?_ | refine e_rr ?_ | refine r_rr ?_ | refine e_cr ?_ | refine r_cr ?_ | refine .seq ?_ | refine reg ?_ | refine .block ?_ | refine .skip ?_ | refine .ret ?_ | refine .exit ?_ | refine cndT rfl ?_ | refine cndF rfl ?_ | refine c_dec rfl (fun hc => ?_) (fun hc => ?_) | refine c_ndec rfl (fun hc => ?_) (fun hc => ?_) | refine cnd rfl (fun hc => ?_) (fun hc => ?_) | refine gd rfl rfl rfl (fun hg => ?_) (fun hg => ?_) | refine gn rfl rfl rfl (fun hg => ?_) (fun hg => ?_) | refine dwr (by omega) ?_ | refine dwl ?_ | refine dws lay_ok rfl rfl rfl rfl rfl rfl rfl ?_ | refine dwu lay_ok rfl rfl rfl rfl rfl rfl rfl rfl rfl ?_ | refine dw_end ?_ | refine dw_skip rfl rfl rfl ?_ | refine dwn lay_ok rfl rfl rfl rfl rfl ?_ | refine dw_dec rfl rfl rfl (fun hg => ?_) (fun hg => ?_) | refine dw_ndec rfl rfl rfl (fun hg => ?_) (fun hg => ?_)
    · exfalso; omega
    · refine f_r [] rfl trivial rfl ⟨?_, rfl⟩
      rw [h2]; rfl
  have hat : (l.map rowN)[((i : Nat) : Int).toNat]? = some (rowN l[i]) := by simp [hi]
  have hf := hk _ (List.getElem_mem hi)
  rw [fromF_step hi] at h2
  have hMd : mayN (l.take i) l[i] = (decide (0 ≤ l[i].client ∧ l[i].client < 8) && decide (many l[i].client (l.take i) < 8) && nameOk l[i].name && !((l.take i).any fun x => decide (x.client = l[i].client) && decide (x.name = l[i].name)) && treeOk l[i].entries && !(l[i].entries.any fun e => decide (e.keys.length > 16))) := rfl
  rw [nameOk_part, treeOk_check] at hMd
  have hpart := refPart_ok l[i].name (by have := hf.1; omega)
  have hchk := refCheck_ok l[i].entries hf.2.1 (fun e he => (hf.2.2 e he).1) (fun e he => (hf.2.2 e he).2)
  have hjr : ∀ j (hj : j < i), (l.map rowN)[((j : Nat) : Int).toNat]? = some (rowN (l[j]'(by omega))) := fun j hj => by simp [show j < l.length by omega]
  generalize mayN (l.take i) l[i] = M at *
  generalize l[i] = s at *
  obtain ⟨c, n, d, es⟩ := s
  simp only at *
  generalize (checkP es).1 = ck at *
  generalize (checkP es).2 = cp at *
  have hme : (List.map rowE es).length = es.length := List.length_map _
  have hle : es.length ≤ 4000000000 := hf.2.1
  repeat' first | refine wr (by omega) ?_ | refine ln ?_ | refine stp lay_ok rfl ?_ | refine fin ?_ | refine n_thn ?_ | refine n_blk ?_ | refine e_thn ?_ | refine e_hit ?_ | refine e_miss rfl ?_ | refine r_thn ?_ | refine r_blk ?_ | refine e_rr ?_ | refine r_rr ?_ | refine e_cr ?_ | refine r_cr ?_ | refine .seq ?_ | refine reg ?_ | refine .block ?_ | refine .skip ?_ | refine .ret ?_ | refine .exit ?_ | refine cndT rfl ?_ | refine cndF rfl ?_ | refine c_dec rfl (fun hc => ?_) (fun hc => ?_) | refine c_ndec rfl (fun hc => ?_) (fun hc => ?_) | refine cnd rfl (fun hc => ?_) (fun hc => ?_) | refine gd rfl rfl rfl (fun hg => ?_) (fun hg => ?_) | refine gn rfl rfl rfl (fun hg => ?_) (fun hg => ?_) | refine dwr (by omega) ?_ | refine dwl ?_ | refine dws lay_ok rfl rfl rfl rfl rfl rfl rfl ?_ | refine dwu lay_ok rfl rfl rfl rfl rfl rfl rfl rfl rfl ?_ | refine dw_end ?_ | refine dw_skip rfl rfl rfl ?_ | refine dwn lay_ok rfl rfl rfl rfl rfl ?_ | refine dw_dec rfl rfl rfl (fun hg => ?_) (fun hg => ?_) | refine dw_ndec rfl rfl rfl (fun hg => ?_) (fun hg => ?_)
  all_goals first
    | (exfalso; omega)
    | skip
  repeat' first | refine o_frb 0 [.int .i64 c, .str n, .bool d, .sl 3 (es.map rowE)] rfl rfl rfl (by (repeat' first | exact trivial | refine And.intro ?_ ?_ | rfl); first | done | fail) (by (repeat' first | exact trivial | refine And.intro ?_ ?_ | rfl); first | done | fail) rfl rfl ?_ | refine wr (by omega) ?_ | refine ln ?_ | refine stp lay_ok rfl ?_ | refine fin ?_ | refine n_thn ?_ | refine n_blk ?_ | refine e_thn ?_ | refine e_hit ?_ | refine e_miss rfl ?_ | refine r_thn ?_ | refine r_blk ?_ | refine e_rr ?_ | refine r_rr ?_ | refine e_cr ?_ | refine r_cr ?_ | refine .seq ?_ | refine reg ?_ | refine .block ?_ | refine .skip ?_ | refine .ret ?_ | refine .exit ?_ | refine cndT rfl ?_ | refine cndF rfl ?_ | refine c_dec rfl (fun hc => ?_) (fun hc => ?_) | refine c_ndec rfl (fun hc => ?_) (fun hc => ?_) | refine cnd rfl (fun hc => ?_) (fun hc => ?_) | ((first | refine o_none rfl ?_ | refine o_none_ ?_ | refine o_yes rfl rfl rfl ?_ | refine o_yes_ rfl rfl ?_); first | refine st_index (rowN ⟨c, n, d, es⟩) lay_ok rfl rfl rfl rfl (by omega) hat ?_ | refine st_pure (hpart) b27 rfl rfl rfl rfl ?_ | refine st_pure (hchk) b28 rfl rfl rfl rfl ?_) | refine gb (b := (partOk n)) rfl rfl rfl (fun hg => ?_) (fun hg => ?_) | refine gb (b := (!partOk n)) rfl rfl rfl (fun hg => ?_) (fun hg => ?_) | refine gd rfl rfl rfl (fun hg => ?_) (fun hg => ?_) | refine gn rfl rfl rfl (fun hg => ?_) (fun hg => ?_) | refine dwr (by omega) ?_ | refine dwl ?_ | refine dws lay_ok rfl rfl rfl rfl rfl rfl rfl ?_ | refine dwu lay_ok rfl rfl rfl rfl rfl rfl rfl rfl rfl ?_ | refine dw_end ?_ | refine dw_skip rfl rfl rfl ?_ | refine dwn lay_ok rfl rfl rfl rfl rfl ?_ | refine dwb rfl rfl rfl rfl rfl (by (first | refine st_index (rowN ⟨c, n, d, es⟩) lay_ok rfl rfl rfl rfl (by omega) hat ?_ | refine st_pure (hpart) b27 rfl rfl rfl rfl ?_ | refine st_pure (hchk) b28 rfl rfl rfl rfl ?_); exact fin rfl) rfl rfl ?_ | refine dwg rfl rfl rfl rfl rfl (by (first | refine st_index (rowN ⟨c, n, d, es⟩) lay_ok rfl rfl rfl rfl (by omega) hat ?_ | refine st_pure (hpart) b27 rfl rfl rfl rfl ?_ | refine st_pure (hchk) b28 rfl rfl rfl rfl ?_); exact fin rfl) rfl rfl rfl rfl rfl ?_ | refine dw_dec rfl rfl rfl (fun hg => ?_) (fun hg => ?_) | refine dw_ndec rfl rfl rfl (fun hg => ?_) (fun hg => ?_)
  all_goals first
    | (refine f_r [] rfl trivial rfl ⟨?_, rfl⟩
       have hMf : M = false := by rw [hMd]; simp_all; done
       rw [h2, hMf]; rfl)
    | (refine f_r [] rfl trivial rfl ⟨?_, rfl⟩
       have hMf : M = false := by rw [hMd, decide_eq_false (by omega)]; rfl
       rw [h2, hMf]; rfl)
    | skip
  have hP : partOk n = true := by cases h : partOk n <;> simp_all
  have hck : ck = 0 := by omega
  rw [hP, hck, decide_eq_true (show 0 ≤ c ∧ c < 8 by omega), decide_eq_true (rfl : (0 : Int) = 0), Bool.true_and, Bool.and_true, Bool.and_true] at hMd
  clear hpart hchk
  refine lpR (fun j => j ≤ es.length ∧ (es.take j).any (fun e => decide (e.keys.length > 16)) = false) (fun j => es.length - j) (fun j => [(8, I j)]) (fun j => []) (0) [0, 3, 4] [] [] rfl rfl rfl (.of [] (by (repeat' first | exact trivial | refine And.intro ?_ ?_ | rfl); first | done | fail) (by (repeat' first | exact trivial | refine And.intro ?_ ?_ | rfl); first | done | fail) rfl) ?_ ?_
  · exact ⟨Nat.zero_le _, rfl⟩
  rintro j ⟨hj1, hj2⟩
  refine nrm rfl rfl ?_
  by_cases hj : j < es.length
  · have hatj := at_rowE hj
    have htk := any_take (p := fun e : EV => decide (e.keys.length > 16)) hj
    have han := any_at (p := fun e : EV => decide (e.keys.length > 16)) hj
    generalize es[j] = e at *
    obtain ⟨p', z', ks'⟩ := e
    simp only at htk han
    repeat' first | refine wr (by omega) ?_ | refine ln ?_ | refine stp lay_ok rfl ?_ | refine fin ?_ | refine n_thn ?_ | refine n_blk ?_ | refine e_thn ?_ | refine e_hit ?_ | refine e_miss rfl ?_ | refine r_thn ?_ | refine r_blk ?_ | refine e_rr ?_ | refine r_rr ?_ | refine e_cr ?_ | refine r_cr ?_ | refine .seq ?_ | refine reg ?_ | refine .block ?_ | refine .skip ?_ | refine .ret ?_ | refine .exit ?_ | refine cndT rfl ?_ | refine cndF rfl ?_ | refine c_dec rfl (fun hc => ?_) (fun hc => ?_) | refine c_ndec rfl (fun hc => ?_) (fun hc => ?_) | refine cnd rfl (fun hc => ?_) (fun hc => ?_) | ((first | refine o_none rfl ?_ | refine o_none_ ?_ | refine o_yes rfl rfl rfl ?_ | refine o_yes_ rfl rfl ?_); first | refine st_index (rowE ⟨p', z', ks'⟩) lay_ok rfl rfl rfl rfl (by omega) hatj ?_) | refine gd rfl rfl rfl (fun hg => ?_) (fun hg => ?_) | refine gn rfl rfl rfl (fun hg => ?_) (fun hg => ?_) | refine dwr (by omega) ?_ | refine dwl ?_ | refine dws lay_ok rfl rfl rfl rfl rfl rfl rfl ?_ | refine dwu lay_ok rfl rfl rfl rfl rfl rfl rfl rfl rfl ?_ | refine dw_end ?_ | refine dw_skip rfl rfl rfl ?_ | refine dwn lay_ok rfl rfl rfl rfl rfl ?_ | refine dwb rfl rfl rfl rfl rfl (by (first | refine st_index (rowE ⟨p', z', ks'⟩) lay_ok rfl rfl rfl rfl (by omega) hatj ?_); exact fin rfl) rfl rfl ?_ | refine dwg rfl rfl rfl rfl rfl (by (first | refine st_index (rowE ⟨p', z', ks'⟩) lay_ok rfl rfl rfl rfl (by omega) hatj ?_); exact fin rfl) rfl rfl rfl rfl rfl ?_ | refine dw_dec rfl rfl rfl (fun hg => ?_) (fun hg => ?_) | refine dw_ndec rfl rfl rfl (fun hg => ?_) (fun hg => ?_)
    all_goals first
      | (exfalso; omega)
      | (have hc2 : (ks'.length : Int) > 16 := hc
         refine f_r [] rfl trivial rfl ⟨?_, rfl⟩
         have := han (by rw [decide_eq_true_eq]; omega)
         have hMf : M = false := by rw [hMd, this]; simp
         rw [h2, hMf]; rfl)
      | (have hc2 : ¬ (ks'.length : Int) > 16 := hc
         refine n_rr (j + 1) ?_ (.of [] (by (repeat' first | exact trivial | refine And.intro ?_ ?_ | rfl); first | done | fail) (by (repeat' first | exact trivial | refine And.intro ?_ ?_ | rfl); first | done | fail) rfl) ?_
         · omega
         · refine ⟨hj, ?_⟩
           rw [htk, hj2, decide_eq_false (by omega)]; rfl)
  have hje : j = es.length := by omega
  subst hje
  rw [List.take_length] at hj2
  rw [hj2, Bool.not_false, Bool.and_true] at hMd
  repeat' first | refine wr (by omega) ?_ | refine ln ?_ | refine stp lay_ok rfl ?_ | refine fin ?_ | refine n_thn ?_ | refine n_blk ?_ | refine e_thn ?_ | refine e_hit ?_ | refine e_miss rfl ?_ | refine r_thn ?_ | refine r_blk ?_ | refine e_rr ?_ | refine r_rr ?_ | refine e_cr ?_ | refine r_cr ?_ | refine .seq ?_ | refine reg ?_ | refine .block ?_ | refine .skip ?_ | refine .ret ?_ | refine .exit ?_ | refine cndT rfl ?_ | refine cndF rfl ?_ | refine c_dec rfl (fun hc => ?_) (fun hc => ?_) | refine c_ndec rfl (fun hc => ?_) (fun hc => ?_) | refine cnd rfl (fun hc => ?_) (fun hc => ?_) | refine gd rfl rfl rfl (fun hg => ?_) (fun hg => ?_) | refine gn rfl rfl rfl (fun hg => ?_) (fun hg => ?_) | refine dwr (by omega) ?_ | refine dwl ?_ | refine dws lay_ok rfl rfl rfl rfl rfl rfl rfl ?_ | refine dwu lay_ok rfl rfl rfl rfl rfl rfl rfl rfl rfl ?_ | refine dw_end ?_ | refine dw_skip rfl rfl rfl ?_ | refine dwn lay_ok rfl rfl rfl rfl rfl ?_ | refine dw_dec rfl rfl rfl (fun hg => ?_) (fun hg => ?_) | refine dw_ndec rfl rfl rfl (fun hg => ?_) (fun hg => ?_)
  all_goals first
    | (exfalso; omega)
    | skip
  refine lpR (fun j => j ≤ i ∧ (l.take j).any (fun x => decide (x.client = c) && decide (x.name = n)) = false) (fun j => i - j) (fun j => [(9, I (many c (l.take j))), (10, I j)]) (fun j => []) (0) [0, 3, 4] [] [] rfl rfl rfl (.of [] (by (repeat' first | exact trivial | refine And.intro ?_ ?_ | rfl); first | done | fail) (by (repeat' first | exact trivial | refine And.intro ?_ ?_ | rfl); first | done | fail) rfl) ?_ ?_
  · exact ⟨Nat.zero_le _, rfl⟩
  rintro j ⟨hj1, hj3⟩
  refine nrm rfl rfl ?_
  have hml := many_le c (l.take j)
  rw [List.length_take] at hml
  by_cases hj : j < i
  · have hjl : j < l.length := by omega
    have hatj := hjr j hj
    have htk := any_take (p := fun x : NV => decide (x.client = c) && decide (x.name = n)) hjl
    have han : (decide (l[j].client = c) && decide (l[j].name = n)) = true → (l.take i).any (fun x => decide (x.client = c) && decide (x.name = n)) = true := fun h =>
      List.any_eq_true.2 ⟨_, List.mem_take_iff_getElem.2 ⟨j, by omega, rfl⟩, h⟩
    have hmt := many_take c l j hjl
    generalize l[j] = x at *
    obtain ⟨c', n', d', es'⟩ := x
    simp only at htk han hmt
    repeat' first | refine wr (by omega) ?_ | refine ln ?_ | refine stp lay_ok rfl ?_ | refine fin ?_ | refine n_thn ?_ | refine n_blk ?_ | refine e_thn ?_ | refine e_hit ?_ | refine e_miss rfl ?_ | refine r_thn ?_ | refine r_blk ?_ | refine e_rr ?_ | refine r_rr ?_ | refine e_cr ?_ | refine r_cr ?_ | refine .seq ?_ | refine reg ?_ | refine .block ?_ | refine .skip ?_ | refine .ret ?_ | refine .exit ?_ | refine cndT rfl ?_ | refine cndF rfl ?_ | refine c_dec rfl (fun hc => ?_) (fun hc => ?_) | refine c_ndec rfl (fun hc => ?_) (fun hc => ?_) | refine cnd rfl (fun hc => ?_) (fun hc => ?_) | refine gd rfl rfl rfl (fun hg => ?_) (fun hg => ?_) | refine gn rfl rfl rfl (fun hg => ?_) (fun hg => ?_) | refine dwr (by omega) ?_ | refine dwl ?_ | refine dws lay_ok rfl rfl rfl rfl rfl rfl rfl ?_ | refine dwu lay_ok rfl rfl rfl rfl rfl rfl rfl rfl rfl ?_ | refine dw_end ?_ | refine dw_skip rfl rfl rfl ?_ | refine dwn lay_ok rfl rfl rfl rfl rfl ?_ | refine dw_dec rfl rfl rfl (fun hg => ?_) (fun hg => ?_) | refine dw_ndec rfl rfl rfl (fun hg => ?_) (fun hg => ?_)
    all_goals first
      | (exfalso; omega)
      | skip
    refine dreg [(0, [], [67, 71, 72]), (1, [], [66, 71, 72]), (2, [0, 1], [71, 72]), (3, [0, 1, 2], [71, 72]), (4, [0, 1, 2, 3], [71, 72]), (5, [], [66, 67, 68, 69, 70]), (6, [5], [66, 67, 68, 69, 70]), (7, [0, 1, 2, 3, 4, 5, 6], [])] mixed (by kernel_rfl) ?_
    repeat' first | refine wr (by omega) ?_ | refine ln ?_ | refine stp lay_ok rfl ?_ | refine fin ?_ | refine n_thn ?_ | refine n_blk ?_ | refine e_thn ?_ | refine e_hit ?_ | refine e_miss rfl ?_ | refine r_thn ?_ | refine r_blk ?_ | refine e_rr ?_ | refine r_rr ?_ | refine e_cr ?_ | refine r_cr ?_ | refine .seq ?_ | refine reg ?_ | refine .block ?_ | refine .skip ?_ | refine .ret ?_ | refine .exit ?_ | refine cndT rfl ?_ | refine cndF rfl ?_ | refine c_dec rfl (fun hc => ?_) (fun hc => ?_) | refine c_ndec rfl (fun hc => ?_) (fun hc => ?_) | refine cnd rfl (fun hc => ?_) (fun hc => ?_) | ((first | refine o_none rfl ?_ | refine o_none_ ?_ | refine o_yes rfl rfl rfl ?_ | refine o_yes_ rfl rfl ?_); first | refine st_index (rowN ⟨c', n', d', es'⟩) lay_ok rfl rfl rfl rfl (by omega) hatj ?_) | refine gd rfl rfl rfl (fun hg => ?_) (fun hg => ?_) | refine gn rfl rfl rfl (fun hg => ?_) (fun hg => ?_) | refine dwr (by omega) ?_ | refine dwl ?_ | refine dws lay_ok rfl rfl rfl rfl rfl rfl rfl ?_ | refine dwu lay_ok rfl rfl rfl rfl rfl rfl rfl rfl rfl ?_ | refine dw_end ?_ | refine dw_skip rfl rfl rfl ?_ | refine dwn lay_ok rfl rfl rfl rfl rfl ?_ | refine dwb rfl rfl rfl rfl rfl (by (first | refine st_index (rowN ⟨c', n', d', es'⟩) lay_ok rfl rfl rfl rfl (by omega) hatj ?_); exact fin rfl) rfl rfl ?_ | refine dwg rfl rfl rfl rfl rfl (by (first | refine st_index (rowN ⟨c', n', d', es'⟩) lay_ok rfl rfl rfl rfl (by omega) hatj ?_); exact fin rfl) rfl rfl rfl rfl rfl ?_ | refine dw_dec rfl rfl rfl (fun hg => ?_) (fun hg => ?_) | refine dw_ndec rfl rfl rfl (fun hg => ?_) (fun hg => ?_)
    · refine dreg [(0, [], [77, 81, 82]), (1, [], [76, 81, 82]), (2, [0, 1], [81, 82]), (3, [0, 1, 2], [81, 82]), (4, [0, 1, 2, 3], [81, 82]), (5, [], [76, 77, 78, 79, 80]), (6, [5], [76, 77, 78, 79, 80]), (7, [0, 1, 2, 3, 4, 5, 6], [])] mixed (by kernel_rfl) ?_
      repeat' first | refine wr (by omega) ?_ | refine ln ?_ | refine stp lay_ok rfl ?_ | refine fin ?_ | refine n_thn ?_ | refine n_blk ?_ | refine e_thn ?_ | refine e_hit ?_ | refine e_miss rfl ?_ | refine r_thn ?_ | refine r_blk ?_ | refine e_rr ?_ | refine r_rr ?_ | refine e_cr ?_ | refine r_cr ?_ | refine .seq ?_ | refine reg ?_ | refine .block ?_ | refine .skip ?_ | refine .ret ?_ | refine .exit ?_ | refine cndT rfl ?_ | refine cndF rfl ?_ | refine c_dec rfl (fun hc => ?_) (fun hc => ?_) | refine c_ndec rfl (fun hc => ?_) (fun hc => ?_) | refine cnd rfl (fun hc => ?_) (fun hc => ?_) | ((first | refine o_none rfl ?_ | refine o_none_ ?_ | refine o_yes rfl rfl rfl ?_ | refine o_yes_ rfl rfl ?_); first | refine st_index (rowN ⟨c', n', d', es'⟩) lay_ok rfl rfl rfl rfl (by omega) hatj ?_) | refine gd rfl rfl rfl (fun hg => ?_) (fun hg => ?_) | refine gn rfl rfl rfl (fun hg => ?_) (fun hg => ?_) | refine dwr (by omega) ?_ | refine dwl ?_ | refine dws lay_ok rfl rfl rfl rfl rfl rfl rfl ?_ | refine dwu lay_ok rfl rfl rfl rfl rfl rfl rfl rfl rfl ?_ | refine dw_end ?_ | refine dw_skip rfl rfl rfl ?_ | refine dwn lay_ok rfl rfl rfl rfl rfl ?_ | refine dwb rfl rfl rfl rfl rfl (by (first | refine st_index (rowN ⟨c', n', d', es'⟩) lay_ok rfl rfl rfl rfl (by omega) hatj ?_); exact fin rfl) rfl rfl ?_ | refine dwg rfl rfl rfl rfl rfl (by (first | refine st_index (rowN ⟨c', n', d', es'⟩) lay_ok rfl rfl rfl rfl (by omega) hatj ?_); exact fin rfl) rfl rfl rfl rfl rfl ?_ | refine dw_dec rfl rfl rfl (fun hg => ?_) (fun hg => ?_) | refine dw_ndec rfl rfl rfl (fun hg => ?_) (fun hg => ?_)
      · refine f_r [] rfl trivial rfl ⟨?_, rfl⟩
        have h9 : c' = c := by assumption
        have h8 : n' = n := by assumption
        have := han (by rw [decide_eq_true h9, decide_eq_true h8]; rfl)
        have hMf : M = false := by rw [hMd, this]; simp
        rw [h2, hMf]; rfl
      · have h9 : c' = c := by assumption
        have h8 : ¬ n' = n := by assumption
        refine n_rr (j + 1) ?_ (.of [] (by (repeat' first | exact trivial | refine And.intro ?_ ?_ | rfl | rw [hmt, if_pos h9]; push_cast; rfl); first | done | fail) (by (repeat' first | exact trivial | refine And.intro ?_ ?_ | rfl | rw [hmt, if_pos h9]; push_cast; rfl); first | done | fail) rfl) ?_
        · omega
        · refine ⟨hj, ?_⟩
          rw [htk, hj3, decide_eq_false h8]; simp
    · have h9 : ¬ c' = c := by assumption
      refine n_rr (j + 1) ?_ (.of [] (by (repeat' first | exact trivial | refine And.intro ?_ ?_ | rfl | rw [hmt, if_neg h9]; rfl); first | done | fail) (by (repeat' first | exact trivial | refine And.intro ?_ ?_ | rfl | rw [hmt, if_neg h9]; rfl); first | done | fail) rfl) ?_
      · omega
      · refine ⟨hj, ?_⟩
        rw [htk, hj3, decide_eq_false h9]; simp
  have hje : j = i := by omega
  subst hje
  rw [hj3, Bool.not_false, Bool.and_true] at hMd
  repeat' first | refine wr (by omega) ?_ | refine ln ?_ | refine stp lay_ok rfl ?_ | refine fin ?_ | refine n_thn ?_ | refine n_blk ?_ | refine e_thn ?_ | refine e_hit ?_ | refine e_miss rfl ?_ | refine r_thn ?_ | refine r_blk ?_ | refine e_rr ?_ | refine r_rr ?_ | refine e_cr ?_ | refine r_cr ?_ | refine .seq ?_ | refine reg ?_ | refine .block ?_ | refine .skip ?_ | refine .ret ?_ | refine .exit ?_ | refine cndT rfl ?_ | refine cndF rfl ?_ | refine c_dec rfl (fun hc => ?_) (fun hc => ?_) | refine c_ndec rfl (fun hc => ?_) (fun hc => ?_) | refine cnd rfl (fun hc => ?_) (fun hc => ?_) | refine gd rfl rfl rfl (fun hg => ?_) (fun hg => ?_) | refine gn rfl rfl rfl (fun hg => ?_) (fun hg => ?_) | refine dwr (by omega) ?_ | refine dwl ?_ | refine dws lay_ok rfl rfl rfl rfl rfl rfl rfl ?_ | refine dwu lay_ok rfl rfl rfl rfl rfl rfl rfl rfl rfl ?_ | refine dw_end ?_ | refine dw_skip rfl rfl rfl ?_ | refine dwn lay_ok rfl rfl rfl rfl rfl ?_ | refine dw_dec rfl rfl rfl (fun hg => ?_) (fun hg => ?_) | refine dw_ndec rfl rfl rfl (fun hg => ?_) (fun hg => ?_)
  all_goals first
    | (exfalso; omega)
    | (refine f_r [] rfl trivial rfl ⟨?_, rfl⟩
       have hMf : M = false := by rw [hMd, decide_eq_false (by omega)]
       rw [h2, hMf]; rfl)
    | (refine n_rr (j + 1) ?_ (.of [] (by (repeat' first | exact trivial | refine And.intro ?_ ?_ | rfl); first | done | fail) (by (repeat' first | exact trivial | refine And.intro ?_ ?_ | rfl); first | done | fail) rfl) ?_
       · omega
       · refine ⟨hi, ?_⟩
         rw [h2, hMd, decide_eq_true (by omega)]; rfl)
end Go.Proofs.YtgjoloaajocafaaDoorFn
namespace Go.Proofs.YtgjoloaajocafaaDoorFn
open Go.Proofs.YtgjoloaajocafaaDoorAl Go.Proofs.Tryd
/-! ### what the reference reads -/
theorem refT_le {b : List UInt8} {s : RS} (h : s.at_ ≤ b.length) : (refT b s).2.at_ ≤ b.length ∧ (refT b s).1.size ≤ 4096 := by
  have hn := numM_le (b := b) (s := s) (most := 4096) h
  unfold refT
  simp only
  split
  · exact ⟨hn.1, show mt.size ≤ 4096 by decide⟩
  · rename_i h2
    refine ⟨by show (numM b s 4096).2.at_ + (numM b s 4096).1 ≤ b.length; omega, ?_⟩
    have e2 : (strOf ((b.drop (numM b s 4096).2.at_).take (numM b s 4096).1)).size = ((b.drop (numM b s 4096).2.at_).take (numM b s 4096).1).length := by simp [strOf, ByteArray.size]
    rw [e2, List.length_take]; omega
def textsP (b : List UInt8) : Nat → RS → List ByteArray → List ByteArray × RS
  | 0, s, acc => (acc, s)
  | n + 1, s, acc => if s.bad then (acc, s) else textsP b n (refT b s).2 (acc ++ [(refT b s).1])
def entryP (b : List UInt8) (s : RS) : EV × RS :=
  let r1 := refT b s
  let r2 := numR b r1.2
  let r3 := numR b r2.2
  let r4 := textsP b r3.1 r3.2 []
  (⟨r1.1, r2.1, r4.1⟩, r4.2)
def entsP (b : List UInt8) : Nat → RS → List EV → List EV × RS
  | 0, s, acc => (acc, s)
  | n + 1, s, acc => if s.bad then (acc, s) else entsP b n (entryP b s).2 (acc ++ [(entryP b s).1])
def snapP (b : List UInt8) (s : RS) : NV × RS :=
  let r1 := numR b s
  let r2 := refT b r1.2
  let r3 := numM b r2.2 1
  let r4 := numR b r3.2
  let r5 := entsP b r4.1 r4.2 []
  (⟨r1.1, r2.1, decide ((r3.1 : Int) = 1), r5.1⟩, r5.2)
def snapsP (b : List UInt8) : Nat → RS → List NV → List NV × RS
  | 0, s, acc => (acc, s)
  | n + 1, s, acc => if s.bad then (acc, s) else snapsP b n (snapP b s).2 (acc ++ [(snapP b s).1])
def getP (b : List UInt8) : Option (List NV) :=
  let r0 := numR b ⟨0, false⟩
  let r := snapsP b r0.1 r0.2 []
  if r.2.bad || decide (r.2.at_ < b.length) then none else if fromB r.1 then some r.1 else none
theorem textsP_le (b : List UInt8) : ∀ (n : Nat) (s : RS) (acc : List ByteArray), s.at_ ≤ b.length → (textsP b n s acc).2.at_ ≤ b.length ∧ (textsP b n s acc).1.length ≤ acc.length + n
  | 0, s, acc, h => ⟨h, Nat.le_refl _⟩
  | n + 1, s, acc, h => by
    rw [textsP]
    split
    · exact ⟨h, by simp⟩
    · have := textsP_le b n (refT b s).2 (acc ++ [(refT b s).1]) (refT_le h).1
      refine ⟨this.1, ?_⟩
      have h2 := this.2
      rw [List.length_append, List.length_singleton] at h2; omega
theorem entryP_le {b : List UInt8} {s : RS} (h : s.at_ ≤ b.length) : (entryP b s).2.at_ ≤ b.length ∧ (entryP b s).1.path.size ≤ 4096 ∧ (entryP b s).1.keys.length ≤ 65536 := by
  have h1 := refT_le h
  have h2 := numR_le h1.1
  have h3 := numR_le h2.1
  have h4 := textsP_le b (numR b (numR b (refT b s).2).2).1 (numR b (numR b (refT b s).2).2).2 [] h3.1
  refine ⟨h4.1, h1.2, ?_⟩
  have h5 := h4.2
  have h6 := h3.2
  simp only [List.length_nil] at h5
  exact Nat.le_trans h5 (by omega)
theorem entsP_le (b : List UInt8) : ∀ (n : Nat) (s : RS) (acc : List EV), s.at_ ≤ b.length → (∀ e ∈ acc, e.path.size ≤ 4096 ∧ e.keys.length ≤ 65536) →
    (entsP b n s acc).2.at_ ≤ b.length ∧ (entsP b n s acc).1.length ≤ acc.length + n ∧ ∀ e ∈ (entsP b n s acc).1, e.path.size ≤ 4096 ∧ e.keys.length ≤ 65536
  | 0, s, acc, h, ha => ⟨h, Nat.le_refl _, ha⟩
  | n + 1, s, acc, h, ha => by
    rw [entsP]
    split
    · exact ⟨h, by simp, ha⟩
    · have he := entryP_le h
      have := entsP_le b n (entryP b s).2 (acc ++ [(entryP b s).1]) he.1 (fun e hm => by
        rcases List.mem_append.1 hm with hm | hm
        · exact ha e hm
        · rw [List.mem_singleton] at hm; subst hm; exact he.2)
      refine ⟨this.1, ?_, this.2.2⟩
      have h2 := this.2.1
      rw [List.length_append, List.length_singleton] at h2; omega
theorem snapP_le {b : List UInt8} {s : RS} (h : s.at_ ≤ b.length) : (snapP b s).2.at_ ≤ b.length ∧ (snapP b s).1.red := by
  have h1 := numR_le h
  have h2 := refT_le h1.1
  have h3 := numM_le (most := 1) h2.1
  have h4 := numR_le h3.1
  have h5 := entsP_le b (numR b (numM b (refT b (numR b s).2).2 1).2).1 (numR b (numM b (refT b (numR b s).2).2 1).2).2 [] h4.1 (fun e he => by cases he)
  refine ⟨h5.1, h2.2, ?_, h5.2.2⟩
  have h6 := h5.2.1
  simp only [List.length_nil] at h6
  exact Nat.le_trans h6 (by omega)
/-! ### two readers, alike unless something is amiss -/
def Alk {α : Type} (x y : α × RS) : Prop := (x.2.bad = true ∧ y.2.bad = true) ∨ x = y
theorem numM_bad {b : List UInt8} {s : RS} {m : Nat} (h : s.bad = true) : numM b s m = (0, s) := by rw [numM, if_pos h]
theorem numR_bad {b : List UInt8} {s : RS} (h : s.bad = true) : numR b s = (0, s) := by rw [numR, if_pos h]
theorem textR_bad {b : List UInt8} {s : RS} (h : s.bad = true) : textR b s = (mt, s) := by rw [textR, if_pos h]
theorem refT_bad {b : List UInt8} {s : RS} (h : s.bad = true) : (refT b s).2.bad = true := by
  unfold refT
  simp only [numM_bad h, h, true_or, if_true]
theorem textsR_bad' {b : List UInt8} {n : Nat} {s : RS} {acc : List ByteArray} (h : s.bad = true) : textsR b n s acc = (acc, s) := by
  cases n with
  | zero => rfl
  | succ n => rw [textsR, if_pos h]
theorem textsP_bad {b : List UInt8} {n : Nat} {s : RS} {acc : List ByteArray} (h : s.bad = true) : textsP b n s acc = (acc, s) := by
  cases n with
  | zero => rfl
  | succ n => rw [textsP, if_pos h]
theorem entryR_bad {b : List UInt8} {s : RS} (h : s.bad = true) : (entryR b s).2.bad = true := by
  simp only [entryR, textR_bad h, numR_bad h, textsR_bad' h, h]
theorem entryP_bad {b : List UInt8} {s : RS} (h : s.bad = true) : (entryP b s).2.bad = true := by
  have h1 := refT_bad (b := b) h
  simp only [entryP, numR_bad h1, textsP_bad h1, h1]
theorem entsR_bad {b : List UInt8} {n : Nat} {s : RS} {acc : List EV} (h : s.bad = true) : entsR b n s acc = (acc, s) := by
  cases n with
  | zero => rfl
  | succ n => rw [entsR, if_pos h]
theorem entsP_bad {b : List UInt8} {n : Nat} {s : RS} {acc : List EV} (h : s.bad = true) : entsP b n s acc = (acc, s) := by
  cases n with
  | zero => rfl
  | succ n => rw [entsP, if_pos h]
theorem snapR_bad {b : List UInt8} {s : RS} (h : s.bad = true) : (snapR b s).2.bad = true := by
  have h4 : ∀ d, (⟨s.at_, s.bad || d⟩ : RS).bad = true := fun d => by simp [h]
  simp only [snapR, numR_bad h, textR_bad h, numR_bad (h4 _), entsR_bad (h4 _), h4]
theorem snapP_bad {b : List UInt8} {s : RS} (h : s.bad = true) : (snapP b s).2.bad = true := by
  have h1 := refT_bad (b := b) h
  simp only [snapP, numR_bad h, numM_bad h1, numR_bad h1, entsP_bad h1, h1]
theorem snapsR_bad {b : List UInt8} {n : Nat} {s : RS} {acc : List NV} (h : s.bad = true) : snapsR b n s acc = (acc, s) := by
  cases n with
  | zero => rfl
  | succ n => rw [snapsR, if_pos h]
theorem snapsP_bad {b : List UInt8} {n : Nat} {s : RS} {acc : List NV} (h : s.bad = true) : snapsP b n s acc = (acc, s) := by
  cases n with
  | zero => rfl
  | succ n => rw [snapsP, if_pos h]
theorem txC_eq (b : List UInt8) (s : RS) : Alk (textR b s) (refT b s) := by
  by_cases hs : s.bad = true
  · exact .inl ⟨by rw [textR_bad hs]; exact hs, refT_bad hs⟩
  · have hs' : s.bad = false := by cases h : s.bad <;> simp_all
    unfold textR refT numM
    simp only [hs', Bool.false_eq_true, if_false]
    unfold txC
    cases hg : gnC b s.at_ 4096 with
    | error e => left; simp
    | ok x =>
      obtain ⟨n, q⟩ := x
      simp only [Bool.false_eq_true, false_or]
      by_cases h : b.length < q + n
      · left; simp [h]
      · right; simp [h]
theorem texts_alk (b : List UInt8) : ∀ (n : Nat) (s : RS) (acc : List ByteArray), Alk (textsR b n s acc) (textsP b n s acc)
  | 0, s, acc => .inr rfl
  | n + 1, s, acc => by
    rw [textsR, textsP]
    split
    · exact .inr rfl
    · rcases txC_eq b s with ⟨h1, h2⟩ | h
      · exact .inl ⟨by rw [textsR_bad' h1]; exact h1, by rw [textsP_bad h2]; exact h2⟩
      · rw [h]; exact texts_alk b n _ _
theorem entry_alk (b : List UInt8) (s : RS) : Alk (entryR b s) (entryP b s) := by
  unfold entryR entryP
  simp only
  rcases txC_eq b s with ⟨h1, h2⟩ | h
  · left
    simp only [numR_bad h1, textsR_bad' h1, numR_bad h2, textsP_bad h2]
    exact ⟨h1, h2⟩
  · rw [h]
    rcases texts_alk b (numR b (numR b (refT b s).2).2).1 (numR b (numR b (refT b s).2).2).2 [] with h1 | h1
    · exact .inl h1
    · right; rw [h1]
theorem ents_alk (b : List UInt8) : ∀ (n : Nat) (s : RS) (acc : List EV), Alk (entsR b n s acc) (entsP b n s acc)
  | 0, s, acc => .inr rfl
  | n + 1, s, acc => by
    rw [entsR, entsP]
    split
    · exact .inr rfl
    · rcases entry_alk b s with ⟨h1, h2⟩ | h
      · exact .inl ⟨by rw [entsR_bad h1]; exact h1, by rw [entsP_bad h2]; exact h2⟩
      · rw [h]; exact ents_alk b n _ _
theorem num1_alk (b : List UInt8) (s : RS) : Alk ((numR b s).1, (⟨(numR b s).2.at_, (numR b s).2.bad || decide (((numR b s).1 : Int) > 1)⟩ : RS)) (numM b s 1) := by
  by_cases hs : s.bad = true
  · exact .inl ⟨by rw [numR_bad hs]; simp [hs], by rw [numM_bad hs]; exact hs⟩
  · have hs' : s.bad = false := by cases h : s.bad <;> simp_all
    cases hg : gnF (b.drop s.at_) 0 0 with
    | none =>
      have e1 : numR b s = (0, ⟨s.at_, true⟩) := by simp [numR, gnC, hg, hs']
      have e2 : numM b s 1 = (0, ⟨s.at_, true⟩) := by simp [numM, gnC, hg, hs']
      rw [e1, e2]
      left; simp
    | some x =>
      obtain ⟨n, q⟩ := x
      by_cases h : 1 < n
      · have e2 : numM b s 1 = (0, ⟨s.at_, true⟩) := by simp [numM, gnC, hg, hs', h]
        rw [e2]
        left
        by_cases h6 : 65536 < n
        · have e1 : numR b s = (0, ⟨s.at_, true⟩) := by simp [numR, gnC, hg, hs', h6]
          rw [e1]; simp
        · have e1 : numR b s = (n, ⟨s.at_ + q, false⟩) := by simp [numR, gnC, hg, hs', h6]
          rw [e1]; simp; omega
      · have e2 : numM b s 1 = (n, ⟨s.at_ + q, false⟩) := by simp [numM, gnC, hg, hs', h]
        have e1 : numR b s = (n, ⟨s.at_ + q, false⟩) := by simp [numR, gnC, hg, hs', show ¬ 65536 < n by omega]
        rw [e1, e2]
        right
        have : ¬ ((n : Int) > 1) := by omega
        simp [this]
theorem snap_alk (b : List UInt8) (s : RS) : Alk (snapR b s) (snapP b s) := by
  unfold snapR snapP
  simp only
  rcases txC_eq b (numR b s).2 with ⟨h1, h2⟩ | h
  · left
    have h4 : ∀ d, (⟨(textR b (numR b s).2).2.at_, (textR b (numR b s).2).2.bad || d⟩ : RS).bad = true := fun d => by simp [h1]
    simp only [numR_bad h1, numM_bad h2, numR_bad h2, entsP_bad h2, numR_bad (h4 _), entsR_bad (h4 _)]
    exact ⟨h4 _, h2⟩
  · rw [h]
    rcases num1_alk b (refT b (numR b s).2).2 with ⟨h1, h2⟩ | h1
    · left
      have h3 : (⟨(numR b (refT b (numR b s).2).2).2.at_, (numR b (refT b (numR b s).2).2).2.bad || decide (((numR b (refT b (numR b s).2).2).1 : Int) > 1)⟩ : RS).bad = true := h1
      rw [numR_bad h3, numR_bad h2, entsP_bad h2, entsR_bad h3]
      exact ⟨h3, h2⟩
    · have e1 := congrArg Prod.fst h1
      have e2 := congrArg Prod.snd h1
      simp only at e1 e2
      rw [e2, e1]
      rcases ents_alk b (numR b (numM b (refT b (numR b s).2).2 1).2).1 (numR b (numM b (refT b (numR b s).2).2 1).2).2 [] with h3 | h3
      · exact .inl h3
      · right; rw [h3]
theorem snaps_alk (b : List UInt8) : ∀ (n : Nat) (s : RS) (acc : List NV), Alk (snapsR b n s acc) (snapsP b n s acc)
  | 0, s, acc => .inr rfl
  | n + 1, s, acc => by
    rw [snapsR, snapsP]
    split
    · exact .inr rfl
    · rcases snap_alk b s with ⟨h1, h2⟩ | h
      · exact .inl ⟨by rw [snapsR_bad h1]; exact h1, by rw [snapsP_bad h2]; exact h2⟩
      · rw [h]; exact snaps_alk b n _ _
theorem getP_eq (b : List UInt8) : getP b = getR b := by
  unfold getP getR
  simp only
  rcases snaps_alk b (numR b ⟨0, false⟩).1 (numR b ⟨0, false⟩).2 [] with ⟨h1, h2⟩ | h
  · rw [h1, h2]; rfl
  · rw [h]
end Go.Proofs.YtgjoloaajocafaaDoorFn
namespace Go.Proofs.YtgjoloaajocafaaDoorFn
open Go.Proofs.YtgjoloaajocafaaDoorAl Go.Proofs.Tryd
attribute [local irreducible] IntKind.wrap CodeOk OpsL OpG ACalls thn inBlk rndR cutR WkR Wk fnR DW ExtOk partsOf
theorem b8 : HasBody prog 8 := ⟨f8, func8, Option.some_ne_none _, by decide⟩
def finP (b : List UInt8) (r : List NV × RS) : Option (List NV) := if r.2.bad || decide (r.2.at_ < b.length) then none else if fromB r.1 then some r.1 else none
set_option maxHeartbeats 8000000 in
set_option maxRecDepth 4000 in
theorem refGet10_ok (b : List UInt8) (hb : b.length ≤ 4000000000) : ACalls prog 8 0 [Bs b] [] fun r h => (match getP b with | none => r = .tuple [.st .nilsl, B false] | some l => r = .tuple [.st (.sl 4 (l.map rowN)), B true]) ∧ h = [] := by
  have hN0 := refRNum_ok b ⟨0, false⟩ 65536 hb (Nat.zero_le _) (Nat.le_refl _)
  rw [numM_numR] at hN0
  have hle0 := numR_le (b := b) (s := ⟨0, false⟩) (Nat.zero_le _)
  have hgp : getP b = finP b (snapsP b (numR b ⟨0, false⟩).1 (numR b ⟨0, false⟩).2 []) := rfl
  generalize getP b = G at *
  generalize numR b ⟨0, false⟩ = r0 at *
  obtain ⟨n, s0⟩ := r0
  simp only at *
  have hlb : (List.map rowB b).length = b.length := List.length_map _
  refine fnC lay_ok func8 rfl rfl rfl rfl rfl ?_
  repeat' first | refine wr (by omega) ?_ | refine ln ?_ | refine stp lay_ok rfl ?_ | refine fin ?_ | refine n_thn ?_ | refine n_blk ?_ | refine e_thn ?_ | refine e_hit ?_ | refine e_miss rfl ?_ | refine r_thn ?_ | refine r_blk ?_ | refine e_rr ?_ | refine r_rr ?_ | refine e_cr ?_ | refine r_cr ?_ | refine .seq ?_ | refine reg ?_ | refine .block ?_ | refine .skip ?_ | refine .ret ?_ | refine .exit ?_ | refine cndT rfl ?_ | refine cndF rfl ?_ | refine c_dec rfl (fun hc => ?_) (fun hc => ?_) | refine c_ndec rfl (fun hc => ?_) (fun hc => ?_) | refine cnd rfl (fun hc => ?_) (fun hc => ?_) | ((first | refine o_none rfl ?_ | refine o_none_ ?_ | refine o_yes rfl rfl rfl ?_ | refine o_yes_ rfl rfl ?_); first | refine st_callF 0 (hN0) b22 rfl rfl rfl rfl rfl rfl (by (repeat' first | exact trivial | refine And.intro ?_ ?_ | rfl); first | done | fail) rfl ?_) | refine gd rfl rfl rfl (fun hg => ?_) (fun hg => ?_) | refine gn rfl rfl rfl (fun hg => ?_) (fun hg => ?_) | refine dwr (by omega) ?_ | refine dwl ?_ | refine dws lay_ok rfl rfl rfl rfl rfl rfl rfl ?_ | refine dwu lay_ok rfl rfl rfl rfl rfl rfl rfl rfl rfl ?_ | refine dw_end ?_ | refine dw_skip rfl rfl rfl ?_ | refine dwn lay_ok rfl rfl rfl rfl rfl ?_ | refine dwb rfl rfl rfl rfl rfl (by (first | refine st_callF 0 (hN0) b22 rfl rfl rfl rfl rfl rfl (by (repeat' first | exact trivial | refine And.intro ?_ ?_ | rfl); first | done | fail) rfl ?_); exact fin rfl) rfl rfl ?_ | refine dwg rfl rfl rfl rfl rfl (by (first | refine st_callF 0 (hN0) b22 rfl rfl rfl rfl rfl rfl (by (repeat' first | exact trivial | refine And.intro ?_ ?_ | rfl); first | done | fail) rfl ?_); exact fin rfl) rfl rfl rfl rfl rfl ?_ | refine dw_dec rfl rfl rfl (fun hg => ?_) (fun hg => ?_) | refine dw_ndec rfl rfl rfl (fun hg => ?_) (fun hg => ?_)
  refine CodeOk.wk (Wk.nilT 4 5 rfl rfl) (Nat.le_succ _) ?_
  refine nrm rfl rfl ?_
  generalize hK : snapsP b n s0 [] = K at *
  refine lpR (fun (s, l, i, f) => s.at_ ≤ b.length ∧ l.length + f ≤ 65536 ∧ i + f = n ∧ K = snapsP b f s l ∧ (∀ e ∈ l, e.red)) (fun (s, l, i, f) => f) (fun (s, l, i, f) => [(7, I i), (5, .lsl 2 4 0 (l.map rowN).length)]) (fun (s, l, i, f) => [(0, rcell b s), (2, .arr 4 (l.map rowN))]) ((s0, [], 0, n)) [0, 4, 6] [0] [1] rfl rfl rfl (.of [1] (by (repeat' first | exact trivial | refine And.intro ?_ ?_ | rfl); first | done | fail) (by (repeat' first | exact trivial | refine And.intro ?_ ?_ | rfl); first | done | fail) rfl) ?_ ?_
  · exact ⟨hle0.1, by simp; omega, by omega, hK.symm, fun e he => by cases he⟩
  rintro ⟨⟨q, bad⟩, l, i, f⟩ ⟨g1, g2, g3, g4, g5⟩
  refine nrm rfl rfl ?_
  rw [g4] at hgp
  have hm : (List.map rowN l).length = l.length := List.length_map _
  by_cases hex : f = 0 ∨ bad = true
  · have hsn : snapsP b f ⟨q, bad⟩ l = (l, ⟨q, bad⟩) := by
      rcases hex with rfl | rfl
      · rfl
      · exact snapsP_bad rfl
    rw [hsn] at hgp
    simp only [finP] at hgp
    cases bad
    · have hf0 : f = 0 := by simpa using hex
      subst hf0
      simp only [Bool.false_or, decide_eq_true_eq] at hgp
      by_cases hq : q < b.length
      · rw [if_pos hq] at hgp
        subst hgp
        repeat' first | refine wr (by omega) ?_ | refine ln ?_ | refine stp lay_ok rfl ?_ | refine fin ?_ | refine n_thn ?_ | refine n_blk ?_ | refine e_thn ?_ | refine e_hit ?_ | refine e_miss rfl ?_ | refine r_thn ?_ | refine r_blk ?_ | refine e_rr ?_ | refine r_rr ?_ | refine e_cr ?_ | refine r_cr ?_ | refine .seq ?_ | refine reg ?_ | refine .block ?_ | refine .skip ?_ | refine .ret ?_ | refine .exit ?_ | refine cndT rfl ?_ | refine cndF rfl ?_ | refine c_dec rfl (fun hc => ?_) (fun hc => ?_) | refine c_ndec rfl (fun hc => ?_) (fun hc => ?_) | refine cnd rfl (fun hc => ?_) (fun hc => ?_) | refine gd rfl rfl rfl (fun hg => ?_) (fun hg => ?_) | refine gn rfl rfl rfl (fun hg => ?_) (fun hg => ?_) | refine dwr (by omega) ?_ | refine dwl ?_ | refine dws lay_ok rfl rfl rfl rfl rfl rfl rfl ?_ | refine dwu lay_ok rfl rfl rfl rfl rfl rfl rfl rfl rfl ?_ | refine dw_end ?_ | refine dw_skip rfl rfl rfl ?_ | refine dwn lay_ok rfl rfl rfl rfl rfl ?_ | refine dw_dec rfl rfl rfl (fun hg => ?_) (fun hg => ?_) | refine dw_ndec rfl rfl rfl (fun hg => ?_) (fun hg => ?_)
        all_goals first
          | (exfalso; omega)
          | (exfalso; simp only at *; omega)
          | (refine f_r [] rfl trivial rfl ⟨?_, rfl⟩; rfl)
      · rw [if_neg hq] at hgp
        have hmy := refMay_ok l (by omega) (fun s hs => (g5 s hs).fit)
        cases hfb : fromB l <;> rw [hfb] at hmy hgp
        · simp only [Bool.false_eq_true, if_false] at hgp
          subst hgp
          repeat' first | refine o_frzA (f := 12) rfl rfl rfl rfl (by (repeat' first | exact trivial | refine And.intro ?_ ?_ | rfl); first | done | fail) (by (repeat' first | exact trivial | refine And.intro ?_ ?_ | rfl); first | done | fail) rfl rfl ?_ | refine wr (by omega) ?_ | refine ln ?_ | refine stp lay_ok rfl ?_ | refine fin ?_ | refine n_thn ?_ | refine n_blk ?_ | refine e_thn ?_ | refine e_hit ?_ | refine e_miss rfl ?_ | refine r_thn ?_ | refine r_blk ?_ | refine e_rr ?_ | refine r_rr ?_ | refine e_cr ?_ | refine r_cr ?_ | refine .seq ?_ | refine reg ?_ | refine .block ?_ | refine .skip ?_ | refine .ret ?_ | refine .exit ?_ | refine cndT rfl ?_ | refine cndF rfl ?_ | refine c_dec rfl (fun hc => ?_) (fun hc => ?_) | refine c_ndec rfl (fun hc => ?_) (fun hc => ?_) | refine cnd rfl (fun hc => ?_) (fun hc => ?_) | ((first | refine o_none rfl ?_ | refine o_none_ ?_ | refine o_yes rfl rfl rfl ?_ | refine o_yes_ rfl rfl ?_); first | refine st_pure (hmy) b12 rfl rfl rfl rfl ?_) | refine gd rfl rfl rfl (fun hg => ?_) (fun hg => ?_) | refine gn rfl rfl rfl (fun hg => ?_) (fun hg => ?_) | refine dwr (by omega) ?_ | refine dwl ?_ | refine dws lay_ok rfl rfl rfl rfl rfl rfl rfl ?_ | refine dwu lay_ok rfl rfl rfl rfl rfl rfl rfl rfl rfl ?_ | refine dw_end ?_ | refine dw_skip rfl rfl rfl ?_ | refine dwn lay_ok rfl rfl rfl rfl rfl ?_ | refine dwb rfl rfl rfl rfl rfl (by (first | refine st_pure (hmy) b12 rfl rfl rfl rfl ?_); exact fin rfl) rfl rfl ?_ | refine dwg rfl rfl rfl rfl rfl (by (first | refine st_pure (hmy) b12 rfl rfl rfl rfl ?_); exact fin rfl) rfl rfl rfl rfl rfl ?_ | refine dw_dec rfl rfl rfl (fun hg => ?_) (fun hg => ?_) | refine dw_ndec rfl rfl rfl (fun hg => ?_) (fun hg => ?_)
          all_goals first
            | (exfalso; omega)
            | (exfalso; simp only at *; omega)
            | (refine f_r [] rfl trivial rfl ⟨?_, rfl⟩; rfl)
        · simp only [if_true] at hgp
          subst hgp
          repeat' first | refine o_frzA (f := 12) rfl rfl rfl rfl (by (repeat' first | exact trivial | refine And.intro ?_ ?_ | rfl); first | done | fail) (by (repeat' first | exact trivial | refine And.intro ?_ ?_ | rfl); first | done | fail) rfl rfl ?_ | refine wr (by omega) ?_ | refine ln ?_ | refine stp lay_ok rfl ?_ | refine fin ?_ | refine n_thn ?_ | refine n_blk ?_ | refine e_thn ?_ | refine e_hit ?_ | refine e_miss rfl ?_ | refine r_thn ?_ | refine r_blk ?_ | refine e_rr ?_ | refine r_rr ?_ | refine e_cr ?_ | refine r_cr ?_ | refine .seq ?_ | refine reg ?_ | refine .block ?_ | refine .skip ?_ | refine .ret ?_ | refine .exit ?_ | refine cndT rfl ?_ | refine cndF rfl ?_ | refine c_dec rfl (fun hc => ?_) (fun hc => ?_) | refine c_ndec rfl (fun hc => ?_) (fun hc => ?_) | refine cnd rfl (fun hc => ?_) (fun hc => ?_) | ((first | refine o_none rfl ?_ | refine o_none_ ?_ | refine o_yes rfl rfl rfl ?_ | refine o_yes_ rfl rfl ?_); first | refine st_pure (hmy) b12 rfl rfl rfl rfl ?_) | refine gd rfl rfl rfl (fun hg => ?_) (fun hg => ?_) | refine gn rfl rfl rfl (fun hg => ?_) (fun hg => ?_) | refine dwr (by omega) ?_ | refine dwl ?_ | refine dws lay_ok rfl rfl rfl rfl rfl rfl rfl ?_ | refine dwu lay_ok rfl rfl rfl rfl rfl rfl rfl rfl rfl ?_ | refine dw_end ?_ | refine dw_skip rfl rfl rfl ?_ | refine dwn lay_ok rfl rfl rfl rfl rfl ?_ | refine dwb rfl rfl rfl rfl rfl (by (first | refine st_pure (hmy) b12 rfl rfl rfl rfl ?_); exact fin rfl) rfl rfl ?_ | refine dwg rfl rfl rfl rfl rfl (by (first | refine st_pure (hmy) b12 rfl rfl rfl rfl ?_); exact fin rfl) rfl rfl rfl rfl rfl ?_ | refine dw_dec rfl rfl rfl (fun hg => ?_) (fun hg => ?_) | refine dw_ndec rfl rfl rfl (fun hg => ?_) (fun hg => ?_)
          all_goals first
            | (exfalso; omega)
            | (exfalso; simp only at *; omega)
            | (refine f_r [] rfl trivial rfl ⟨?_, rfl⟩; rfl)
    · simp only [Bool.true_or, if_true] at hgp
      subst hgp
      repeat' first | refine wr (by omega) ?_ | refine ln ?_ | refine stp lay_ok rfl ?_ | refine fin ?_ | refine n_thn ?_ | refine n_blk ?_ | refine e_thn ?_ | refine e_hit ?_ | refine e_miss rfl ?_ | refine r_thn ?_ | refine r_blk ?_ | refine e_rr ?_ | refine r_rr ?_ | refine e_cr ?_ | refine r_cr ?_ | refine .seq ?_ | refine reg ?_ | refine .block ?_ | refine .skip ?_ | refine .ret ?_ | refine .exit ?_ | refine cndT rfl ?_ | refine cndF rfl ?_ | refine c_dec rfl (fun hc => ?_) (fun hc => ?_) | refine c_ndec rfl (fun hc => ?_) (fun hc => ?_) | refine cnd rfl (fun hc => ?_) (fun hc => ?_) | refine gd rfl rfl rfl (fun hg => ?_) (fun hg => ?_) | refine gn rfl rfl rfl (fun hg => ?_) (fun hg => ?_) | refine dwr (by omega) ?_ | refine dwl ?_ | refine dws lay_ok rfl rfl rfl rfl rfl rfl rfl ?_ | refine dwu lay_ok rfl rfl rfl rfl rfl rfl rfl rfl rfl ?_ | refine dw_end ?_ | refine dw_skip rfl rfl rfl ?_ | refine dwn lay_ok rfl rfl rfl rfl rfl ?_ | refine dw_dec rfl rfl rfl (fun hg => ?_) (fun hg => ?_) | refine dw_ndec rfl rfl rfl (fun hg => ?_) (fun hg => ?_)
      all_goals first
        | (exfalso; omega)
        | (refine f_r [] rfl trivial rfl ⟨?_, rfl⟩; rfl)
  have hbf : bad = false := by cases bad <;> simp_all
  subst hbf
  have hf0 : f ≠ 0 := fun h => hex (.inl h)
  obtain ⟨f', rfl⟩ : ∃ f', f = f' + 1 := ⟨f - 1, by omega⟩
  clear hex
  have hst : snapsP b (f' + 1) ⟨q, false⟩ l = snapsP b f' (snapP b ⟨q, false⟩).2 (l ++ [(snapP b ⟨q, false⟩).1]) := by rw [snapsP, if_neg (by simp)]
  rw [hst] at hgp g4
  clear hst
  have hsl := snapP_le (s := ⟨q, false⟩) g1
  have hsp : snapP b ⟨q, false⟩ = (⟨(numR b ⟨q, false⟩).1, (refT b (numR b ⟨q, false⟩).2).1, decide (((numM b (refT b (numR b ⟨q, false⟩).2).2 1).1 : Int) = 1), (entsP b (numR b (numM b (refT b (numR b ⟨q, false⟩).2).2 1).2).1 (numR b (numM b (refT b (numR b ⟨q, false⟩).2).2 1).2).2 []).1⟩, (entsP b (numR b (numM b (refT b (numR b ⟨q, false⟩).2).2 1).2).1 (numR b (numM b (refT b (numR b ⟨q, false⟩).2).2 1).2).2 []).2) := rfl
  generalize snapP b ⟨q, false⟩ = SP at *
  -- the snapshot's head
  have hN1 := refRNum_ok b ⟨q, false⟩ 65536 hb g1 (Nat.le_refl _)
  rw [numM_numR] at hN1
  have hle1 := numR_le (b := b) (s := ⟨q, false⟩) g1
  generalize numR b ⟨q, false⟩ = r1 at *
  obtain ⟨c, s1⟩ := r1
  simp only at *
  have hT1 := refRText_ok b s1 hb hle1.1
  have hle2 := refT_le hle1.1
  generalize refT b s1 = r2 at *
  obtain ⟨p, s2⟩ := r2
  simp only at *
  have hM1 := refRNum_ok b s2 1 hb hle2.1 (by decide)
  have hle3 := numM_le (most := 1) hle2.1
  generalize numM b s2 1 = r3 at *
  obtain ⟨d, s3⟩ := r3
  simp only at *
  have hN2 := refRNum_ok b s3 65536 hb hle3.1 (Nat.le_refl _)
  rw [numM_numR] at hN2
  have hle4 := numR_le (b := b) hle3.1
  generalize numR b s3 = r4 at *
  obtain ⟨m, s4⟩ := r4
  simp only at *
  generalize hz : decide ((d : Int) = 1) = z at *
  repeat' first | refine wr (by omega) ?_ | refine ln ?_ | refine stp lay_ok rfl ?_ | refine fin ?_ | refine n_thn ?_ | refine n_blk ?_ | refine e_thn ?_ | refine e_hit ?_ | refine e_miss rfl ?_ | refine r_thn ?_ | refine r_blk ?_ | refine e_rr ?_ | refine r_rr ?_ | refine e_cr ?_ | refine r_cr ?_ | refine .seq ?_ | refine reg ?_ | refine .block ?_ | refine .skip ?_ | refine .ret ?_ | refine .exit ?_ | refine cndT rfl ?_ | refine cndF rfl ?_ | refine c_dec rfl (fun hc => ?_) (fun hc => ?_) | refine c_ndec rfl (fun hc => ?_) (fun hc => ?_) | refine cnd rfl (fun hc => ?_) (fun hc => ?_) | ((first | refine o_none rfl ?_ | refine o_none_ ?_ | refine o_yes rfl rfl rfl ?_ | refine o_yes_ rfl rfl ?_); first | refine st_callF 0 (hN1) b22 rfl rfl rfl rfl rfl rfl (by (repeat' first | exact trivial | refine And.intro ?_ ?_ | rfl); first | done | fail) rfl ?_ | refine st_callF 0 (hT1) b23 rfl rfl rfl rfl rfl rfl (by (repeat' first | exact trivial | refine And.intro ?_ ?_ | rfl); first | done | fail) rfl ?_ | refine st_callF 0 (hM1) b22 rfl rfl rfl rfl rfl rfl (by (repeat' first | exact trivial | refine And.intro ?_ ?_ | rfl); first | done | fail) rfl ?_ | refine st_callF 0 (hN2) b22 rfl rfl rfl rfl rfl rfl (by (repeat' first | exact trivial | refine And.intro ?_ ?_ | rfl); first | done | fail) rfl ?_) | refine gd rfl rfl rfl (fun hg => ?_) (fun hg => ?_) | refine gn rfl rfl rfl (fun hg => ?_) (fun hg => ?_) | refine dwr (by omega) ?_ | refine dwl ?_ | refine dws lay_ok rfl rfl rfl rfl rfl rfl rfl ?_ | refine dwu lay_ok rfl rfl rfl rfl rfl rfl rfl rfl rfl ?_ | refine dw_end ?_ | refine dw_skip rfl rfl rfl ?_ | refine dwn lay_ok rfl rfl rfl rfl rfl ?_ | refine dwb rfl rfl rfl rfl rfl (by (first | refine st_callF 0 (hN1) b22 rfl rfl rfl rfl rfl rfl (by (repeat' first | exact trivial | refine And.intro ?_ ?_ | rfl); first | done | fail) rfl ?_ | refine st_callF 0 (hT1) b23 rfl rfl rfl rfl rfl rfl (by (repeat' first | exact trivial | refine And.intro ?_ ?_ | rfl); first | done | fail) rfl ?_ | refine st_callF 0 (hM1) b22 rfl rfl rfl rfl rfl rfl (by (repeat' first | exact trivial | refine And.intro ?_ ?_ | rfl); first | done | fail) rfl ?_ | refine st_callF 0 (hN2) b22 rfl rfl rfl rfl rfl rfl (by (repeat' first | exact trivial | refine And.intro ?_ ?_ | rfl); first | done | fail) rfl ?_); exact fin rfl) rfl rfl ?_ | refine dwg rfl rfl rfl rfl rfl (by (first | refine st_callF 0 (hN1) b22 rfl rfl rfl rfl rfl rfl (by (repeat' first | exact trivial | refine And.intro ?_ ?_ | rfl); first | done | fail) rfl ?_ | refine st_callF 0 (hT1) b23 rfl rfl rfl rfl rfl rfl (by (repeat' first | exact trivial | refine And.intro ?_ ?_ | rfl); first | done | fail) rfl ?_ | refine st_callF 0 (hM1) b22 rfl rfl rfl rfl rfl rfl (by (repeat' first | exact trivial | refine And.intro ?_ ?_ | rfl); first | done | fail) rfl ?_ | refine st_callF 0 (hN2) b22 rfl rfl rfl rfl rfl rfl (by (repeat' first | exact trivial | refine And.intro ?_ ?_ | rfl); first | done | fail) rfl ?_); exact fin rfl) rfl rfl rfl rfl rfl ?_ | refine dw_dec rfl rfl rfl (fun hg => ?_) (fun hg => ?_) | refine dw_ndec rfl rfl rfl (fun hg => ?_) (fun hg => ?_)
  all_goals first
    | (exfalso; omega)
    | skip
  rw [hz]
  clear hN0 hN1 hN2 hM1 hT1
  refine CodeOk.wk (Wk.nilC 3 3 3 rfl rfl rfl rfl rfl) (Nat.le_succ _) ?_
  refine nrm rfl rfl ?_
  generalize hM4 : entsP b m s4 [] = M4 at *
  refine lpR (fun (s, es, j, g) => s.at_ ≤ b.length ∧ es.length + g ≤ 65536 ∧ j + g = m ∧ M4 = entsP b g s es) (fun (s, es, j, g) => g) (fun (s, es, j, g) => [(11, I j)]) (fun (s, es, j, g) => [(0, rcell b s), (3, .cells [.st (.int .i64 (c : Int)), .st (.str p), .st (.bool z), .lsl 5 3 0 (es.map rowE).length]), (5, .arr 3 (es.map rowE))]) ((s4, [], 0, m)) [0, 4, 5, 6, 7, 8, 10] [0, 3] [4] rfl rfl rfl (.of [4] (by (repeat' first | exact trivial | refine And.intro ?_ ?_ | rfl); first | done | fail) (by (repeat' first | exact trivial | refine And.intro ?_ ?_ | rfl); first | done | fail) rfl) ?_ ?_
  · exact ⟨hle4.1, by simp; omega, by omega, hM4.symm⟩
  rintro ⟨⟨q2, bad⟩, es, j, g⟩ ⟨k1, k2, k3, k4⟩
  refine nrm rfl rfl ?_
  rw [k4] at hsp
  have hme : (List.map rowE es).length = es.length := List.length_map _
  by_cases hex : g = 0 ∨ bad = true
  · have hsn : entsP b g ⟨q2, bad⟩ es = (es, ⟨q2, bad⟩) := by
      rcases hex with rfl | rfl
      · rfl
      · exact entsP_bad rfl
    rw [hsn] at hsp
    simp only at hsp
    subst hsp
    simp only at hsl hgp
    have hr : List.map rowN l ++ [rowN ⟨c, p, z, es⟩] = List.map rowN (l ++ [⟨c, p, z, es⟩]) := by rw [List.map_append]; rfl
    cases bad
    all_goals
      repeat' first | refine wr (by omega) ?_ | refine ln ?_ | refine stp lay_ok rfl ?_ | refine fin ?_ | refine n_thn ?_ | refine n_blk ?_ | refine e_thn ?_ | refine e_hit ?_ | refine e_miss rfl ?_ | refine r_thn ?_ | refine r_blk ?_ | refine e_rr ?_ | refine r_rr ?_ | refine e_cr ?_ | refine r_cr ?_ | refine .seq ?_ | refine reg ?_ | refine .block ?_ | refine .skip ?_ | refine .ret ?_ | refine .exit ?_ | refine cndT rfl ?_ | refine cndF rfl ?_ | refine c_dec rfl (fun hc => ?_) (fun hc => ?_) | refine c_ndec rfl (fun hc => ?_) (fun hc => ?_) | refine cnd rfl (fun hc => ?_) (fun hc => ?_) | refine gd rfl rfl rfl (fun hg => ?_) (fun hg => ?_) | refine gn rfl rfl rfl (fun hg => ?_) (fun hg => ?_) | refine dwr (by omega) ?_ | refine dwl ?_ | refine dws lay_ok rfl rfl rfl rfl rfl rfl rfl ?_ | refine dwu lay_ok rfl rfl rfl rfl rfl rfl rfl rfl rfl ?_ | refine dw_end ?_ | refine dw_skip rfl rfl rfl ?_ | refine dwn lay_ok rfl rfl rfl rfl rfl ?_ | refine dw_dec rfl rfl rfl (fun hg => ?_) (fun hg => ?_) | refine dw_ndec rfl rfl rfl (fun hg => ?_) (fun hg => ?_)
      all_goals first
        | (exfalso; simp only [Bool.false_eq_true, or_false] at hex; omega)
        | skip
    all_goals
      refine OpsL.wk (Wk.frz 5 [ 92, 91, 0, 4, 5, 6, 7, 8] rfl rfl rfl (by (repeat' first | exact trivial | refine And.intro ?_ ?_ | rfl); first | done | fail) (by (repeat' first | exact trivial | refine And.intro ?_ ?_ | rfl); first | done | fail) rfl rfl) (Nat.le_refl _) ?_; refine nrmO rfl rfl ?_
      repeat' first | refine wr (by omega) ?_ | refine ln ?_ | refine stp lay_ok rfl ?_ | refine fin ?_ | refine n_thn ?_ | refine n_blk ?_ | refine e_thn ?_ | refine e_hit ?_ | refine e_miss rfl ?_ | refine r_thn ?_ | refine r_blk ?_ | refine e_rr ?_ | refine r_rr ?_ | refine e_cr ?_ | refine r_cr ?_ | refine .seq ?_ | refine reg ?_ | refine .block ?_ | refine .skip ?_ | refine .ret ?_ | refine .exit ?_ | refine cndT rfl ?_ | refine cndF rfl ?_ | refine c_dec rfl (fun hc => ?_) (fun hc => ?_) | refine c_ndec rfl (fun hc => ?_) (fun hc => ?_) | refine cnd rfl (fun hc => ?_) (fun hc => ?_) | ((first | refine o_none rfl ?_ | refine o_none_ ?_ | refine o_yes rfl rfl rfl ?_ | refine o_yes_ rfl rfl ?_); first | refine st_append lay_ok rfl rfl rfl rfl rfl rfl rfl rfl (.lsl rfl rfl) (.sl (rows := [rowN ⟨c, p, z, es⟩])) rfl (rowN_one (b := [⟨c, p, z, es⟩])) (by simp only [List.length_cons, List.length_nil]; omega) (by simp only [List.length_cons, List.length_nil]; omega) ?_) | refine gd rfl rfl rfl (fun hg => ?_) (fun hg => ?_) | refine gn rfl rfl rfl (fun hg => ?_) (fun hg => ?_) | refine dwr (by omega) ?_ | refine dwl ?_ | refine dws lay_ok rfl rfl rfl rfl rfl rfl rfl ?_ | refine dwu lay_ok rfl rfl rfl rfl rfl rfl rfl rfl rfl ?_ | refine dw_end ?_ | refine dw_skip rfl rfl rfl ?_ | refine dwn lay_ok rfl rfl rfl rfl rfl ?_ | refine dwb rfl rfl rfl rfl rfl (by (first | refine st_append lay_ok rfl rfl rfl rfl rfl rfl rfl rfl (.lsl rfl rfl) (.sl (rows := [rowN ⟨c, p, z, es⟩])) rfl (rowN_one (b := [⟨c, p, z, es⟩])) (by simp only [List.length_cons, List.length_nil]; omega) (by simp only [List.length_cons, List.length_nil]; omega) ?_); exact fin rfl) rfl rfl ?_ | refine dwg rfl rfl rfl rfl rfl (by (first | refine st_append lay_ok rfl rfl rfl rfl rfl rfl rfl rfl (.lsl rfl rfl) (.sl (rows := [rowN ⟨c, p, z, es⟩])) rfl (rowN_one (b := [⟨c, p, z, es⟩])) (by simp only [List.length_cons, List.length_nil]; omega) (by simp only [List.length_cons, List.length_nil]; omega) ?_); exact fin rfl) rfl rfl rfl rfl rfl ?_ | refine dw_dec rfl rfl rfl (fun hg => ?_) (fun hg => ?_) | refine dw_ndec rfl rfl rfl (fun hg => ?_) (fun hg => ?_)
      rw [hr]
      refine n_rr ((_, l ++ [⟨c, p, z, es⟩], i + 1, f')) ?_ (.of [6] (by (repeat' first | exact trivial | refine And.intro ?_ ?_ | rfl); first | done | fail) (by (repeat' first | exact trivial | refine And.intro ?_ ?_ | rfl); first | done | fail) rfl) ?_
      · exact Nat.lt_succ_self _
      · refine ⟨hsl.1, by show (l ++ [_]).length + f' ≤ 65536; rw [List.length_append, List.length_singleton]; omega, by show i + 1 + f' = n; omega, g4, fun e he => ?_⟩
        rcases List.mem_append.1 he with he | he
        · exact g5 e he
        · rw [List.mem_singleton] at he; subst he; exact hsl.2
  have hbf : bad = false := by cases bad <;> simp_all
  subst hbf
  have hg0 : g ≠ 0 := fun h => hex (.inl h)
  obtain ⟨g', rfl⟩ : ∃ g', g = g' + 1 := ⟨g - 1, by omega⟩
  clear hex
  have hst : entsP b (g' + 1) ⟨q2, false⟩ es = entsP b g' (entryP b ⟨q2, false⟩).2 (es ++ [(entryP b ⟨q2, false⟩).1]) := by rw [entsP, if_neg (by simp)]
  rw [hst] at hsp k4
  clear hst
  have hel := entryP_le (s := ⟨q2, false⟩) k1
  have hep : entryP b ⟨q2, false⟩ = (⟨(refT b ⟨q2, false⟩).1, (numR b (refT b ⟨q2, false⟩).2).1, (textsP b (numR b (numR b (refT b ⟨q2, false⟩).2).2).1 (numR b (numR b (refT b ⟨q2, false⟩).2).2).2 []).1⟩, (textsP b (numR b (numR b (refT b ⟨q2, false⟩).2).2).1 (numR b (numR b (refT b ⟨q2, false⟩).2).2).2 []).2) := rfl
  generalize entryP b ⟨q2, false⟩ = EP at *
  have hT1 := refRText_ok b ⟨q2, false⟩ hb k1
  have hle5 := refT_le (b := b) (s := ⟨q2, false⟩) k1
  generalize refT b ⟨q2, false⟩ = r5 at *
  obtain ⟨p', s5⟩ := r5
  simp only at *
  have hN1 := refRNum_ok b s5 65536 hb hle5.1 (Nat.le_refl _)
  rw [numM_numR] at hN1
  have hle6 := numR_le (b := b) hle5.1
  generalize numR b s5 = r6 at *
  obtain ⟨z', s6⟩ := r6
  simp only at *
  have hN2 := refRNum_ok b s6 65536 hb hle6.1 (Nat.le_refl _)
  rw [numM_numR] at hN2
  have hle7 := numR_le (b := b) hle6.1
  generalize numR b s6 = r7 at *
  obtain ⟨m', s7⟩ := r7
  simp only at *
  repeat' first | refine wr (by omega) ?_ | refine ln ?_ | refine stp lay_ok rfl ?_ | refine fin ?_ | refine n_thn ?_ | refine n_blk ?_ | refine e_thn ?_ | refine e_hit ?_ | refine e_miss rfl ?_ | refine r_thn ?_ | refine r_blk ?_ | refine e_rr ?_ | refine r_rr ?_ | refine e_cr ?_ | refine r_cr ?_ | refine .seq ?_ | refine reg ?_ | refine .block ?_ | refine .skip ?_ | refine .ret ?_ | refine .exit ?_ | refine cndT rfl ?_ | refine cndF rfl ?_ | refine c_dec rfl (fun hc => ?_) (fun hc => ?_) | refine c_ndec rfl (fun hc => ?_) (fun hc => ?_) | refine cnd rfl (fun hc => ?_) (fun hc => ?_) | ((first | refine o_none rfl ?_ | refine o_none_ ?_ | refine o_yes rfl rfl rfl ?_ | refine o_yes_ rfl rfl ?_); first | refine st_callF 0 (hT1) b23 rfl rfl rfl rfl rfl rfl (by (repeat' first | exact trivial | refine And.intro ?_ ?_ | rfl); first | done | fail) rfl ?_ | refine st_callF 0 (hN1) b22 rfl rfl rfl rfl rfl rfl (by (repeat' first | exact trivial | refine And.intro ?_ ?_ | rfl); first | done | fail) rfl ?_ | refine st_callF 0 (hN2) b22 rfl rfl rfl rfl rfl rfl (by (repeat' first | exact trivial | refine And.intro ?_ ?_ | rfl); first | done | fail) rfl ?_) | refine gd rfl rfl rfl (fun hg => ?_) (fun hg => ?_) | refine gn rfl rfl rfl (fun hg => ?_) (fun hg => ?_) | refine dwr (by omega) ?_ | refine dwl ?_ | refine dws lay_ok rfl rfl rfl rfl rfl rfl rfl ?_ | refine dwu lay_ok rfl rfl rfl rfl rfl rfl rfl rfl rfl ?_ | refine dw_end ?_ | refine dw_skip rfl rfl rfl ?_ | refine dwn lay_ok rfl rfl rfl rfl rfl ?_ | refine dwb rfl rfl rfl rfl rfl (by (first | refine st_callF 0 (hT1) b23 rfl rfl rfl rfl rfl rfl (by (repeat' first | exact trivial | refine And.intro ?_ ?_ | rfl); first | done | fail) rfl ?_ | refine st_callF 0 (hN1) b22 rfl rfl rfl rfl rfl rfl (by (repeat' first | exact trivial | refine And.intro ?_ ?_ | rfl); first | done | fail) rfl ?_ | refine st_callF 0 (hN2) b22 rfl rfl rfl rfl rfl rfl (by (repeat' first | exact trivial | refine And.intro ?_ ?_ | rfl); first | done | fail) rfl ?_); exact fin rfl) rfl rfl ?_ | refine dwg rfl rfl rfl rfl rfl (by (first | refine st_callF 0 (hT1) b23 rfl rfl rfl rfl rfl rfl (by (repeat' first | exact trivial | refine And.intro ?_ ?_ | rfl); first | done | fail) rfl ?_ | refine st_callF 0 (hN1) b22 rfl rfl rfl rfl rfl rfl (by (repeat' first | exact trivial | refine And.intro ?_ ?_ | rfl); first | done | fail) rfl ?_ | refine st_callF 0 (hN2) b22 rfl rfl rfl rfl rfl rfl (by (repeat' first | exact trivial | refine And.intro ?_ ?_ | rfl); first | done | fail) rfl ?_); exact fin rfl) rfl rfl rfl rfl rfl ?_ | refine dw_dec rfl rfl rfl (fun hg => ?_) (fun hg => ?_) | refine dw_ndec rfl rfl rfl (fun hg => ?_) (fun hg => ?_)
  all_goals first
    | (exfalso; omega)
    | skip
  clear hN1 hN2 hT1
  refine CodeOk.wk (Wk.nilC 1 6 2 rfl rfl rfl rfl rfl) (Nat.le_succ _) ?_
  refine nrm rfl rfl ?_
  generalize hL : textsP b m' s7 [] = L at *
  refine lpR (fun (s, ks, k, u) => s.at_ ≤ b.length ∧ ks.length + u ≤ 65536 ∧ k + u = m' ∧ L = textsP b u s ks) (fun (s, ks, k, u) => u) (fun (s, ks, k, u) => [(14, I k)]) (fun (s, ks, k, u) => [(0, rcell b s), (6, .cells [.st (.str p'), .st (.int .i64 (z' : Int)), .lsl 8 1 0 (ks.map rowS).length]), (8, .arr 1 (ks.map rowS))]) ((s7, [], 0, m')) [0, 4, 5, 6, 7, 8, 10, 11, 12, 13] [0, 6] [7] rfl rfl rfl (.of [7] (by (repeat' first | exact trivial | refine And.intro ?_ ?_ | rfl); first | done | fail) (by (repeat' first | exact trivial | refine And.intro ?_ ?_ | rfl); first | done | fail) rfl) ?_ ?_
  · exact ⟨hle7.1, by simp; omega, by omega, hL.symm⟩
  rintro ⟨⟨q3, bad⟩, ks, k, u⟩ ⟨j1, j2, j3, j4⟩
  refine nrm rfl rfl ?_
  have hmk : (List.map rowS ks).length = ks.length := List.length_map _
  by_cases hex : u = 0 ∨ bad = true
  · have hsn : textsP b u ⟨q3, bad⟩ ks = (ks, ⟨q3, bad⟩) := by
      rcases hex with rfl | rfl
      · rfl
      · exact textsP_bad rfl
    rw [hsn] at j4
    subst j4
    simp only at hep
    subst hep
    simp only at hel hsp k4
    have hr : List.map rowE es ++ [rowE ⟨p', z', ks⟩] = List.map rowE (es ++ [⟨p', z', ks⟩]) := by rw [List.map_append]; rfl
    cases bad
    all_goals
      repeat' first | refine wr (by omega) ?_ | refine ln ?_ | refine stp lay_ok rfl ?_ | refine fin ?_ | refine n_thn ?_ | refine n_blk ?_ | refine e_thn ?_ | refine e_hit ?_ | refine e_miss rfl ?_ | refine r_thn ?_ | refine r_blk ?_ | refine e_rr ?_ | refine r_rr ?_ | refine e_cr ?_ | refine r_cr ?_ | refine .seq ?_ | refine reg ?_ | refine .block ?_ | refine .skip ?_ | refine .ret ?_ | refine .exit ?_ | refine cndT rfl ?_ | refine cndF rfl ?_ | refine c_dec rfl (fun hc => ?_) (fun hc => ?_) | refine c_ndec rfl (fun hc => ?_) (fun hc => ?_) | refine cnd rfl (fun hc => ?_) (fun hc => ?_) | refine gd rfl rfl rfl (fun hg => ?_) (fun hg => ?_) | refine gn rfl rfl rfl (fun hg => ?_) (fun hg => ?_) | refine dwr (by omega) ?_ | refine dwl ?_ | refine dws lay_ok rfl rfl rfl rfl rfl rfl rfl ?_ | refine dwu lay_ok rfl rfl rfl rfl rfl rfl rfl rfl rfl ?_ | refine dw_end ?_ | refine dw_skip rfl rfl rfl ?_ | refine dwn lay_ok rfl rfl rfl rfl rfl ?_ | refine dw_dec rfl rfl rfl (fun hg => ?_) (fun hg => ?_) | refine dw_ndec rfl rfl rfl (fun hg => ?_) (fun hg => ?_)
      all_goals first
        | (exfalso; simp only [Bool.false_eq_true, or_false] at hex; omega)
        | skip
    all_goals
      refine OpsL.wk (Wk.frz 8 [ 87, 86, 85, 0, 4, 5, 6, 7, 8, 10, 11, 12] rfl rfl rfl (by (repeat' first | exact trivial | refine And.intro ?_ ?_ | rfl); first | done | fail) (by (repeat' first | exact trivial | refine And.intro ?_ ?_ | rfl); first | done | fail) rfl rfl) (Nat.le_refl _) ?_; refine nrmO rfl rfl ?_
      repeat' first | refine wr (by omega) ?_ | refine ln ?_ | refine stp lay_ok rfl ?_ | refine fin ?_ | refine n_thn ?_ | refine n_blk ?_ | refine e_thn ?_ | refine e_hit ?_ | refine e_miss rfl ?_ | refine r_thn ?_ | refine r_blk ?_ | refine e_rr ?_ | refine r_rr ?_ | refine e_cr ?_ | refine r_cr ?_ | refine .seq ?_ | refine reg ?_ | refine .block ?_ | refine .skip ?_ | refine .ret ?_ | refine .exit ?_ | refine cndT rfl ?_ | refine cndF rfl ?_ | refine c_dec rfl (fun hc => ?_) (fun hc => ?_) | refine c_ndec rfl (fun hc => ?_) (fun hc => ?_) | refine cnd rfl (fun hc => ?_) (fun hc => ?_) | ((first | refine o_none rfl ?_ | refine o_none_ ?_ | refine o_yes rfl rfl rfl ?_ | refine o_yes_ rfl rfl ?_); first | refine st_append lay_ok rfl rfl rfl rfl rfl rfl rfl rfl (.lsl rfl rfl) (.sl (rows := [rowE ⟨p', z', ks⟩])) rfl (rowE_one (b := [⟨p', z', ks⟩])) (by simp only [List.length_cons, List.length_nil]; omega) (by simp only [List.length_cons, List.length_nil]; omega) ?_) | refine gd rfl rfl rfl (fun hg => ?_) (fun hg => ?_) | refine gn rfl rfl rfl (fun hg => ?_) (fun hg => ?_) | refine dwr (by omega) ?_ | refine dwl ?_ | refine dws lay_ok rfl rfl rfl rfl rfl rfl rfl ?_ | refine dwu lay_ok rfl rfl rfl rfl rfl rfl rfl rfl rfl ?_ | refine dw_end ?_ | refine dw_skip rfl rfl rfl ?_ | refine dwn lay_ok rfl rfl rfl rfl rfl ?_ | refine dwb rfl rfl rfl rfl rfl (by (first | refine st_append lay_ok rfl rfl rfl rfl rfl rfl rfl rfl (.lsl rfl rfl) (.sl (rows := [rowE ⟨p', z', ks⟩])) rfl (rowE_one (b := [⟨p', z', ks⟩])) (by simp only [List.length_cons, List.length_nil]; omega) (by simp only [List.length_cons, List.length_nil]; omega) ?_); exact fin rfl) rfl rfl ?_ | refine dwg rfl rfl rfl rfl rfl (by (first | refine st_append lay_ok rfl rfl rfl rfl rfl rfl rfl rfl (.lsl rfl rfl) (.sl (rows := [rowE ⟨p', z', ks⟩])) rfl (rowE_one (b := [⟨p', z', ks⟩])) (by simp only [List.length_cons, List.length_nil]; omega) (by simp only [List.length_cons, List.length_nil]; omega) ?_); exact fin rfl) rfl rfl rfl rfl rfl ?_ | refine dw_dec rfl rfl rfl (fun hg => ?_) (fun hg => ?_) | refine dw_ndec rfl rfl rfl (fun hg => ?_) (fun hg => ?_)
      rw [hr]
      refine n_rr ((_, es ++ [⟨p', z', ks⟩], j + 1, g')) ?_ (.of [9] (by (repeat' first | exact trivial | refine And.intro ?_ ?_ | rfl); first | done | fail) (by (repeat' first | exact trivial | refine And.intro ?_ ?_ | rfl); first | done | fail) rfl) ?_
      · exact Nat.lt_succ_self _
      · refine ⟨hel.1, by show (es ++ [_]).length + g' ≤ 65536; rw [List.length_append, List.length_singleton]; omega, by show j + 1 + g' = m; omega, k4⟩
  have hbf : bad = false := by cases bad <;> simp_all
  subst hbf
  have hu0 : u ≠ 0 := fun h => hex (.inl h)
  obtain ⟨u', rfl⟩ : ∃ u', u = u' + 1 := ⟨u - 1, by omega⟩
  clear hex
  have hst : textsP b (u' + 1) ⟨q3, false⟩ ks = textsP b u' (refT b ⟨q3, false⟩).2 (ks ++ [(refT b ⟨q3, false⟩).1]) := by rw [textsP, if_neg (by simp)]
  rw [hst] at j4
  clear hst
  have hT := refRText_ok b ⟨q3, false⟩ hb j1
  have hle8 := refT_le (b := b) (s := ⟨q3, false⟩) j1
  generalize refT b ⟨q3, false⟩ = r8 at *
  obtain ⟨x, s8⟩ := r8
  simp only at *
  have hr : List.map rowS ks ++ [[SV.str x]] = List.map rowS (ks ++ [x]) := by rw [List.map_append]; rfl
  repeat' first | refine wr (by omega) ?_ | refine ln ?_ | refine stp lay_ok rfl ?_ | refine fin ?_ | refine n_thn ?_ | refine n_blk ?_ | refine e_thn ?_ | refine e_hit ?_ | refine e_miss rfl ?_ | refine r_thn ?_ | refine r_blk ?_ | refine e_rr ?_ | refine r_rr ?_ | refine e_cr ?_ | refine r_cr ?_ | refine .seq ?_ | refine reg ?_ | refine .block ?_ | refine .skip ?_ | refine .ret ?_ | refine .exit ?_ | refine cndT rfl ?_ | refine cndF rfl ?_ | refine c_dec rfl (fun hc => ?_) (fun hc => ?_) | refine c_ndec rfl (fun hc => ?_) (fun hc => ?_) | refine cnd rfl (fun hc => ?_) (fun hc => ?_) | refine gd rfl rfl rfl (fun hg => ?_) (fun hg => ?_) | refine gn rfl rfl rfl (fun hg => ?_) (fun hg => ?_) | refine dwr (by omega) ?_ | refine dwl ?_ | refine dws lay_ok rfl rfl rfl rfl rfl rfl rfl ?_ | refine dwu lay_ok rfl rfl rfl rfl rfl rfl rfl rfl rfl ?_ | refine dw_end ?_ | refine dw_skip rfl rfl rfl ?_ | refine dwn lay_ok rfl rfl rfl rfl rfl ?_ | refine dw_dec rfl rfl rfl (fun hg => ?_) (fun hg => ?_) | refine dw_ndec rfl rfl rfl (fun hg => ?_) (fun hg => ?_)
  all_goals first
    | (exfalso; omega)
    | skip
  refine dreg [(0, [], [80, 81, 82]), (1, [0], [80, 81, 82]), (2, [], [78, 79]), (3, [2], [78, 79]), (4, [2, 3], [78, 79]), (5, [0, 1, 2, 3, 4], []), (6, [0, 1, 2, 3, 4, 5], []), (7, [0, 1, 2, 3, 4, 5, 6], [])] mixed (by kernel_rfl) ?_
  repeat' first | refine wr (by omega) ?_ | refine ln ?_ | refine stp lay_ok rfl ?_ | refine fin ?_ | refine n_thn ?_ | refine n_blk ?_ | refine e_thn ?_ | refine e_hit ?_ | refine e_miss rfl ?_ | refine r_thn ?_ | refine r_blk ?_ | refine e_rr ?_ | refine r_rr ?_ | refine e_cr ?_ | refine r_cr ?_ | refine .seq ?_ | refine reg ?_ | refine .block ?_ | refine .skip ?_ | refine .ret ?_ | refine .exit ?_ | refine cndT rfl ?_ | refine cndF rfl ?_ | refine c_dec rfl (fun hc => ?_) (fun hc => ?_) | refine c_ndec rfl (fun hc => ?_) (fun hc => ?_) | refine cnd rfl (fun hc => ?_) (fun hc => ?_) | ((first | refine o_none rfl ?_ | refine o_none_ ?_ | refine o_yes rfl rfl rfl ?_ | refine o_yes_ rfl rfl ?_); first | refine st_callF 0 (hT) b23 rfl rfl rfl rfl rfl rfl (by (repeat' first | exact trivial | refine And.intro ?_ ?_ | rfl); first | done | fail) rfl ?_ | refine st_append lay_ok rfl rfl rfl rfl rfl rfl rfl rfl (.lsl rfl rfl) .sl rfl (rowS_one (b := [x])) (by simp only [List.length_cons, List.length_nil]; omega) (by simp only [List.length_cons, List.length_nil]; omega) ?_) | refine gd rfl rfl rfl (fun hg => ?_) (fun hg => ?_) | refine gn rfl rfl rfl (fun hg => ?_) (fun hg => ?_) | refine dwr (by omega) ?_ | refine dwl ?_ | refine dws lay_ok rfl rfl rfl rfl rfl rfl rfl ?_ | refine dwu lay_ok rfl rfl rfl rfl rfl rfl rfl rfl rfl ?_ | refine dw_end ?_ | refine dw_skip rfl rfl rfl ?_ | refine dwn lay_ok rfl rfl rfl rfl rfl ?_ | refine dwb rfl rfl rfl rfl rfl (by (first | refine st_callF 0 (hT) b23 rfl rfl rfl rfl rfl rfl (by (repeat' first | exact trivial | refine And.intro ?_ ?_ | rfl); first | done | fail) rfl ?_ | refine st_append lay_ok rfl rfl rfl rfl rfl rfl rfl rfl (.lsl rfl rfl) .sl rfl (rowS_one (b := [x])) (by simp only [List.length_cons, List.length_nil]; omega) (by simp only [List.length_cons, List.length_nil]; omega) ?_); exact fin rfl) rfl rfl ?_ | refine dwg rfl rfl rfl rfl rfl (by (first | refine st_callF 0 (hT) b23 rfl rfl rfl rfl rfl rfl (by (repeat' first | exact trivial | refine And.intro ?_ ?_ | rfl); first | done | fail) rfl ?_ | refine st_append lay_ok rfl rfl rfl rfl rfl rfl rfl rfl (.lsl rfl rfl) .sl rfl (rowS_one (b := [x])) (by simp only [List.length_cons, List.length_nil]; omega) (by simp only [List.length_cons, List.length_nil]; omega) ?_); exact fin rfl) rfl rfl rfl rfl rfl ?_ | refine dw_dec rfl rfl rfl (fun hg => ?_) (fun hg => ?_) | refine dw_ndec rfl rfl rfl (fun hg => ?_) (fun hg => ?_)
  rw [hr]
  refine n_rr ((s8, ks ++ [x], k + 1, u')) ?_ (.of [9] (by (repeat' first | exact trivial | refine And.intro ?_ ?_ | rfl); first | done | fail) (by (repeat' first | exact trivial | refine And.intro ?_ ?_ | rfl); first | done | fail) rfl) ?_
  · exact Nat.lt_succ_self _
  · exact ⟨hle8.1, by show (ks ++ [x]).length + u' ≤ 65536; rw [List.length_append, List.length_singleton]; omega, by show k + 1 + u' = m'; omega, j4⟩
end Go.Proofs.YtgjoloaajocafaaDoorFn
namespace Go.Proofs.YtgjoloaajocafaaDoorFn
open Go.Proofs.YtgjoloaajocafaaDoorAl Go.Proofs.Tryd
attribute [local irreducible] IntKind.wrap CodeOk OpsL OpG ACalls thn inBlk rndR cutR WkR Wk fnR DW ExtOk partsOf
theorem fromF_mem : ∀ (ahead l : List NV), fromF ahead l = true → ∀ s ∈ l, ∃ a, mayN a s = true
  | _, [], _, s, h => by cases h
  | ahead, x :: r, h, s, hm => by
    rw [fromF, Bool.and_eq_true] at h
    rcases List.mem_cons.1 hm with rfl | hm
    · exact ⟨_, h.1⟩
    · exact fromF_mem _ _ h.2 s hm
theorem snapsR_ok (b : List UInt8) (l0 : List NV) (h : getR b = some l0) : l0.length ≤ 65536 ∧ ∀ s ∈ l0, s.fit := by
  simp only [getR] at h
  split at h
  · cases h
  · split at h
    · cases h
      have h0 := numR_le (b := b) (s := ⟨0, false⟩) (Nat.zero_le _)
      have h1 := snapsR_le b (numR b ⟨0, false⟩).1 (numR b ⟨0, false⟩).2 [] h0.1 (fun e he => by cases he)
      refine ⟨?_, fun s hs => (h1.2.2 s hs).fit⟩
      have h2 := h1.2.1
      simp only [List.length_nil] at h2
      exact Nat.le_trans h2 (by omega)
    · cases h
theorem lawGets_ok (b : List UInt8) (hb : b.length ≤ 140737488351232) : ACalls prog 3 0 [Bs b] [] fun r h => r = B true ∧ h = [] := by
  have hlm : (List.map rowB b).length = b.length := List.length_map _
  refine fnC lay_ok func3 rfl rfl rfl rfl rfl ?_
  by_cases hx : 20000 < b.length
  · repeat' first | refine wr (by omega) ?_ | refine ln ?_ | refine stp lay_ok rfl ?_ | refine fin ?_ | refine n_thn ?_ | refine n_blk ?_ | refine e_thn ?_ | refine e_hit ?_ | refine e_miss rfl ?_ | refine r_thn ?_ | refine r_blk ?_ | refine e_rr ?_ | refine r_rr ?_ | refine e_cr ?_ | refine r_cr ?_ | refine .seq ?_ | refine reg ?_ | refine .block ?_ | refine .skip ?_ | refine .ret ?_ | refine .exit ?_ | refine cndT rfl ?_ | refine cndF rfl ?_ | refine c_dec rfl (fun hc => ?_) (fun hc => ?_) | refine c_ndec rfl (fun hc => ?_) (fun hc => ?_) | refine cnd rfl (fun hc => ?_) (fun hc => ?_) | ((first | refine o_none rfl ?_ | refine o_none_ ?_ | refine o_yes rfl rfl rfl ?_ | refine o_yes_ rfl rfl ?_); first | refine st_pure (up_ok) b6 rfl rfl rfl rfl ?_) | refine gd rfl rfl rfl (fun hg => ?_) (fun hg => ?_) | refine gn rfl rfl rfl (fun hg => ?_) (fun hg => ?_)
    all_goals first
      | (exfalso; omega)
      | (refine f_r [] rfl trivial rfl ⟨?_, rfl⟩; rfl)
  have hr := refGet10_ok b (by omega)
  rw [getP_eq] at hr
  cases hg : getR b with
  | none =>
    rw [hg] at hr
    have hi := get_no b (by omega) hg
    repeat' first | refine wr (by omega) ?_ | refine ln ?_ | refine stp lay_ok rfl ?_ | refine fin ?_ | refine n_thn ?_ | refine n_blk ?_ | refine e_thn ?_ | refine e_hit ?_ | refine e_miss rfl ?_ | refine r_thn ?_ | refine r_blk ?_ | refine e_rr ?_ | refine r_rr ?_ | refine e_cr ?_ | refine r_cr ?_ | refine .seq ?_ | refine reg ?_ | refine .block ?_ | refine .skip ?_ | refine .ret ?_ | refine .exit ?_ | refine cndT rfl ?_ | refine cndF rfl ?_ | refine c_dec rfl (fun hc => ?_) (fun hc => ?_) | refine c_ndec rfl (fun hc => ?_) (fun hc => ?_) | refine cnd rfl (fun hc => ?_) (fun hc => ?_) | ((first | refine o_none rfl ?_ | refine o_none_ ?_ | refine o_yes rfl rfl rfl ?_ | refine o_yes_ rfl rfl ?_); first | refine st_pure (up_ok) b6 rfl rfl rfl rfl ?_ | refine st_pure (hi) b7 rfl rfl rfl rfl ?_ | refine st_pure (hr) b8 rfl rfl rfl rfl ?_) | refine gd rfl rfl rfl (fun hg => ?_) (fun hg => ?_) | refine gn rfl rfl rfl (fun hg => ?_) (fun hg => ?_)
    all_goals first
      | (exfalso; omega)
      | (refine f_r [] rfl trivial rfl ⟨?_, rfl⟩; rfl)
  | some l0 =>
    rw [hg] at hr
    have hi := get_ok b l0 (by omega) hg
    have hf := snapsR_ok b l0 hg
    have hsn := snaps_ok l0 (by omega) hf.2
    have hsm := same9_ok l0 l0 (by omega) (by omega) hf.2 hf.2
    rw [decide_eq_true rfl] at hsm
    repeat' first | refine o_frb 0 [.sl 4 (l0.map rowN)] rfl rfl rfl (by (repeat' first | exact trivial | refine And.intro ?_ ?_ | rfl); first | done | fail) (by (repeat' first | exact trivial | refine And.intro ?_ ?_ | rfl); first | done | fail) rfl rfl ?_ | refine wr (by omega) ?_ | refine ln ?_ | refine stp lay_ok rfl ?_ | refine fin ?_ | refine n_thn ?_ | refine n_blk ?_ | refine e_thn ?_ | refine e_hit ?_ | refine e_miss rfl ?_ | refine r_thn ?_ | refine r_blk ?_ | refine e_rr ?_ | refine r_rr ?_ | refine e_cr ?_ | refine r_cr ?_ | refine .seq ?_ | refine reg ?_ | refine .block ?_ | refine .skip ?_ | refine .ret ?_ | refine .exit ?_ | refine cndT rfl ?_ | refine cndF rfl ?_ | refine c_dec rfl (fun hc => ?_) (fun hc => ?_) | refine c_ndec rfl (fun hc => ?_) (fun hc => ?_) | refine cnd rfl (fun hc => ?_) (fun hc => ?_) | ((first | refine o_none rfl ?_ | refine o_none_ ?_ | refine o_yes rfl rfl rfl ?_ | refine o_yes_ rfl rfl ?_); first | refine st_pure (up_ok) b6 rfl rfl rfl rfl ?_ | refine st_callF 1 (hi) b7 rfl rfl rfl rfl rfl rfl (by (repeat' first | exact trivial | refine And.intro ?_ ?_ | rfl); first | done | fail) rfl ?_ | refine st_pure (hr) b8 rfl rfl rfl rfl ?_ | refine st_pure (hsn) b10 rfl rfl rfl rfl ?_ | refine st_pure (hsm) b9 rfl rfl rfl rfl ?_) | refine gd rfl rfl rfl (fun hg => ?_) (fun hg => ?_) | refine gn rfl rfl rfl (fun hg => ?_) (fun hg => ?_)
    all_goals first
      | (exfalso; omega)
      | (refine f_r [] rfl trivial rfl ⟨?_, rfl⟩; rfl)
end Go.Proofs.YtgjoloaajocafaaDoorFn
namespace Go.Proofs.YtgjoloaajocafaaDoorFn
open Go.Proofs.YtgjoloaajocafaaDoorAl Go.Proofs.Tryd
attribute [local irreducible] IntKind.wrap CodeOk OpsL OpG ACalls thn inBlk rndR cutR WkR Wk fnR DW ExtOk partsOf
theorem b26 : HasBody prog 26 := ⟨f26, func26, Option.some_ne_none _, by decide⟩
theorem b11 : HasBody prog 11 := ⟨f11, func11, Option.some_ne_none _, by decide⟩
theorem b32 : HasBody prog 32 := ⟨f32, func32, Option.some_ne_none _, by decide⟩
theorem b17 : HasBody prog 17 := ⟨f17, func17, Option.some_ne_none _, by decide⟩
theorem b16 : HasBody prog 16 := ⟨f16, func16, Option.some_ne_none _, by decide⟩
def shortK (l : List ByteArray) : Bool := l.all fun k => decide (k.size ≤ 2000)
def shortV (e : EV) : Bool := decide (e.path.size ≤ 2000) && decide (e.keys.length ≤ 1200) && shortK e.keys
def shortE (l : List EV) : Bool := decide (l.length ≤ 100) && l.all shortV
def shortN (l : List NV) : Bool := decide (l.length ≤ 100) && l.all fun s => shortE s.entries && decide (s.name.size ≤ 2000)
set_option maxRecDepth 4000 in
theorem short4_ok (l : List EV) : ACalls prog 26 0 [.st (.sl 3 (l.map rowE))] [] fun r h => r = B (shortE l) ∧ h = [] := by
  have hm : (List.map rowE l).length = l.length := List.length_map _
  have hW : shortE l = (decide (l.length ≤ 100) && l.all shortV) := rfl
  generalize shortE l = W at *
  refine fnC lay_ok func26 rfl rfl rfl rfl rfl ?_
  repeat' first | refine wr (by omega) ?_ | refine ln ?_ | refine stp lay_ok rfl ?_ | refine fin ?_ | refine n_thn ?_ | refine n_blk ?_ | refine e_thn ?_ | refine e_hit ?_ | refine e_miss rfl ?_ | refine r_thn ?_ | refine r_blk ?_ | refine e_rr ?_ | refine r_rr ?_ | refine e_cr ?_ | refine r_cr ?_ | refine .seq ?_ | refine reg ?_ | refine .block ?_ | refine .skip ?_ | refine .ret ?_ | refine .exit ?_ | refine cndT rfl ?_ | refine cndF rfl ?_ | refine c_dec rfl (fun hc => ?_) (fun hc => ?_) | refine c_ndec rfl (fun hc => ?_) (fun hc => ?_) | refine cnd rfl (fun hc => ?_) (fun hc => ?_) | refine gd rfl rfl rfl (fun hg => ?_) (fun hg => ?_) | refine gn rfl rfl rfl (fun hg => ?_) (fun hg => ?_)
  · refine f_r [] rfl trivial rfl ⟨?_, rfl⟩
    rw [hW, decide_eq_false (by omega)]; rfl
  have h100 : l.length ≤ 100 := by omega
  rw [decide_eq_true h100, Bool.true_and] at hW
  refine lpR (fun k => k ≤ l.length ∧ (l.take k).all shortV = true) (fun k => l.length - k) (fun k => [(3, I k)]) (fun k => []) (0) [0] [] [] rfl rfl rfl (.of [] (by (repeat' first | exact trivial | refine And.intro ?_ ?_ | rfl); first | done | fail) (by (repeat' first | exact trivial | refine And.intro ?_ ?_ | rfl); first | done | fail) rfl) ?_ ?_
  · exact ⟨Nat.zero_le _, rfl⟩
  rintro k ⟨h1, h2⟩
  refine nrm rfl rfl ?_
  by_cases hk : k < l.length
  case neg =>
    have hke : k = l.length := by omega
    subst hke
    rw [List.take_length] at h2
    repeat' first | refine wr (by omega) ?_ | refine ln ?_ | refine stp lay_ok rfl ?_ | refine fin ?_ | refine n_thn ?_ | refine n_blk ?_ | refine e_thn ?_ | refine e_hit ?_ | refine e_miss rfl ?_ | refine r_thn ?_ | refine r_blk ?_ | refine e_rr ?_ | refine r_rr ?_ | refine e_cr ?_ | refine r_cr ?_ | refine .seq ?_ | refine reg ?_ | refine .block ?_ | refine .skip ?_ | refine .ret ?_ | refine .exit ?_ | refine cndT rfl ?_ | refine cndF rfl ?_ | refine c_dec rfl (fun hc => ?_) (fun hc => ?_) | refine c_ndec rfl (fun hc => ?_) (fun hc => ?_) | refine cnd rfl (fun hc => ?_) (fun hc => ?_) | refine gd rfl rfl rfl (fun hg => ?_) (fun hg => ?_) | refine gn rfl rfl rfl (fun hg => ?_) (fun hg => ?_)
    all_goals first
      | (exfalso; omega)
      | (refine f_r [] rfl trivial rfl ⟨?_, rfl⟩; rw [hW, h2]; rfl)
  have hat := at_rowE hk
  have ha := all_take (p := shortV) hk
  have hna := all_not (p := shortV) hk
  have hsv : shortV l[k] = (decide (l[k].path.size ≤ 2000) && decide (l[k].keys.length ≤ 1200) && shortK l[k].keys) := rfl
  generalize l[k] = e at *
  obtain ⟨p, z, ks⟩ := e
  simp only at hsv
  generalize shortV ⟨p, z, ks⟩ = V at *
  have hmk : (List.map rowS ks).length = ks.length := List.length_map _
  by_cases hc1 : p.size ≤ 2000 ∧ ks.length ≤ 1200
  case neg =>
    have hV : V = false := by
      rw [hsv]
      rcases Nat.lt_or_ge 2000 p.size with h | h
      · rw [decide_eq_false (by omega)]; rfl
      · rw [decide_eq_false (p := ks.length ≤ 1200) (by omega)]; simp
    have hWf := hW.trans (hna hV)
    repeat' first | refine wr (by omega) ?_ | refine ln ?_ | refine stp lay_ok rfl ?_ | refine fin ?_ | refine n_thn ?_ | refine n_blk ?_ | refine e_thn ?_ | refine e_hit ?_ | refine e_miss rfl ?_ | refine r_thn ?_ | refine r_blk ?_ | refine e_rr ?_ | refine r_rr ?_ | refine e_cr ?_ | refine r_cr ?_ | refine .seq ?_ | refine reg ?_ | refine .block ?_ | refine .skip ?_ | refine .ret ?_ | refine .exit ?_ | refine cndT rfl ?_ | refine cndF rfl ?_ | refine c_dec rfl (fun hc => ?_) (fun hc => ?_) | refine c_ndec rfl (fun hc => ?_) (fun hc => ?_) | refine cnd rfl (fun hc => ?_) (fun hc => ?_) | ((first | refine o_none rfl ?_ | refine o_none_ ?_ | refine o_yes rfl rfl rfl ?_ | refine o_yes_ rfl rfl ?_); first | refine st_index (rowE ⟨p, z, ks⟩) lay_ok rfl rfl rfl rfl (by omega) hat ?_) | refine gd rfl rfl rfl (fun hg => ?_) (fun hg => ?_) | refine gn rfl rfl rfl (fun hg => ?_) (fun hg => ?_)
    all_goals first
      | (exfalso; omega)
      | (refine f_r [] rfl trivial rfl ⟨?_, rfl⟩; rw [hWf]; rfl)
      | (exfalso; simp only at *; omega)
  rw [decide_eq_true hc1.1, decide_eq_true hc1.2, Bool.true_and, Bool.true_and] at hsv
  repeat' first | refine wr (by omega) ?_ | refine ln ?_ | refine stp lay_ok rfl ?_ | refine fin ?_ | refine n_thn ?_ | refine n_blk ?_ | refine e_thn ?_ | refine e_hit ?_ | refine e_miss rfl ?_ | refine r_thn ?_ | refine r_blk ?_ | refine e_rr ?_ | refine r_rr ?_ | refine e_cr ?_ | refine r_cr ?_ | refine .seq ?_ | refine reg ?_ | refine .block ?_ | refine .skip ?_ | refine .ret ?_ | refine .exit ?_ | refine cndT rfl ?_ | refine cndF rfl ?_ | refine c_dec rfl (fun hc => ?_) (fun hc => ?_) | refine c_ndec rfl (fun hc => ?_) (fun hc => ?_) | refine cnd rfl (fun hc => ?_) (fun hc => ?_) | ((first | refine o_none rfl ?_ | refine o_none_ ?_ | refine o_yes rfl rfl rfl ?_ | refine o_yes_ rfl rfl ?_); first | refine st_index (rowE ⟨p, z, ks⟩) lay_ok rfl rfl rfl rfl (by omega) hat ?_) | refine gd rfl rfl rfl (fun hg => ?_) (fun hg => ?_) | refine gn rfl rfl rfl (fun hg => ?_) (fun hg => ?_)
  all_goals first
    | (exfalso; omega)
    | (exfalso; simp only at *; omega)
    | skip
  refine lpR (fun j => j ≤ ks.length ∧ shortK (ks.take j) = true) (fun j => ks.length - j) (fun j => [(4, I j)]) (fun j => []) (0) [0, 3] [] [] rfl rfl rfl (.of [] (by (repeat' first | exact trivial | refine And.intro ?_ ?_ | rfl); first | done | fail) (by (repeat' first | exact trivial | refine And.intro ?_ ?_ | rfl); first | done | fail) rfl) ?_ ?_
  · exact ⟨Nat.zero_le _, rfl⟩
  rintro j ⟨j1, j2⟩
  refine nrm rfl rfl ?_
  by_cases hj : j < ks.length
  · have hatk := at_rowS hj
    have hak := all_take (p := fun k : ByteArray => decide (k.size ≤ 2000)) hj
    have hnk := all_not (p := fun k : ByteArray => decide (k.size ≤ 2000)) hj
    generalize ks[j] = x at *
    by_cases hx : x.size ≤ 2000
    · repeat' first | refine wr (by omega) ?_ | refine ln ?_ | refine stp lay_ok rfl ?_ | refine fin ?_ | refine n_thn ?_ | refine n_blk ?_ | refine e_thn ?_ | refine e_hit ?_ | refine e_miss rfl ?_ | refine r_thn ?_ | refine r_blk ?_ | refine e_rr ?_ | refine r_rr ?_ | refine e_cr ?_ | refine r_cr ?_ | refine .seq ?_ | refine reg ?_ | refine .block ?_ | refine .skip ?_ | refine .ret ?_ | refine .exit ?_ | refine cndT rfl ?_ | refine cndF rfl ?_ | refine c_dec rfl (fun hc => ?_) (fun hc => ?_) | refine c_ndec rfl (fun hc => ?_) (fun hc => ?_) | refine cnd rfl (fun hc => ?_) (fun hc => ?_) | ((first | refine o_none rfl ?_ | refine o_none_ ?_ | refine o_yes rfl rfl rfl ?_ | refine o_yes_ rfl rfl ?_); first | refine st_index (rowE ⟨p, z, ks⟩) lay_ok rfl rfl rfl rfl (by omega) hat ?_ | refine st_index (rowS x) lay_ok rfl rfl rfl rfl (by omega) hatk ?_) | refine gd rfl rfl rfl (fun hg => ?_) (fun hg => ?_) | refine gn rfl rfl rfl (fun hg => ?_) (fun hg => ?_)
      all_goals first
        | (exfalso; omega)
        | (exfalso; simp only at *; omega)
        | skip
      refine n_rr (j + 1) ?_ (.of [] (by (repeat' first | exact trivial | refine And.intro ?_ ?_ | rfl); first | done | fail) (by (repeat' first | exact trivial | refine And.intro ?_ ?_ | rfl); first | done | fail) rfl) ?_
      · omega
      · refine ⟨hj, ?_⟩
        show (List.take (j + 1) ks).all (fun k : ByteArray => decide (k.size ≤ 2000)) = true
        rw [hak, show (List.take j ks).all (fun k : ByteArray => decide (k.size ≤ 2000)) = true from j2, decide_eq_true hx]; rfl
    · have hkf : shortK ks = false := hnk (decide_eq_false hx)
      have hWf := hW.trans (hna (hsv.trans hkf))
      repeat' first | refine wr (by omega) ?_ | refine ln ?_ | refine stp lay_ok rfl ?_ | refine fin ?_ | refine n_thn ?_ | refine n_blk ?_ | refine e_thn ?_ | refine e_hit ?_ | refine e_miss rfl ?_ | refine r_thn ?_ | refine r_blk ?_ | refine e_rr ?_ | refine r_rr ?_ | refine e_cr ?_ | refine r_cr ?_ | refine .seq ?_ | refine reg ?_ | refine .block ?_ | refine .skip ?_ | refine .ret ?_ | refine .exit ?_ | refine cndT rfl ?_ | refine cndF rfl ?_ | refine c_dec rfl (fun hc => ?_) (fun hc => ?_) | refine c_ndec rfl (fun hc => ?_) (fun hc => ?_) | refine cnd rfl (fun hc => ?_) (fun hc => ?_) | ((first | refine o_none rfl ?_ | refine o_none_ ?_ | refine o_yes rfl rfl rfl ?_ | refine o_yes_ rfl rfl ?_); first | refine st_index (rowE ⟨p, z, ks⟩) lay_ok rfl rfl rfl rfl (by omega) hat ?_ | refine st_index (rowS x) lay_ok rfl rfl rfl rfl (by omega) hatk ?_) | refine gd rfl rfl rfl (fun hg => ?_) (fun hg => ?_) | refine gn rfl rfl rfl (fun hg => ?_) (fun hg => ?_)
      all_goals first
        | (exfalso; omega)
        | (exfalso; simp only at *; omega)
        | (refine f_r [] rfl trivial rfl ⟨?_, rfl⟩; rw [hWf]; rfl)
  · have hje : j = ks.length := by omega
    subst hje
    rw [List.take_length] at j2
    repeat' first | refine wr (by omega) ?_ | refine ln ?_ | refine stp lay_ok rfl ?_ | refine fin ?_ | refine n_thn ?_ | refine n_blk ?_ | refine e_thn ?_ | refine e_hit ?_ | refine e_miss rfl ?_ | refine r_thn ?_ | refine r_blk ?_ | refine e_rr ?_ | refine r_rr ?_ | refine e_cr ?_ | refine r_cr ?_ | refine .seq ?_ | refine reg ?_ | refine .block ?_ | refine .skip ?_ | refine .ret ?_ | refine .exit ?_ | refine cndT rfl ?_ | refine cndF rfl ?_ | refine c_dec rfl (fun hc => ?_) (fun hc => ?_) | refine c_ndec rfl (fun hc => ?_) (fun hc => ?_) | refine cnd rfl (fun hc => ?_) (fun hc => ?_) | ((first | refine o_none rfl ?_ | refine o_none_ ?_ | refine o_yes rfl rfl rfl ?_ | refine o_yes_ rfl rfl ?_); first | refine st_index (rowE ⟨p, z, ks⟩) lay_ok rfl rfl rfl rfl (by omega) hat ?_) | refine gd rfl rfl rfl (fun hg => ?_) (fun hg => ?_) | refine gn rfl rfl rfl (fun hg => ?_) (fun hg => ?_)
    all_goals first
      | (exfalso; omega)
      | (exfalso; simp only at *; omega)
      | skip
    refine n_rr (k + 1) ?_ (.of [] (by (repeat' first | exact trivial | refine And.intro ?_ ?_ | rfl); first | done | fail) (by (repeat' first | exact trivial | refine And.intro ?_ ?_ | rfl); first | done | fail) rfl) ?_
    · omega
    · exact ⟨hk, by rw [ha, h2, hsv, j2]; rfl⟩
theorem short9_ok (l : List NV) : ACalls prog 11 0 [.st (.sl 4 (l.map rowN))] [] fun r h => r = B (shortN l) ∧ h = [] := by
  have hm : (List.map rowN l).length = l.length := List.length_map _
  have hW : shortN l = (decide (l.length ≤ 100) && l.all fun s => shortE s.entries && decide (s.name.size ≤ 2000)) := rfl
  generalize shortN l = W at *
  refine fnC lay_ok func11 rfl rfl rfl rfl rfl ?_
  repeat' first | refine wr (by omega) ?_ | refine ln ?_ | refine stp lay_ok rfl ?_ | refine fin ?_ | refine n_thn ?_ | refine n_blk ?_ | refine e_thn ?_ | refine e_hit ?_ | refine e_miss rfl ?_ | refine r_thn ?_ | refine r_blk ?_ | refine e_rr ?_ | refine r_rr ?_ | refine e_cr ?_ | refine r_cr ?_ | refine .seq ?_ | refine reg ?_ | refine .block ?_ | refine .skip ?_ | refine .ret ?_ | refine .exit ?_ | refine cndT rfl ?_ | refine cndF rfl ?_ | refine c_dec rfl (fun hc => ?_) (fun hc => ?_) | refine c_ndec rfl (fun hc => ?_) (fun hc => ?_) | refine cnd rfl (fun hc => ?_) (fun hc => ?_) | refine gd rfl rfl rfl (fun hg => ?_) (fun hg => ?_) | refine gn rfl rfl rfl (fun hg => ?_) (fun hg => ?_)
  · refine f_r [] rfl trivial rfl ⟨?_, rfl⟩
    rw [hW, decide_eq_false (by omega)]; rfl
  have h100 : l.length ≤ 100 := by omega
  rw [decide_eq_true h100, Bool.true_and] at hW
  refine lpR (fun k => k ≤ l.length ∧ (l.take k).all (fun s => shortE s.entries && decide (s.name.size ≤ 2000)) = true) (fun k => l.length - k) (fun k => [(3, I k)]) (fun k => []) (0) [0] [] [] rfl rfl rfl (.of [] (by (repeat' first | exact trivial | refine And.intro ?_ ?_ | rfl); first | done | fail) (by (repeat' first | exact trivial | refine And.intro ?_ ?_ | rfl); first | done | fail) rfl) ?_ ?_
  · exact ⟨Nat.zero_le _, rfl⟩
  rintro k ⟨h1, h2⟩
  refine nrm rfl rfl ?_
  by_cases hk : k < l.length
  case neg =>
    have hke : k = l.length := by omega
    subst hke
    rw [List.take_length] at h2
    repeat' first | refine wr (by omega) ?_ | refine ln ?_ | refine stp lay_ok rfl ?_ | refine fin ?_ | refine n_thn ?_ | refine n_blk ?_ | refine e_thn ?_ | refine e_hit ?_ | refine e_miss rfl ?_ | refine r_thn ?_ | refine r_blk ?_ | refine e_rr ?_ | refine r_rr ?_ | refine e_cr ?_ | refine r_cr ?_ | refine .seq ?_ | refine reg ?_ | refine .block ?_ | refine .skip ?_ | refine .ret ?_ | refine .exit ?_ | refine cndT rfl ?_ | refine cndF rfl ?_ | refine c_dec rfl (fun hc => ?_) (fun hc => ?_) | refine c_ndec rfl (fun hc => ?_) (fun hc => ?_) | refine cnd rfl (fun hc => ?_) (fun hc => ?_) | refine gd rfl rfl rfl (fun hg => ?_) (fun hg => ?_) | refine gn rfl rfl rfl (fun hg => ?_) (fun hg => ?_)
    all_goals first
      | (exfalso; omega)
      | (refine f_r [] rfl trivial rfl ⟨?_, rfl⟩; rw [hW, h2]; rfl)
  have hat : (l.map rowN)[((k : Nat) : Int).toNat]? = some (rowN l[k]) := by simp [hk]
  have ha := all_take (p := fun s : NV => shortE s.entries && decide (s.name.size ≤ 2000)) hk
  have hna := all_not (p := fun s : NV => shortE s.entries && decide (s.name.size ≤ 2000)) hk
  have hs := short4_ok l[k].entries
  generalize l[k] = s at *
  obtain ⟨c, n, d, es⟩ := s
  simp only at ha hna hs
  cases hb : shortE es <;> rw [hb] at hs ha hna
  · have hWf := hW.trans (hna rfl)
    repeat' first | refine wr (by omega) ?_ | refine ln ?_ | refine stp lay_ok rfl ?_ | refine fin ?_ | refine n_thn ?_ | refine n_blk ?_ | refine e_thn ?_ | refine e_hit ?_ | refine e_miss rfl ?_ | refine r_thn ?_ | refine r_blk ?_ | refine e_rr ?_ | refine r_rr ?_ | refine e_cr ?_ | refine r_cr ?_ | refine .seq ?_ | refine reg ?_ | refine .block ?_ | refine .skip ?_ | refine .ret ?_ | refine .exit ?_ | refine cndT rfl ?_ | refine cndF rfl ?_ | refine c_dec rfl (fun hc => ?_) (fun hc => ?_) | refine c_ndec rfl (fun hc => ?_) (fun hc => ?_) | refine cnd rfl (fun hc => ?_) (fun hc => ?_) | ((first | refine o_none rfl ?_ | refine o_none_ ?_ | refine o_yes rfl rfl rfl ?_ | refine o_yes_ rfl rfl ?_); first | refine st_index (rowN ⟨c, n, d, es⟩) lay_ok rfl rfl rfl rfl (by omega) hat ?_ | refine st_pure (hs) b26 rfl rfl rfl rfl ?_) | refine gd rfl rfl rfl (fun hg => ?_) (fun hg => ?_) | refine gn rfl rfl rfl (fun hg => ?_) (fun hg => ?_)
    all_goals first
      | (exfalso; omega)
      | (refine f_r [] rfl trivial rfl ⟨?_, rfl⟩; rw [hWf]; rfl)
  · by_cases hn : n.size ≤ 2000
    · repeat' first | refine wr (by omega) ?_ | refine ln ?_ | refine stp lay_ok rfl ?_ | refine fin ?_ | refine n_thn ?_ | refine n_blk ?_ | refine e_thn ?_ | refine e_hit ?_ | refine e_miss rfl ?_ | refine r_thn ?_ | refine r_blk ?_ | refine e_rr ?_ | refine r_rr ?_ | refine e_cr ?_ | refine r_cr ?_ | refine .seq ?_ | refine reg ?_ | refine .block ?_ | refine .skip ?_ | refine .ret ?_ | refine .exit ?_ | refine cndT rfl ?_ | refine cndF rfl ?_ | refine c_dec rfl (fun hc => ?_) (fun hc => ?_) | refine c_ndec rfl (fun hc => ?_) (fun hc => ?_) | refine cnd rfl (fun hc => ?_) (fun hc => ?_) | ((first | refine o_none rfl ?_ | refine o_none_ ?_ | refine o_yes rfl rfl rfl ?_ | refine o_yes_ rfl rfl ?_); first | refine st_index (rowN ⟨c, n, d, es⟩) lay_ok rfl rfl rfl rfl (by omega) hat ?_ | refine st_pure (hs) b26 rfl rfl rfl rfl ?_) | refine gd rfl rfl rfl (fun hg => ?_) (fun hg => ?_) | refine gn rfl rfl rfl (fun hg => ?_) (fun hg => ?_)
      all_goals first
        | (exfalso; omega)
        | (exfalso; simp only at *; omega)
        | skip
      refine n_rr (k + 1) ?_ (.of [] (by (repeat' first | exact trivial | refine And.intro ?_ ?_ | rfl); first | done | fail) (by (repeat' first | exact trivial | refine And.intro ?_ ?_ | rfl); first | done | fail) rfl) ?_
      · omega
      · exact ⟨hk, by rw [ha, h2, decide_eq_true hn]; rfl⟩
    · have hWf := hW.trans (hna (by rw [decide_eq_false hn]; rfl))
      repeat' first | refine wr (by omega) ?_ | refine ln ?_ | refine stp lay_ok rfl ?_ | refine fin ?_ | refine n_thn ?_ | refine n_blk ?_ | refine e_thn ?_ | refine e_hit ?_ | refine e_miss rfl ?_ | refine r_thn ?_ | refine r_blk ?_ | refine e_rr ?_ | refine r_rr ?_ | refine e_cr ?_ | refine r_cr ?_ | refine .seq ?_ | refine reg ?_ | refine .block ?_ | refine .skip ?_ | refine .ret ?_ | refine .exit ?_ | refine cndT rfl ?_ | refine cndF rfl ?_ | refine c_dec rfl (fun hc => ?_) (fun hc => ?_) | refine c_ndec rfl (fun hc => ?_) (fun hc => ?_) | refine cnd rfl (fun hc => ?_) (fun hc => ?_) | ((first | refine o_none rfl ?_ | refine o_none_ ?_ | refine o_yes rfl rfl rfl ?_ | refine o_yes_ rfl rfl ?_); first | refine st_index (rowN ⟨c, n, d, es⟩) lay_ok rfl rfl rfl rfl (by omega) hat ?_ | refine st_pure (hs) b26 rfl rfl rfl rfl ?_) | refine gd rfl rfl rfl (fun hg => ?_) (fun hg => ?_) | refine gn rfl rfl rfl (fun hg => ?_) (fun hg => ?_)
      all_goals first
        | (exfalso; omega)
        | (exfalso; simp only at *; omega)
        | (refine f_r [] rfl trivial rfl ⟨?_, rfl⟩; rw [hWf]; rfl)
/-- A client's snapshots. -/
def ownL (l : List NV) (c : Int) : List NV := l.filter fun s => decide (s.client = c)
theorem ownL_take {l : List NV} {k : Nat} {c : Int} (h : k < l.length) : ownL (l.take (k + 1)) c = ownL (l.take k) c ++ if l[k].client = c then [l[k]] else [] := by
  rw [ownL, List.take_succ_eq_append_getElem h, List.filter_append, ownL]
  congr 1
  simp only [List.filter_cons, List.filter_nil, decide_eq_true_eq]
theorem ownL_le (l : List NV) (c : Int) : (ownL l c).length ≤ l.length := List.length_filter_le _ _
theorem refOwn_ok (l : List NV) (c : Int) (hl : l.length ≤ 3000000000) : ACalls prog 17 0 [.st (.sl 4 (l.map rowN)), I c] [] fun r h => r = .st (.sl 4 ((ownL l c).map rowN)) ∧ h = [] := by
  have hm : (List.map rowN l).length = l.length := List.length_map _
  refine fnC lay_ok func17 rfl rfl rfl rfl rfl ?_
  repeat' first | refine wr (by omega) ?_ | refine ln ?_ | refine stp lay_ok rfl ?_ | refine fin ?_ | refine n_thn ?_ | refine n_blk ?_ | refine e_thn ?_ | refine e_hit ?_ | refine e_miss rfl ?_ | refine r_thn ?_ | refine r_blk ?_ | refine e_rr ?_ | refine r_rr ?_ | refine e_cr ?_ | refine r_cr ?_ | refine .seq ?_ | refine reg ?_ | refine .block ?_ | refine .skip ?_ | refine .ret ?_ | refine .exit ?_ | refine cndT rfl ?_ | refine cndF rfl ?_ | refine c_dec rfl (fun hc => ?_) (fun hc => ?_) | refine c_ndec rfl (fun hc => ?_) (fun hc => ?_) | refine cnd rfl (fun hc => ?_) (fun hc => ?_) | refine gd rfl rfl rfl (fun hg => ?_) (fun hg => ?_) | refine gn rfl rfl rfl (fun hg => ?_) (fun hg => ?_)
  refine CodeOk.wk (Wk.nilT 4 5 rfl rfl) (Nat.le_succ _) ?_
  refine nrm rfl rfl ?_
  refine lpR (fun (k, out) => k ≤ l.length ∧ out = ownL (l.take k) c) (fun (k, out) => l.length - k) (fun (k, out) => [(6, I k), (5, .lsl 1 4 0 (out.map rowN).length)]) (fun (k, out) => [(1, .arr 4 (out.map rowN))]) ((0, [])) [0, 1] [] [0] rfl rfl rfl (.of [0] (by (repeat' first | exact trivial | refine And.intro ?_ ?_ | rfl); first | done | fail) (by (repeat' first | exact trivial | refine And.intro ?_ ?_ | rfl); first | done | fail) rfl) ?_ ?_
  · exact ⟨Nat.zero_le _, rfl⟩
  rintro ⟨k, out⟩ ⟨h1, h2⟩
  refine nrm rfl rfl ?_
  have hmo : (List.map rowN out).length = out.length := List.length_map _
  have hle := ownL_le (l.take k) c
  rw [← h2, List.length_take] at hle
  by_cases hk : k < l.length
  case neg =>
    have hke : k = l.length := by omega
    subst hke
    rw [List.take_length] at h2
    repeat' first | refine wr (by omega) ?_ | refine ln ?_ | refine stp lay_ok rfl ?_ | refine fin ?_ | refine n_thn ?_ | refine n_blk ?_ | refine e_thn ?_ | refine e_hit ?_ | refine e_miss rfl ?_ | refine r_thn ?_ | refine r_blk ?_ | refine e_rr ?_ | refine r_rr ?_ | refine e_cr ?_ | refine r_cr ?_ | refine .seq ?_ | refine reg ?_ | refine .block ?_ | refine .skip ?_ | refine .ret ?_ | refine .exit ?_ | refine cndT rfl ?_ | refine cndF rfl ?_ | refine c_dec rfl (fun hc => ?_) (fun hc => ?_) | refine c_ndec rfl (fun hc => ?_) (fun hc => ?_) | refine cnd rfl (fun hc => ?_) (fun hc => ?_) | refine gd rfl rfl rfl (fun hg => ?_) (fun hg => ?_) | refine gn rfl rfl rfl (fun hg => ?_) (fun hg => ?_)
    all_goals first
      | (exfalso; omega)
      | skip
    refine f_end (n0 := 0) (t'' := [(4, .st (.sl 4 (out.map rowN)))]) (h'' := []) (Wk.then (Wk.frz 1 [4] rfl rfl rfl (by (repeat' first | exact trivial | refine And.intro ?_ ?_ | rfl); first | done | fail) (by (repeat' first | exact trivial | refine And.intro ?_ ?_ | rfl); first | done | fail) rfl rfl) (WkR.of [] (by (repeat' first | exact trivial | refine And.intro ?_ ?_ | rfl); first | done | fail) (by (repeat' first | exact trivial | refine And.intro ?_ ?_ | rfl); first | done | fail) rfl)) rfl rfl ⟨?_, rfl⟩
    rw [h2]; rfl
  have hat : (l.map rowN)[((k : Nat) : Int).toNat]? = some (rowN l[k]) := by simp [hk]
  have hot := ownL_take (c := c) hk
  rw [← h2] at hot
  generalize l[k] = s at *
  have hr : List.map rowN out ++ [rowN s] = List.map rowN (out ++ [s]) := by rw [List.map_append]; rfl
  obtain ⟨c', n, d, es⟩ := s
  simp only at hot
  by_cases hcc : c' = c
  · rw [if_pos hcc] at hot
    repeat' first | refine wr (by omega) ?_ | refine ln ?_ | refine stp lay_ok rfl ?_ | refine fin ?_ | refine n_thn ?_ | refine n_blk ?_ | refine e_thn ?_ | refine e_hit ?_ | refine e_miss rfl ?_ | refine r_thn ?_ | refine r_blk ?_ | refine e_rr ?_ | refine r_rr ?_ | refine e_cr ?_ | refine r_cr ?_ | refine .seq ?_ | refine reg ?_ | refine .block ?_ | refine .skip ?_ | refine .ret ?_ | refine .exit ?_ | refine cndT rfl ?_ | refine cndF rfl ?_ | refine c_dec rfl (fun hc => ?_) (fun hc => ?_) | refine c_ndec rfl (fun hc => ?_) (fun hc => ?_) | refine cnd rfl (fun hc => ?_) (fun hc => ?_) | ((first | refine o_none rfl ?_ | refine o_none_ ?_ | refine o_yes rfl rfl rfl ?_ | refine o_yes_ rfl rfl ?_); first | refine st_index (rowN ⟨c', n, d, es⟩) lay_ok rfl rfl rfl rfl (by omega) hat ?_ | refine st_append lay_ok rfl rfl rfl rfl rfl rfl rfl rfl (.lsl rfl rfl) (.sl (rows := [rowN ⟨c', n, d, es⟩])) rfl (rowN_one (b := [⟨c', n, d, es⟩])) (by simp only [List.length_cons, List.length_nil]; omega) (by simp only [List.length_cons, List.length_nil]; omega) ?_) | refine gd rfl rfl rfl (fun hg => ?_) (fun hg => ?_) | refine gn rfl rfl rfl (fun hg => ?_) (fun hg => ?_)
    all_goals first
      | (exfalso; omega)
      | (exfalso; simp_all; done)
      | skip
    rw [hr]
    refine n_rr ((k + 1, out ++ [⟨c', n, d, es⟩])) ?_ (.of [2] (by (repeat' first | exact trivial | refine And.intro ?_ ?_ | rfl); first | done | fail) (by (repeat' first | exact trivial | refine And.intro ?_ ?_ | rfl); first | done | fail) rfl) ?_
    · show l.length - (k + 1) < l.length - k; omega
    · exact ⟨hk, hot.symm⟩
  · rw [if_neg hcc, List.append_nil] at hot
    repeat' first | refine wr (by omega) ?_ | refine ln ?_ | refine stp lay_ok rfl ?_ | refine fin ?_ | refine n_thn ?_ | refine n_blk ?_ | refine e_thn ?_ | refine e_hit ?_ | refine e_miss rfl ?_ | refine r_thn ?_ | refine r_blk ?_ | refine e_rr ?_ | refine r_rr ?_ | refine e_cr ?_ | refine r_cr ?_ | refine .seq ?_ | refine reg ?_ | refine .block ?_ | refine .skip ?_ | refine .ret ?_ | refine .exit ?_ | refine cndT rfl ?_ | refine cndF rfl ?_ | refine c_dec rfl (fun hc => ?_) (fun hc => ?_) | refine c_ndec rfl (fun hc => ?_) (fun hc => ?_) | refine cnd rfl (fun hc => ?_) (fun hc => ?_) | ((first | refine o_none rfl ?_ | refine o_none_ ?_ | refine o_yes rfl rfl rfl ?_ | refine o_yes_ rfl rfl ?_); first | refine st_index (rowN ⟨c', n, d, es⟩) lay_ok rfl rfl rfl rfl (by omega) hat ?_) | refine gd rfl rfl rfl (fun hg => ?_) (fun hg => ?_) | refine gn rfl rfl rfl (fun hg => ?_) (fun hg => ?_)
    all_goals first
      | (exfalso; omega)
      | (exfalso; simp_all; done)
      | skip
    refine n_rr ((k + 1, out)) ?_ (.of [1] (by (repeat' first | exact trivial | refine And.intro ?_ ?_ | rfl); first | done | fail) (by (repeat' first | exact trivial | refine And.intro ?_ ?_ | rfl); first | done | fail) rfl) ?_
    · show l.length - (k + 1) < l.length - k; omega
    · exact ⟨hk, hot.symm⟩
end Go.Proofs.YtgjoloaajocafaaDoorFn
namespace Go.Proofs.YtgjoloaajocafaaDoorFn
open Go.Proofs.YtgjoloaajocafaaDoorAl Go.Proofs.Tryd
attribute [local irreducible] IntKind.wrap CodeOk OpsL OpG ACalls thn inBlk rndR cutR WkR Wk fnR DW ExtOk partsOf
theorem refNumO_ok (n0 : Nat) (hn : n0 < 2 ^ 64) : ACalls prog 31 0 [.st (.int .u64 (IntKind.u64.wrap (n0 : Int)))] [] fun r h => r = .lsl 0 1 0 ((numL n0).map rowB).length ∧ h = [(0, .arr 1 ((numL n0).map rowB))] := by
  rw [u64wrap n0 hn]
  refine fnC lay_ok func31 rfl rfl rfl rfl rfl ?_
  repeat' first | refine wr (by omega) ?_ | refine ln ?_ | refine stp lay_ok rfl ?_ | refine fin ?_ | refine n_thn ?_ | refine n_blk ?_ | refine e_thn ?_ | refine e_hit ?_ | refine e_miss rfl ?_ | refine r_thn ?_ | refine r_blk ?_ | refine e_rr ?_ | refine r_rr ?_ | refine e_cr ?_ | refine r_cr ?_ | refine .seq ?_ | refine reg ?_ | refine .block ?_ | refine .skip ?_ | refine .ret ?_ | refine .exit ?_ | refine cndT rfl ?_ | refine cndF rfl ?_ | refine c_dec rfl (fun hc => ?_) (fun hc => ?_) | refine c_ndec rfl (fun hc => ?_) (fun hc => ?_) | refine cnd rfl (fun hc => ?_) (fun hc => ?_) | refine gd rfl rfl rfl (fun hg => ?_) (fun hg => ?_) | refine gn rfl rfl rfl (fun hg => ?_) (fun hg => ?_)
  refine CodeOk.wk (Wk.nilT 1 3 rfl rfl) (Nat.le_succ _) ?_
  refine nrm rfl rfl ?_
  refine lpR (fun (out, n, f) => numL n0 = out ++ numF (f + 1) n ∧ n < 128 ^ (f + 1) ∧ f ≤ 9 ∧ n < 2 ^ 64 ∧ out.length + f = 9) (fun (out, n, f) => f) (fun (out, n, f) => [(0, U n), (3, .lsl 1 1 0 (out.map rowB).length)]) (fun (out, n, f) => [(1, .arr 1 (out.map rowB))]) (([], n0, 9)) [] [] [0] rfl rfl rfl (.of [0] (by (repeat' first | exact trivial | refine And.intro ?_ ?_ | rfl); first | done | fail) (by (repeat' first | exact trivial | refine And.intro ?_ ?_ | rfl); first | done | fail) rfl) ?_ ?_
  · refine ⟨rfl, ?_, Nat.le_refl _, hn, rfl⟩
    omega
  rintro ⟨out, n, f⟩ ⟨h1, h2, h3, h4, h5⟩
  refine nrm rfl rfl ?_
  have hm : (List.map rowB out).length = out.length := List.length_map _
  by_cases hge : 128 ≤ n
  · have hf : f ≠ 0 := by rintro rfl; omega
    obtain ⟨f', rfl⟩ : ∃ f', f = f' + 1 := ⟨f - 1, by omega⟩
    have hrem := rem128 n
    have hquo := quo128 n h4
    have hr : ∀ x : UInt8, List.map rowB out ++ [[SV.int .u8 (x.toNat : Int)]] = List.map rowB (out ++ [x]) := fun x => by rw [List.map_append]; rfl
    repeat' first | refine wr (by omega) ?_ | refine ln ?_ | refine stp lay_ok rfl ?_ | refine fin ?_ | refine n_thn ?_ | refine n_blk ?_ | refine e_thn ?_ | refine e_hit ?_ | refine e_miss rfl ?_ | refine r_thn ?_ | refine r_blk ?_ | refine e_rr ?_ | refine r_rr ?_ | refine e_cr ?_ | refine r_cr ?_ | refine .seq ?_ | refine reg ?_ | refine .block ?_ | refine .skip ?_ | refine .ret ?_ | refine .exit ?_ | refine cndT rfl ?_ | refine cndF rfl ?_ | refine c_dec rfl (fun hc => ?_) (fun hc => ?_) | refine c_ndec rfl (fun hc => ?_) (fun hc => ?_) | refine cnd rfl (fun hc => ?_) (fun hc => ?_) | ((first | refine o_none rfl ?_ | refine o_none_ ?_ | refine o_yes rfl rfl rfl ?_ | refine o_yes_ rfl rfl ?_); first | refine st_div rfl rfl hrem (by decide) ?_ | refine st_div rfl rfl hquo (by decide) ?_) | refine gd rfl rfl rfl (fun hg => ?_) (fun hg => ?_) | refine gn rfl rfl rfl (fun hg => ?_) (fun hg => ?_)
    · rw [val128]
      repeat' first | refine wr (by omega) ?_ | refine ln ?_ | refine stp lay_ok rfl ?_ | refine fin ?_ | refine n_thn ?_ | refine n_blk ?_ | refine e_thn ?_ | refine e_hit ?_ | refine e_miss rfl ?_ | refine r_thn ?_ | refine r_blk ?_ | refine e_rr ?_ | refine r_rr ?_ | refine e_cr ?_ | refine r_cr ?_ | refine .seq ?_ | refine reg ?_ | refine .block ?_ | refine .skip ?_ | refine .ret ?_ | refine .exit ?_ | refine cndT rfl ?_ | refine cndF rfl ?_ | refine c_dec rfl (fun hc => ?_) (fun hc => ?_) | refine c_ndec rfl (fun hc => ?_) (fun hc => ?_) | refine cnd rfl (fun hc => ?_) (fun hc => ?_) | ((first | refine o_none rfl ?_ | refine o_none_ ?_ | refine o_yes rfl rfl rfl ?_ | refine o_yes_ rfl rfl ?_); first | refine st_div rfl rfl hquo (by decide) ?_ | refine st_append lay_ok rfl rfl rfl rfl rfl rfl rfl rfl (.lsl rfl rfl) .sl rfl (rowB_one (b := [UInt8.ofNat (n % 128 + 128)])) (by simp only [List.length_cons, List.length_nil]; omega) (by simp only [List.length_cons, List.length_nil]; omega) ?_) | refine gd rfl rfl rfl (fun hg => ?_) (fun hg => ?_) | refine gn rfl rfl rfl (fun hg => ?_) (fun hg => ?_)
      rw [hr]
      refine n_rr ((out ++ [UInt8.ofNat (n % 128 + 128)], n / 128, f')) ?_ (.of [2] (by (repeat' first | exact trivial | refine And.intro ?_ ?_ | rfl); first | done | fail) (by (repeat' first | exact trivial | refine And.intro ?_ ?_ | rfl); first | done | fail) rfl) ?_
      · exact Nat.lt_succ_self _
      · refine ⟨?_, ?_, by omega, by omega, ?_⟩
        · rw [h1, numF, if_pos hge, List.append_assoc]; rfl
        · rw [Nat.pow_succ] at h2; omega
        · simp; omega
    · exfalso; omega
  · have hend : numL n0 = out ++ [UInt8.ofNat n] := by rw [h1, numF, if_neg hge]
    have hr : List.map rowB out ++ [[SV.int .u8 (IntKind.u8.wrap (n : Int))]] = List.map rowB (numL n0) := by rw [hend, List.map_append, u8wrap]; rfl
    repeat' first | refine wr (by omega) ?_ | refine ln ?_ | refine stp lay_ok rfl ?_ | refine fin ?_ | refine n_thn ?_ | refine n_blk ?_ | refine e_thn ?_ | refine e_hit ?_ | refine e_miss rfl ?_ | refine r_thn ?_ | refine r_blk ?_ | refine e_rr ?_ | refine r_rr ?_ | refine e_cr ?_ | refine r_cr ?_ | refine .seq ?_ | refine reg ?_ | refine .block ?_ | refine .skip ?_ | refine .ret ?_ | refine .exit ?_ | refine cndT rfl ?_ | refine cndF rfl ?_ | refine c_dec rfl (fun hc => ?_) (fun hc => ?_) | refine c_ndec rfl (fun hc => ?_) (fun hc => ?_) | refine cnd rfl (fun hc => ?_) (fun hc => ?_) | ((first | refine o_none rfl ?_ | refine o_none_ ?_ | refine o_yes rfl rfl rfl ?_ | refine o_yes_ rfl rfl ?_); first | refine st_append lay_ok rfl rfl rfl rfl rfl rfl rfl rfl (.lsl rfl rfl) .sl rfl (rowW_one n) (by simp only [List.length_cons, List.length_nil]; omega) (by simp only [List.length_cons, List.length_nil]; omega) ?_) | refine gd rfl rfl rfl (fun hg => ?_) (fun hg => ?_) | refine gn rfl rfl rfl (fun hg => ?_) (fun hg => ?_)
    · exfalso; omega
    · rw [hr]
      refine f_end (n0 := 1) (t'' := [(2, .lsl 0 1 0 ((numL n0).map rowB).length)]) (h'' := [(0, .arr 1 ((numL n0).map rowB))]) (WkR.of [2] (by (repeat' first | exact trivial | refine And.intro ?_ ?_ | rfl); first | done | fail) (by (repeat' first | exact trivial | refine And.intro ?_ ?_ | rfl); first | done | fail) rfl) rfl rfl ⟨?_, rfl⟩
      rfl
theorem refNumW_ok (n : Nat) (h : n < 2 ^ 64) : ACalls prog 31 0 [.st (.int .u64 (IntKind.u64.wrap (n : Int)))] [] fun r h => r = Bs (numL n) ∧ h = [] := by
  rw [u64wrap n h]; exact refNum_ok n h
theorem refText_ok (s : ByteArray) (hs : s.size ≤ 3000000000) : ACalls prog 32 0 [Sx s] [] fun r h => r = Bs (textL s) ∧ h = [] := by
  have hn := refNumO_ok s.size (by omega)
  have hl := numF_len 10 s.size
  have hm : ((numL s.size).map rowB).length ≤ 10 := by rw [List.length_map]; exact hl
  have hr : (numL s.size).map rowB ++ s.data.toList.map rowB = (textL s).map rowB := by rw [← List.map_append, textL]
  refine fnC lay_ok func32 rfl rfl rfl rfl rfl ?_
  repeat' first | refine wr (by omega) ?_ | refine ln ?_ | refine stp lay_ok rfl ?_ | refine fin ?_ | refine n_thn ?_ | refine n_blk ?_ | refine e_thn ?_ | refine e_hit ?_ | refine e_miss rfl ?_ | refine r_thn ?_ | refine r_blk ?_ | refine e_rr ?_ | refine r_rr ?_ | refine e_cr ?_ | refine r_cr ?_ | refine .seq ?_ | refine reg ?_ | refine .block ?_ | refine .skip ?_ | refine .ret ?_ | refine .exit ?_ | refine cndT rfl ?_ | refine cndF rfl ?_ | refine c_dec rfl (fun hc => ?_) (fun hc => ?_) | refine c_ndec rfl (fun hc => ?_) (fun hc => ?_) | refine cnd rfl (fun hc => ?_) (fun hc => ?_) | ((first | refine o_none rfl ?_ | refine o_none_ ?_ | refine o_yes rfl rfl rfl ?_ | refine o_yes_ rfl rfl ?_); first | refine st_callF 1 (hn) b31 rfl rfl rfl rfl rfl rfl (by (repeat' first | exact trivial | refine And.intro ?_ ?_ | rfl); first | done | fail) rfl ?_ | refine st_appendS lay_ok rfl rfl rfl rfl rfl rfl rfl rfl (.lsl rfl rfl) rfl (by omega) (by omega) ?_) | refine gd rfl rfl rfl (fun hg => ?_) (fun hg => ?_) | refine gn rfl rfl rfl (fun hg => ?_) (fun hg => ?_)
  rw [hr]
  refine f_end (n0 := 0) (t'' := [(2, Bs (textL s))]) (h'' := []) (Wk.then (Wk.frz 1 [2] rfl rfl rfl (by (repeat' first | exact trivial | refine And.intro ?_ ?_ | rfl); first | done | fail) (by (repeat' first | exact trivial | refine And.intro ?_ ?_ | rfl); first | done | fail) rfl rfl) (WkR.of [] (by (repeat' first | exact trivial | refine And.intro ?_ ?_ | rfl); first | done | fail) (by (repeat' first | exact trivial | refine And.intro ?_ ?_ | rfl); first | done | fail) rfl)) rfl rfl ⟨?_, rfl⟩
  rfl
set_option maxHeartbeats 4000000 in
theorem refPut_ok (l : List NV) (hl : l.length ≤ 3000000000) (hB : (putL l).length ≤ 3000000000) (hw : ∀ s ∈ l, s.put) : ACalls prog 16 0 [.st (.sl 4 (l.map rowN))] [] fun r h => r = Bs (putL l) ∧ h = [] := by
  have hm : (List.map rowN l).length = l.length := List.length_map _
  have h0 := refNumO_ok l.length (by omega)
  rw [show (numL l.length).map rowB = (putK l 0).map rowB by simp [putK]] at h0
  have happ : ∀ x y : List UInt8, x.map rowB ++ y.map rowB = (x ++ y).map rowB := fun x y => List.map_append.symm
  refine fnC lay_ok func16 rfl rfl rfl rfl rfl ?_
  repeat' first | refine wr (by omega) ?_ | refine ln ?_ | refine stp lay_ok rfl ?_ | refine fin ?_ | refine n_thn ?_ | refine n_blk ?_ | refine e_thn ?_ | refine e_hit ?_ | refine e_miss rfl ?_ | refine r_thn ?_ | refine r_blk ?_ | refine e_rr ?_ | refine r_rr ?_ | refine e_cr ?_ | refine r_cr ?_ | refine .seq ?_ | refine reg ?_ | refine .block ?_ | refine .skip ?_ | refine .ret ?_ | refine .exit ?_ | refine cndT rfl ?_ | refine cndF rfl ?_ | refine c_dec rfl (fun hc => ?_) (fun hc => ?_) | refine c_ndec rfl (fun hc => ?_) (fun hc => ?_) | refine cnd rfl (fun hc => ?_) (fun hc => ?_) | ((first | refine o_none rfl ?_ | refine o_none_ ?_ | refine o_yes rfl rfl rfl ?_ | refine o_yes_ rfl rfl ?_); first | refine st_callF 1 (h0) b31 rfl rfl rfl rfl rfl rfl (by (repeat' first | exact trivial | refine And.intro ?_ ?_ | rfl); first | done | fail) rfl ?_) | refine gd rfl rfl rfl (fun hg => ?_) (fun hg => ?_) | refine gn rfl rfl rfl (fun hg => ?_) (fun hg => ?_)
  refine lpR (fun k => k ≤ l.length) (fun k => l.length - k) (fun k => [(4, I k), (3, .lsl 1 1 0 ((putK l k).map rowB).length)]) (fun k => [(1, .arr 1 ((putK l k).map rowB))]) (0) [0] [] [0] rfl rfl rfl (.of [0] (by (repeat' first | exact trivial | refine And.intro ?_ ?_ | rfl); first | done | fail) (by (repeat' first | exact trivial | refine And.intro ?_ ?_ | rfl); first | done | fail) rfl) ?_ ?_
  · exact Nat.zero_le _
  rintro k hk
  refine nrm rfl rfl ?_
  by_cases hk' : k < l.length
  case neg =>
    have hke : k = l.length := by omega
    subst hke
    have hfin : putK l l.length = putL l := by rw [putK, List.take_length, putL]
    rw [hfin]
    repeat' first | refine wr (by omega) ?_ | refine ln ?_ | refine stp lay_ok rfl ?_ | refine fin ?_ | refine n_thn ?_ | refine n_blk ?_ | refine e_thn ?_ | refine e_hit ?_ | refine e_miss rfl ?_ | refine r_thn ?_ | refine r_blk ?_ | refine e_rr ?_ | refine r_rr ?_ | refine e_cr ?_ | refine r_cr ?_ | refine .seq ?_ | refine reg ?_ | refine .block ?_ | refine .skip ?_ | refine .ret ?_ | refine .exit ?_ | refine cndT rfl ?_ | refine cndF rfl ?_ | refine c_dec rfl (fun hc => ?_) (fun hc => ?_) | refine c_ndec rfl (fun hc => ?_) (fun hc => ?_) | refine cnd rfl (fun hc => ?_) (fun hc => ?_) | refine gd rfl rfl rfl (fun hg => ?_) (fun hg => ?_) | refine gn rfl rfl rfl (fun hg => ?_) (fun hg => ?_)
    all_goals first
      | (exfalso; omega)
      | (refine f_end (n0 := 0) (t'' := [(2, Bs (putL l))]) (h'' := []) (Wk.then (Wk.frz 1 [2] rfl rfl rfl (by (repeat' first | exact trivial | refine And.intro ?_ ?_ | rfl); first | done | fail) (by (repeat' first | exact trivial | refine And.intro ?_ ?_ | rfl); first | done | fail) rfl rfl) (WkR.of [] (by (repeat' first | exact trivial | refine And.intro ?_ ?_ | rfl); first | done | fail) (by (repeat' first | exact trivial | refine And.intro ?_ ?_ | rfl); first | done | fail) rfl)) rfl rfl ⟨?_, rfl⟩; rfl)
  have hat : (l.map rowN)[((k : Nat) : Int).toNat]? = some (rowN l[k]) := by simp [hk']
  have hws := hw _ (List.getElem_mem hk')
  have hst : putK l (k + 1) = putK l k ++ snapL l[k] := by rw [putK, flat_take _ hk', putK, List.append_assoc]
  have hle : (putK l (k + 1)).length ≤ 3000000000 := by
    have := flat_le snapL l (k + 1)
    rw [putL, List.length_append] at hB
    rw [putK, List.length_append]; omega
  generalize putK l k = b0 at *
  generalize hb1 : putK l (k + 1) = b1 at *
  generalize l[k] = s at *
  obtain ⟨c, nm, d, es⟩ := s
  obtain ⟨w1, w2, w3, w4, w5⟩ := hws
  simp only at w1 w2 w3 w4 w5
  obtain ⟨c, rfl⟩ : ∃ c' : Nat, c = c' := ⟨c.toNat, by omega⟩
  rw [snapL, headN] at hst
  simp only [Int.toNat_natCast] at hst
  have hlen : b0.length + (numL c).length + (textL nm).length + (numL (if d = true then 1 else 0)).length + (numL es.length).length + ((es.map entL).flatten).length ≤ 3000000000 := by
    rw [hst] at hle; simp only [List.length_append] at hle; omega
  have e1 := refNumW_ok c (by omega)
  have e2 := refText_ok nm w3
  have e4 := refNumW_ok es.length (by omega)
  have hst2 : b1 = (b0 ++ numL c ++ textL nm ++ numL (if d = true then 1 else 0) ++ numL es.length) ++ (es.map entL).flatten := by rw [hst]; simp only [List.append_assoc]
  have hme : (List.map rowE es).length = es.length := List.length_map _
  have lm : ∀ x : List UInt8, (x.map rowB).length = x.length := fun x => List.length_map _
  have hDr : [[SV.int .u8 (cond d 1 0)]] = (numL (if d = true then 1 else 0)).map rowB := by cases d <;> rfl
  have hn1 : (numL (if d = true then 1 else 0)).length = 1 := by cases d <;> rfl
  generalize numL (if d = true then 1 else 0) = D at *
  cases d
  all_goals
    repeat' first | refine o_frb 2 [.int .i64 c, .str nm, .bool _, .sl 3 (es.map rowE)] rfl rfl rfl (by (repeat' first | exact trivial | refine And.intro ?_ ?_ | rfl); first | done | fail) (by (repeat' first | exact trivial | refine And.intro ?_ ?_ | rfl); first | done | fail) rfl rfl ?_ | refine wr (by omega) ?_ | refine ln ?_ | refine stp lay_ok rfl ?_ | refine fin ?_ | refine n_thn ?_ | refine n_blk ?_ | refine e_thn ?_ | refine e_hit ?_ | refine e_miss rfl ?_ | refine r_thn ?_ | refine r_blk ?_ | refine e_rr ?_ | refine r_rr ?_ | refine e_cr ?_ | refine r_cr ?_ | refine .seq ?_ | refine reg ?_ | refine .block ?_ | refine .skip ?_ | refine .ret ?_ | refine .exit ?_ | refine cndT rfl ?_ | refine cndF rfl ?_ | refine c_dec rfl (fun hc => ?_) (fun hc => ?_) | refine c_ndec rfl (fun hc => ?_) (fun hc => ?_) | refine cnd rfl (fun hc => ?_) (fun hc => ?_) | ((first | refine o_none rfl ?_ | refine o_none_ ?_ | refine o_yes rfl rfl rfl ?_ | refine o_yes_ rfl rfl ?_); first | refine st_index (rowN ⟨c, nm, _, es⟩) lay_ok rfl rfl rfl rfl (by omega) hat ?_ | refine st_pure (e1) b31 rfl rfl rfl rfl ?_ | refine st_pure (e2) b32 rfl rfl rfl rfl ?_ | refine st_pure (e4) b31 rfl rfl rfl rfl ?_ | refine st_append lay_ok rfl rfl rfl rfl rfl rfl rfl rfl (.lsl rfl rfl) .sl rfl rowB_one (by simp only [List.length_append, List.length_cons, List.length_nil, lm] at *; omega) (by simp only [List.length_append, List.length_cons, List.length_nil, lm] at *; omega) ?_ | refine st_append lay_ok rfl rfl rfl rfl rfl rfl rfl rfl (.lsl rfl rfl) .sl rfl (rowB_one (b := [0])) (by simp only [List.length_append, List.length_cons, List.length_nil, lm] at *; omega) (by simp only [List.length_append, List.length_cons, List.length_nil, lm] at *; omega) ?_ | refine st_append lay_ok rfl rfl rfl rfl rfl rfl rfl rfl (.lsl rfl rfl) .sl rfl (rowB_one (b := [1])) (by simp only [List.length_append, List.length_cons, List.length_nil, lm] at *; omega) (by simp only [List.length_append, List.length_cons, List.length_nil, lm] at *; omega) ?_) | refine gd rfl rfl rfl (fun hg => ?_) (fun hg => ?_) | refine gn rfl rfl rfl (fun hg => ?_) (fun hg => ?_)
  all_goals first
    | (exfalso; omega)
    | skip
  all_goals
    clear e1 e2 e4 hat h0
    simp only [cond_true, cond_false] at hDr
    rw [hDr, happ, happ, happ, happ]
    generalize hb2e : b0 ++ numL c ++ textL nm ++ D ++ numL es.length = b2 at *
    have hst3 := hst2
    have hl2 : b2.length + ((es.map entL).flatten).length ≤ 3000000000 := by rw [← List.length_append, ← hst3]; exact hle
    clear hst hst2 hb2e hDr hn1 hlen
    rw [← show b2 ++ ((es.take 0).map entL).flatten = b2 by simp]
    refine lpR (fun j => j ≤ es.length) (fun j => es.length - j) (fun j => [(6, I j), (3, .lsl 7 1 0 ((b2 ++ ((es.take j).map entL).flatten).map rowB).length)]) (fun j => [(7, .arr 1 ((b2 ++ ((es.take j).map entL).flatten).map rowB))]) (0) [0, 4, 5] [] [6] rfl rfl rfl (.of [6] (by (repeat' first | exact trivial | refine And.intro ?_ ?_ | rfl); first | done | fail) (by (repeat' first | exact trivial | refine And.intro ?_ ?_ | rfl); first | done | fail) rfl) ?_ ?_
    · exact Nat.zero_le _
    rintro j hj
    refine nrm rfl rfl ?_
    by_cases hj' : j < es.length
    case neg =>
      have hje : j = es.length := by omega
      subst hje
      rw [List.take_length, ← hst3, ← hb1]
      repeat' first | refine wr (by omega) ?_ | refine ln ?_ | refine stp lay_ok rfl ?_ | refine fin ?_ | refine n_thn ?_ | refine n_blk ?_ | refine e_thn ?_ | refine e_hit ?_ | refine e_miss rfl ?_ | refine r_thn ?_ | refine r_blk ?_ | refine e_rr ?_ | refine r_rr ?_ | refine e_cr ?_ | refine r_cr ?_ | refine .seq ?_ | refine reg ?_ | refine .block ?_ | refine .skip ?_ | refine .ret ?_ | refine .exit ?_ | refine cndT rfl ?_ | refine cndF rfl ?_ | refine c_dec rfl (fun hc => ?_) (fun hc => ?_) | refine c_ndec rfl (fun hc => ?_) (fun hc => ?_) | refine cnd rfl (fun hc => ?_) (fun hc => ?_) | refine gd rfl rfl rfl (fun hg => ?_) (fun hg => ?_) | refine gn rfl rfl rfl (fun hg => ?_) (fun hg => ?_)
      all_goals first
        | (exfalso; omega)
        | skip
      refine n_rr (k + 1) ?_ (.of [7] (by (repeat' first | exact trivial | refine And.intro ?_ ?_ | rfl); first | done | fail) (by (repeat' first | exact trivial | refine And.intro ?_ ?_ | rfl); first | done | fail) rfl) ?_
      · omega
      · exact hk'
    have hat : (es.map rowE)[((j : Nat) : Int).toNat]? = some (rowE es[j]) := by simp [hj']
    have hes := w5 _ (List.getElem_mem hj')
    have hst4 : b2 ++ ((es.take (j + 1)).map entL).flatten = b2 ++ ((es.take j).map entL).flatten ++ entL es[j] := by rw [flat_take _ hj', List.append_assoc]
    have hl3 : (b2 ++ ((es.take (j + 1)).map entL).flatten).length ≤ 3000000000 := by
      have := flat_le entL es (j + 1)
      rw [List.length_append]; omega
    generalize b2 ++ ((es.take j).map entL).flatten = b3 at *
    rw [hst4] at hl3
    generalize es[j] = e at *
    obtain ⟨p, z, ks⟩ := e
    obtain ⟨v1, v2, v3, v4, v5⟩ := hes
    simp only at v1 v2 v3 v4 v5
    obtain ⟨z, rfl⟩ : ∃ z' : Nat, z = z' := ⟨z.toNat, by omega⟩
    rw [entL, headE] at hst4 hl3
    simp only [Int.toNat_natCast] at hst4 hl3
    have hlen3 : b3.length + (textL p).length + (numL z).length + (numL ks.length).length + ((ks.map textL).flatten).length ≤ 3000000000 := by
      simp only [List.length_append] at hl3; omega
    have f1 := refText_ok p v3
    have f2 := refNumW_ok z (by omega)
    have f3 := refNumW_ok ks.length (by omega)
    have hmk : (List.map rowS ks).length = ks.length := List.length_map _
    have hst5 : b3 ++ (textL p ++ numL z ++ numL ks.length ++ (ks.map textL).flatten) = (b3 ++ textL p ++ numL z ++ numL ks.length) ++ (ks.map textL).flatten := by simp only [List.append_assoc]
    rw [hst5] at hst4 hl3
    repeat' first | refine o_frb 8 [.str p, .int .i64 z, .sl 1 (ks.map rowS)] rfl rfl rfl (by (repeat' first | exact trivial | refine And.intro ?_ ?_ | rfl); first | done | fail) (by (repeat' first | exact trivial | refine And.intro ?_ ?_ | rfl); first | done | fail) rfl rfl ?_ | refine wr (by omega) ?_ | refine ln ?_ | refine stp lay_ok rfl ?_ | refine fin ?_ | refine n_thn ?_ | refine n_blk ?_ | refine e_thn ?_ | refine e_hit ?_ | refine e_miss rfl ?_ | refine r_thn ?_ | refine r_blk ?_ | refine e_rr ?_ | refine r_rr ?_ | refine e_cr ?_ | refine r_cr ?_ | refine .seq ?_ | refine reg ?_ | refine .block ?_ | refine .skip ?_ | refine .ret ?_ | refine .exit ?_ | refine cndT rfl ?_ | refine cndF rfl ?_ | refine c_dec rfl (fun hc => ?_) (fun hc => ?_) | refine c_ndec rfl (fun hc => ?_) (fun hc => ?_) | refine cnd rfl (fun hc => ?_) (fun hc => ?_) | ((first | refine o_none rfl ?_ | refine o_none_ ?_ | refine o_yes rfl rfl rfl ?_ | refine o_yes_ rfl rfl ?_); first | refine st_index (rowE ⟨p, z, ks⟩) lay_ok rfl rfl rfl rfl (by omega) hat ?_ | refine st_pure (f1) b32 rfl rfl rfl rfl ?_ | refine st_pure (f2) b31 rfl rfl rfl rfl ?_ | refine st_pure (f3) b31 rfl rfl rfl rfl ?_ | refine st_append lay_ok rfl rfl rfl rfl rfl rfl rfl rfl (.lsl rfl rfl) .sl rfl rowB_one (by simp only [List.length_append, List.length_cons, List.length_nil, lm] at *; omega) (by simp only [List.length_append, List.length_cons, List.length_nil, lm] at *; omega) ?_) | refine gd rfl rfl rfl (fun hg => ?_) (fun hg => ?_) | refine gn rfl rfl rfl (fun hg => ?_) (fun hg => ?_)
    all_goals first
      | (exfalso; omega)
      | skip
    clear f1 f2 f3 hat
    rw [happ, happ, happ]
    generalize b3 ++ textL p ++ numL z ++ numL ks.length = b4 at *
    rw [← show b4 ++ ((ks.take 0).map textL).flatten = b4 by simp]
    refine lpR (fun i => i ≤ ks.length) (fun i => ks.length - i) (fun i => [(8, I i), (3, .lsl 12 1 0 ((b4 ++ ((ks.take i).map textL).flatten).map rowB).length)]) (fun i => [(12, .arr 1 ((b4 ++ ((ks.take i).map textL).flatten).map rowB))]) (0) [0, 4, 5, 6, 7] [] [11] rfl rfl rfl (.of [11] (by (repeat' first | exact trivial | refine And.intro ?_ ?_ | rfl); first | done | fail) (by (repeat' first | exact trivial | refine And.intro ?_ ?_ | rfl); first | done | fail) rfl) ?_ ?_
    · exact Nat.zero_le _
    rintro i hi
    refine nrm rfl rfl ?_
    by_cases hi' : i < ks.length
    case neg =>
      have hie : i = ks.length := by omega
      subst hie
      rw [List.take_length, ← hst4]
      repeat' first | refine wr (by omega) ?_ | refine ln ?_ | refine stp lay_ok rfl ?_ | refine fin ?_ | refine n_thn ?_ | refine n_blk ?_ | refine e_thn ?_ | refine e_hit ?_ | refine e_miss rfl ?_ | refine r_thn ?_ | refine r_blk ?_ | refine e_rr ?_ | refine r_rr ?_ | refine e_cr ?_ | refine r_cr ?_ | refine .seq ?_ | refine reg ?_ | refine .block ?_ | refine .skip ?_ | refine .ret ?_ | refine .exit ?_ | refine cndT rfl ?_ | refine cndF rfl ?_ | refine c_dec rfl (fun hc => ?_) (fun hc => ?_) | refine c_ndec rfl (fun hc => ?_) (fun hc => ?_) | refine cnd rfl (fun hc => ?_) (fun hc => ?_) | refine gd rfl rfl rfl (fun hg => ?_) (fun hg => ?_) | refine gn rfl rfl rfl (fun hg => ?_) (fun hg => ?_)
      all_goals first
        | (exfalso; omega)
        | skip
      refine n_rr (j + 1) ?_ (.of [12] (by (repeat' first | exact trivial | refine And.intro ?_ ?_ | rfl); first | done | fail) (by (repeat' first | exact trivial | refine And.intro ?_ ?_ | rfl); first | done | fail) rfl) ?_
      · omega
      · exact hj'
    have hat := at_rowS hi'
    have hst6 : b4 ++ ((ks.take (i + 1)).map textL).flatten = b4 ++ ((ks.take i).map textL).flatten ++ textL ks[i] := by rw [flat_take _ hi', List.append_assoc]
    have hl5 : (b4 ++ ((ks.take (i + 1)).map textL).flatten).length ≤ 3000000000 := by
      have := flat_le textL ks (i + 1)
      rw [List.length_append] at hl3 ⊢; omega
    have hkz := v5 _ (List.getElem_mem hi')
    rw [hst6] at hl5
    generalize hb5 : b4 ++ ((ks.take i).map textL).flatten = b5 at *
    generalize ks[i] = x at *
    have f4 := refText_ok x hkz
    repeat' first | refine wr (by omega) ?_ | refine ln ?_ | refine stp lay_ok rfl ?_ | refine fin ?_ | refine n_thn ?_ | refine n_blk ?_ | refine e_thn ?_ | refine e_hit ?_ | refine e_miss rfl ?_ | refine r_thn ?_ | refine r_blk ?_ | refine e_rr ?_ | refine r_rr ?_ | refine e_cr ?_ | refine r_cr ?_ | refine .seq ?_ | refine reg ?_ | refine .block ?_ | refine .skip ?_ | refine .ret ?_ | refine .exit ?_ | refine cndT rfl ?_ | refine cndF rfl ?_ | refine c_dec rfl (fun hc => ?_) (fun hc => ?_) | refine c_ndec rfl (fun hc => ?_) (fun hc => ?_) | refine cnd rfl (fun hc => ?_) (fun hc => ?_) | ((first | refine o_none rfl ?_ | refine o_none_ ?_ | refine o_yes rfl rfl rfl ?_ | refine o_yes_ rfl rfl ?_); first | refine st_index (rowS x) lay_ok rfl rfl rfl rfl (by omega) hat ?_ | refine st_pure (f4) b32 rfl rfl rfl rfl ?_ | refine st_append lay_ok rfl rfl rfl rfl rfl rfl rfl rfl (.lsl rfl rfl) .sl rfl rowB_one (by simp only [List.length_append, List.length_cons, List.length_nil, lm] at *; omega) (by simp only [List.length_append, List.length_cons, List.length_nil, lm] at *; omega) ?_) | refine gd rfl rfl rfl (fun hg => ?_) (fun hg => ?_) | refine gn rfl rfl rfl (fun hg => ?_) (fun hg => ?_)
    all_goals first
      | (exfalso; omega)
      | skip
    rw [happ, ← hst6]
    refine n_rr (i + 1) ?_ (.of [13] (by (repeat' first | exact trivial | refine And.intro ?_ ?_ | rfl); first | done | fail) (by (repeat' first | exact trivial | refine And.intro ?_ ?_ | rfl); first | done | fail) rfl) ?_
    · omega
    · exact hi'
end Go.Proofs.YtgjoloaajocafaaDoorFn
namespace Go.Proofs.YtgjoloaajocafaaDoorFn
open Go.Proofs.YtgjoloaajocafaaDoorAl Go.Proofs.Tryd
attribute [local irreducible] IntKind.wrap CodeOk OpsL OpG ACalls thn inBlk rndR cutR WkR Wk fnR DW ExtOk partsOf
theorem b15 : HasBody prog 15 := ⟨f15, func15, Option.some_ne_none _, by decide⟩
theorem b18 : HasBody prog 18 := ⟨f18, func18, Option.some_ne_none _, by decide⟩
def partS (l : List NV) (i : Nat) : ByteArray := strOf (putL (ownL l (i : Int)))
def partL (l : List NV) (k : Nat) : List ByteArray := (List.range k).map (partS l)
theorem partL_succ (l : List NV) (k : Nat) : partL l (k + 1) = partL l k ++ [partS l k] := by
  simp [partL, List.range_succ]
theorem ownL_flat (l : List NV) (c : Int) : ((ownL l c).map snapL).flatten.length ≤ ((l.map snapL).flatten).length := by
  induction l with
  | nil => simp [ownL]
  | cons x r ih =>
    simp only [ownL, List.filter_cons] at ih ⊢
    split
    · simp only [List.map_cons, List.flatten_cons, List.length_append]; omega
    · simp only [List.map_cons, List.flatten_cons, List.length_append]; omega
theorem putL_own (l : List NV) (c : Int) : (putL (ownL l c)).length ≤ (putL l).length + 10 := by
  have h1 := ownL_flat l c
  have h2 := numF_len 10 (ownL l c).length
  unfold putL
  rw [List.length_append, List.length_append]
  show (numF 10 (ownL l c).length).length + _ ≤ _
  omega
theorem parts_nil : ACalls prog 15 0 [.st .nilptr] [] fun r h => r = .tuple [.st .nilsl, errE 1] ∧ h = [] := by
  refine fnC lay_ok func15 rfl rfl rfl rfl rfl ?_
  repeat' first | refine wr (by omega) ?_ | refine ln ?_ | refine stp lay_ok rfl ?_ | refine fin ?_ | refine n_thn ?_ | refine n_blk ?_ | refine e_thn ?_ | refine e_hit ?_ | refine e_miss rfl ?_ | refine r_thn ?_ | refine r_blk ?_ | refine e_rr ?_ | refine r_rr ?_ | refine e_cr ?_ | refine r_cr ?_ | refine .seq ?_ | refine reg ?_ | refine .block ?_ | refine .skip ?_ | refine .ret ?_ | refine .exit ?_ | refine cndT rfl ?_ | refine cndF rfl ?_ | refine c_dec rfl (fun hc => ?_) (fun hc => ?_) | refine c_ndec rfl (fun hc => ?_) (fun hc => ?_) | refine cnd rfl (fun hc => ?_) (fun hc => ?_) | refine gd rfl rfl rfl (fun hg => ?_) (fun hg => ?_) | refine gn rfl rfl rfl (fun hg => ?_) (fun hg => ?_) | refine dwr (by omega) ?_ | refine dwl ?_ | refine dws lay_ok rfl rfl rfl rfl rfl rfl rfl ?_ | refine dwu lay_ok rfl rfl rfl rfl rfl rfl rfl rfl rfl ?_ | refine dw_end ?_ | refine dw_skip rfl rfl rfl ?_ | refine dwn lay_ok rfl rfl rfl rfl rfl ?_ | refine dw_dec rfl rfl rfl (fun hg => ?_) (fun hg => ?_) | refine dw_ndec rfl rfl rfl (fun hg => ?_) (fun hg => ?_)
  refine f_r [] rfl trivial rfl ⟨?_, rfl⟩; rfl
set_option maxHeartbeats 2000000 in
theorem iparts_ok (l : List NV) (hl : l.length ≤ 2999999990) (hB : (putL l).length ≤ 2999999990) (hw : ∀ s ∈ l, s.put) (hf : ∀ s ∈ l, s.fit) :
    ACalls prog 15 0 [.st (.sptr [.sl 4 (l.map rowN)])] [] fun r h => r = .tuple [.st (.sl 1 ((partL l 8).map rowS)), nilE] ∧ h = [] := by
  have hsn := snaps_ok l (by omega) hf
  have hm : (List.map rowN l).length = l.length := List.length_map _
  refine fnC lay_ok func15 rfl rfl rfl rfl rfl ?_
  repeat' first | refine wr (by omega) ?_ | refine ln ?_ | refine stp lay_ok rfl ?_ | refine fin ?_ | refine n_thn ?_ | refine n_blk ?_ | refine e_thn ?_ | refine e_hit ?_ | refine e_miss rfl ?_ | refine r_thn ?_ | refine r_blk ?_ | refine e_rr ?_ | refine r_rr ?_ | refine e_cr ?_ | refine r_cr ?_ | refine .seq ?_ | refine reg ?_ | refine .block ?_ | refine .skip ?_ | refine .ret ?_ | refine .exit ?_ | refine cndT rfl ?_ | refine cndF rfl ?_ | refine c_dec rfl (fun hc => ?_) (fun hc => ?_) | refine c_ndec rfl (fun hc => ?_) (fun hc => ?_) | refine cnd rfl (fun hc => ?_) (fun hc => ?_) | refine gd rfl rfl rfl (fun hg => ?_) (fun hg => ?_) | refine gn rfl rfl rfl (fun hg => ?_) (fun hg => ?_) | refine dwr (by omega) ?_ | refine dwl ?_ | refine dws lay_ok rfl rfl rfl rfl rfl rfl rfl ?_ | refine dwu lay_ok rfl rfl rfl rfl rfl rfl rfl rfl rfl ?_ | refine dw_end ?_ | refine dw_skip rfl rfl rfl ?_ | refine dwn lay_ok rfl rfl rfl rfl rfl ?_ | refine dw_dec rfl rfl rfl (fun hg => ?_) (fun hg => ?_) | refine dw_ndec rfl rfl rfl (fun hg => ?_) (fun hg => ?_)
  refine CodeOk.wk (Wk.nilT 1 4 rfl rfl) (Nat.le_succ _) ?_
  refine nrm rfl rfl ?_
  refine lpR (fun i => i ≤ 8) (fun i => 8 - i) (fun i => [(12, I i), (4, .lsl 1 1 0 ((partL l i).map rowS).length)]) (fun i => [(1, .arr 1 ((partL l i).map rowS))]) (0) [0] [] [0] rfl rfl rfl (.of [0] (by (repeat' first | exact trivial | refine And.intro ?_ ?_ | rfl); first | done | fail) (by (repeat' first | exact trivial | refine And.intro ?_ ?_ | rfl); first | done | fail) rfl) ?_ ?_
  · exact Nat.zero_le _
  rintro i hi
  refine nrm rfl rfl ?_
  by_cases hi8 : i < 8
  case neg =>
    have : i = 8 := by omega
    subst this
    repeat' first | refine wr (by omega) ?_ | refine ln ?_ | refine stp lay_ok rfl ?_ | refine fin ?_ | refine n_thn ?_ | refine n_blk ?_ | refine e_thn ?_ | refine e_hit ?_ | refine e_miss rfl ?_ | refine r_thn ?_ | refine r_blk ?_ | refine e_rr ?_ | refine r_rr ?_ | refine e_cr ?_ | refine r_cr ?_ | refine .seq ?_ | refine reg ?_ | refine .block ?_ | refine .skip ?_ | refine .ret ?_ | refine .exit ?_ | refine cndT rfl ?_ | refine cndF rfl ?_ | refine c_dec rfl (fun hc => ?_) (fun hc => ?_) | refine c_ndec rfl (fun hc => ?_) (fun hc => ?_) | refine cnd rfl (fun hc => ?_) (fun hc => ?_) | refine gd rfl rfl rfl (fun hg => ?_) (fun hg => ?_) | refine gn rfl rfl rfl (fun hg => ?_) (fun hg => ?_) | refine dwr (by omega) ?_ | refine dwl ?_ | refine dws lay_ok rfl rfl rfl rfl rfl rfl rfl ?_ | refine dwu lay_ok rfl rfl rfl rfl rfl rfl rfl rfl rfl ?_ | refine dw_end ?_ | refine dw_skip rfl rfl rfl ?_ | refine dwn lay_ok rfl rfl rfl rfl rfl ?_ | refine dw_dec rfl rfl rfl (fun hg => ?_) (fun hg => ?_) | refine dw_ndec rfl rfl rfl (fun hg => ?_) (fun hg => ?_)
    all_goals first
      | (exfalso; omega)
      | skip
    refine f_end (n0 := 0) (t'' := [(2, .st (.sl 1 ((partL l 8).map rowS))), (3, nilE)]) (h'' := []) (Wk.then (Wk.frz 1 [2, 3] rfl rfl rfl (by (repeat' first | exact trivial | refine And.intro ?_ ?_ | rfl); first | done | fail) (by (repeat' first | exact trivial | refine And.intro ?_ ?_ | rfl); first | done | fail) rfl rfl) (WkR.of [] (by (repeat' first | exact trivial | refine And.intro ?_ ?_ | rfl); first | done | fail) (by (repeat' first | exact trivial | refine And.intro ?_ ?_ | rfl); first | done | fail) rfl)) rfl rfl ⟨?_, rfl⟩
    rfl
  repeat' first | refine wr (by omega) ?_ | refine ln ?_ | refine stp lay_ok rfl ?_ | refine fin ?_ | refine n_thn ?_ | refine n_blk ?_ | refine e_thn ?_ | refine e_hit ?_ | refine e_miss rfl ?_ | refine r_thn ?_ | refine r_blk ?_ | refine e_rr ?_ | refine r_rr ?_ | refine e_cr ?_ | refine r_cr ?_ | refine .seq ?_ | refine reg ?_ | refine .block ?_ | refine .skip ?_ | refine .ret ?_ | refine .exit ?_ | refine cndT rfl ?_ | refine cndF rfl ?_ | refine c_dec rfl (fun hc => ?_) (fun hc => ?_) | refine c_ndec rfl (fun hc => ?_) (fun hc => ?_) | refine cnd rfl (fun hc => ?_) (fun hc => ?_) | ((first | refine o_none rfl ?_ | refine o_none_ ?_ | refine o_yes rfl rfl rfl ?_ | refine o_yes_ rfl rfl ?_); first | refine st_pure (hsn) b10 rfl rfl rfl rfl ?_) | refine gd rfl rfl rfl (fun hg => ?_) (fun hg => ?_) | refine gn rfl rfl rfl (fun hg => ?_) (fun hg => ?_) | refine dwr (by omega) ?_ | refine dwl ?_ | refine dws lay_ok rfl rfl rfl rfl rfl rfl rfl ?_ | refine dwu lay_ok rfl rfl rfl rfl rfl rfl rfl rfl rfl ?_ | refine dw_end ?_ | refine dw_skip rfl rfl rfl ?_ | refine dwn lay_ok rfl rfl rfl rfl rfl ?_ | refine dwb rfl rfl rfl rfl rfl (by (first | refine st_pure (hsn) b10 rfl rfl rfl rfl ?_); exact fin rfl) rfl rfl ?_ | refine dwg rfl rfl rfl rfl rfl (by (first | refine st_pure (hsn) b10 rfl rfl rfl rfl ?_); exact fin rfl) rfl rfl rfl rfl rfl ?_ | refine dw_dec rfl rfl rfl (fun hg => ?_) (fun hg => ?_) | refine dw_ndec rfl rfl rfl (fun hg => ?_) (fun hg => ?_)
  all_goals first
    | (exfalso; omega)
    | skip
  refine CodeOk.wk (Wk.nilT 4 6 rfl rfl) (Nat.le_succ _) ?_
  refine nrm rfl rfl ?_
  have hpl : ((partL l i).map rowS).length = i := by simp [partL]
  refine lpR (fun (k, out) => k ≤ l.length ∧ out = ownL (l.take k) (i : Int)) (fun (k, out) => l.length - k) (fun (k, out) => [(18, I k), (6, .lsl 3 4 0 (out.map rowN).length)]) (fun (k, out) => [(3, .arr 4 (out.map rowN))]) ((0, [])) [0, 4, 5, 12, 16, 17] [] [2] rfl rfl rfl (.of [2] (by (repeat' first | exact trivial | refine And.intro ?_ ?_ | rfl); first | done | fail) (by (repeat' first | exact trivial | refine And.intro ?_ ?_ | rfl); first | done | fail) rfl) ?_ ?_
  · exact ⟨Nat.zero_le _, rfl⟩
  rintro ⟨k, out⟩ ⟨h1, h2⟩
  refine nrm rfl rfl ?_
  have hmo : (List.map rowN out).length = out.length := List.length_map _
  have hle := ownL_le (l.take k) (i : Int)
  rw [← h2, List.length_take] at hle
  by_cases hk : k < l.length
  case neg =>
    have hke : k = l.length := by omega
    subst hke
    rw [List.take_length] at h2
    have hb := putL_own l (i : Int)
    rw [← h2] at hb
    have hwr := written_ok out (by omega) (by omega) (fun s hs => hw s (by rw [h2] at hs; exact (List.mem_filter.1 hs).1))
    have hr : (partL l i).map rowS ++ [[SV.str (strOf (putL out))]] = (partL l (i + 1)).map rowS := by
      rw [partL_succ, List.map_append, h2]; rfl
    repeat' first | refine o_frzA (f := 30) rfl rfl rfl rfl (by (repeat' first | exact trivial | refine And.intro ?_ ?_ | rfl); first | done | fail) (by (repeat' first | exact trivial | refine And.intro ?_ ?_ | rfl); first | done | fail) rfl rfl ?_ | refine wr (by omega) ?_ | refine ln ?_ | refine stp lay_ok rfl ?_ | refine fin ?_ | refine n_thn ?_ | refine n_blk ?_ | refine e_thn ?_ | refine e_hit ?_ | refine e_miss rfl ?_ | refine r_thn ?_ | refine r_blk ?_ | refine e_rr ?_ | refine r_rr ?_ | refine e_cr ?_ | refine r_cr ?_ | refine .seq ?_ | refine reg ?_ | refine .block ?_ | refine .skip ?_ | refine .ret ?_ | refine .exit ?_ | refine cndT rfl ?_ | refine cndF rfl ?_ | refine c_dec rfl (fun hc => ?_) (fun hc => ?_) | refine c_ndec rfl (fun hc => ?_) (fun hc => ?_) | refine cnd rfl (fun hc => ?_) (fun hc => ?_) | ((first | refine o_none rfl ?_ | refine o_none_ ?_ | refine o_yes rfl rfl rfl ?_ | refine o_yes_ rfl rfl ?_); first | refine st_pure (hwr) b30 rfl rfl rfl rfl ?_ | refine st_strOf lay_ok rfl rfl rfl rfl rfl rfl rfl ?_ | refine st_append lay_ok rfl rfl rfl rfl rfl rfl rfl rfl (.lsl rfl rfl) .sl rfl (one_s _) (by simp only [List.length_cons, List.length_nil]; omega) (by simp only [List.length_cons, List.length_nil]; omega) ?_) | refine gd rfl rfl rfl (fun hg => ?_) (fun hg => ?_) | refine gn rfl rfl rfl (fun hg => ?_) (fun hg => ?_) | refine dwr (by omega) ?_ | refine dwl ?_ | refine dws lay_ok rfl rfl rfl rfl rfl rfl rfl ?_ | refine dwu lay_ok rfl rfl rfl rfl rfl rfl rfl rfl rfl ?_ | refine dw_end ?_ | refine dw_skip rfl rfl rfl ?_ | refine dwn lay_ok rfl rfl rfl rfl rfl ?_ | refine dwb rfl rfl rfl rfl rfl (by (first | refine st_pure (hwr) b30 rfl rfl rfl rfl ?_ | refine st_strOf lay_ok rfl rfl rfl rfl rfl rfl rfl ?_ | refine st_append lay_ok rfl rfl rfl rfl rfl rfl rfl rfl (.lsl rfl rfl) .sl rfl (one_s _) (by simp only [List.length_cons, List.length_nil]; omega) (by simp only [List.length_cons, List.length_nil]; omega) ?_); exact fin rfl) rfl rfl ?_ | refine dwg rfl rfl rfl rfl rfl (by (first | refine st_pure (hwr) b30 rfl rfl rfl rfl ?_ | refine st_strOf lay_ok rfl rfl rfl rfl rfl rfl rfl ?_ | refine st_append lay_ok rfl rfl rfl rfl rfl rfl rfl rfl (.lsl rfl rfl) .sl rfl (one_s _) (by simp only [List.length_cons, List.length_nil]; omega) (by simp only [List.length_cons, List.length_nil]; omega) ?_); exact fin rfl) rfl rfl rfl rfl rfl ?_ | refine dw_dec rfl rfl rfl (fun hg => ?_) (fun hg => ?_) | refine dw_ndec rfl rfl rfl (fun hg => ?_) (fun hg => ?_)
    all_goals first
      | (exfalso; omega)
      | skip
    rw [hr]
    refine n_rr (i + 1) ?_ (.of [4] (by (repeat' first | exact trivial | refine And.intro ?_ ?_ | rfl); first | done | fail) (by (repeat' first | exact trivial | refine And.intro ?_ ?_ | rfl); first | done | fail) rfl) ?_
    · omega
    · exact hi8
  have hat : (l.map rowN)[((k : Nat) : Int).toNat]? = some (rowN l[k]) := by simp [hk]
  have hot := ownL_take (c := (i : Int)) hk
  rw [← h2] at hot
  generalize l[k] = s at *
  obtain ⟨c', n, d, es⟩ := s
  simp only at hot
  have hr : List.map rowN out ++ [rowN ⟨c', n, d, es⟩] = List.map rowN (out ++ [⟨c', n, d, es⟩]) := by rw [List.map_append]; rfl
  by_cases hcc : c' = (i : Int)
  · rw [if_pos hcc] at hot
    repeat' first | refine o_frb 4 [.int .i64 c', .str n, .bool d, .sl 3 (es.map rowE)] rfl rfl rfl (by (repeat' first | exact trivial | refine And.intro ?_ ?_ | rfl); first | done | fail) (by (repeat' first | exact trivial | refine And.intro ?_ ?_ | rfl); first | done | fail) rfl rfl ?_ | refine wr (by omega) ?_ | refine ln ?_ | refine stp lay_ok rfl ?_ | refine fin ?_ | refine n_thn ?_ | refine n_blk ?_ | refine e_thn ?_ | refine e_hit ?_ | refine e_miss rfl ?_ | refine r_thn ?_ | refine r_blk ?_ | refine e_rr ?_ | refine r_rr ?_ | refine e_cr ?_ | refine r_cr ?_ | refine .seq ?_ | refine reg ?_ | refine .block ?_ | refine .skip ?_ | refine .ret ?_ | refine .exit ?_ | refine cndT rfl ?_ | refine cndF rfl ?_ | refine c_dec rfl (fun hc => ?_) (fun hc => ?_) | refine c_ndec rfl (fun hc => ?_) (fun hc => ?_) | refine cnd rfl (fun hc => ?_) (fun hc => ?_) | ((first | refine o_none rfl ?_ | refine o_none_ ?_ | refine o_yes rfl rfl rfl ?_ | refine o_yes_ rfl rfl ?_); first | refine st_index (rowN ⟨c', n, d, es⟩) lay_ok rfl rfl rfl rfl (by omega) hat ?_ | refine st_append lay_ok rfl rfl rfl rfl rfl rfl rfl rfl (.lsl rfl rfl) (.sl (rows := [rowN ⟨c', n, d, es⟩])) rfl (rowN_one (b := [⟨c', n, d, es⟩])) (by simp only [List.length_cons, List.length_nil]; omega) (by simp only [List.length_cons, List.length_nil]; omega) ?_) | refine gd rfl rfl rfl (fun hg => ?_) (fun hg => ?_) | refine gn rfl rfl rfl (fun hg => ?_) (fun hg => ?_) | refine dwr (by omega) ?_ | refine dwl ?_ | refine dws lay_ok rfl rfl rfl rfl rfl rfl rfl ?_ | refine dwu lay_ok rfl rfl rfl rfl rfl rfl rfl rfl rfl ?_ | refine dw_end ?_ | refine dw_skip rfl rfl rfl ?_ | refine dwn lay_ok rfl rfl rfl rfl rfl ?_ | refine dwb rfl rfl rfl rfl rfl (by (first | refine st_index (rowN ⟨c', n, d, es⟩) lay_ok rfl rfl rfl rfl (by omega) hat ?_ | refine st_append lay_ok rfl rfl rfl rfl rfl rfl rfl rfl (.lsl rfl rfl) (.sl (rows := [rowN ⟨c', n, d, es⟩])) rfl (rowN_one (b := [⟨c', n, d, es⟩])) (by simp only [List.length_cons, List.length_nil]; omega) (by simp only [List.length_cons, List.length_nil]; omega) ?_); exact fin rfl) rfl rfl ?_ | refine dwg rfl rfl rfl rfl rfl (by (first | refine st_index (rowN ⟨c', n, d, es⟩) lay_ok rfl rfl rfl rfl (by omega) hat ?_ | refine st_append lay_ok rfl rfl rfl rfl rfl rfl rfl rfl (.lsl rfl rfl) (.sl (rows := [rowN ⟨c', n, d, es⟩])) rfl (rowN_one (b := [⟨c', n, d, es⟩])) (by simp only [List.length_cons, List.length_nil]; omega) (by simp only [List.length_cons, List.length_nil]; omega) ?_); exact fin rfl) rfl rfl rfl rfl rfl ?_ | refine dw_dec rfl rfl rfl (fun hg => ?_) (fun hg => ?_) | refine dw_ndec rfl rfl rfl (fun hg => ?_) (fun hg => ?_)
    all_goals first
      | (exfalso; omega)
      | (exfalso; simp_all; done)
      | skip
    rw [hr]
    refine n_rr ((k + 1, out ++ [⟨c', n, d, es⟩])) ?_ (.of [5] (by (repeat' first | exact trivial | refine And.intro ?_ ?_ | rfl); first | done | fail) (by (repeat' first | exact trivial | refine And.intro ?_ ?_ | rfl); first | done | fail) rfl) ?_
    · show l.length - (k + 1) < l.length - k; omega
    · exact ⟨hk, hot.symm⟩
  · rw [if_neg hcc, List.append_nil] at hot
    repeat' first | refine o_frb 4 [.int .i64 c', .str n, .bool d, .sl 3 (es.map rowE)] rfl rfl rfl (by (repeat' first | exact trivial | refine And.intro ?_ ?_ | rfl); first | done | fail) (by (repeat' first | exact trivial | refine And.intro ?_ ?_ | rfl); first | done | fail) rfl rfl ?_ | refine wr (by omega) ?_ | refine ln ?_ | refine stp lay_ok rfl ?_ | refine fin ?_ | refine n_thn ?_ | refine n_blk ?_ | refine e_thn ?_ | refine e_hit ?_ | refine e_miss rfl ?_ | refine r_thn ?_ | refine r_blk ?_ | refine e_rr ?_ | refine r_rr ?_ | refine e_cr ?_ | refine r_cr ?_ | refine .seq ?_ | refine reg ?_ | refine .block ?_ | refine .skip ?_ | refine .ret ?_ | refine .exit ?_ | refine cndT rfl ?_ | refine cndF rfl ?_ | refine c_dec rfl (fun hc => ?_) (fun hc => ?_) | refine c_ndec rfl (fun hc => ?_) (fun hc => ?_) | refine cnd rfl (fun hc => ?_) (fun hc => ?_) | ((first | refine o_none rfl ?_ | refine o_none_ ?_ | refine o_yes rfl rfl rfl ?_ | refine o_yes_ rfl rfl ?_); first | refine st_index (rowN ⟨c', n, d, es⟩) lay_ok rfl rfl rfl rfl (by omega) hat ?_) | refine gd rfl rfl rfl (fun hg => ?_) (fun hg => ?_) | refine gn rfl rfl rfl (fun hg => ?_) (fun hg => ?_) | refine dwr (by omega) ?_ | refine dwl ?_ | refine dws lay_ok rfl rfl rfl rfl rfl rfl rfl ?_ | refine dwu lay_ok rfl rfl rfl rfl rfl rfl rfl rfl rfl ?_ | refine dw_end ?_ | refine dw_skip rfl rfl rfl ?_ | refine dwn lay_ok rfl rfl rfl rfl rfl ?_ | refine dwb rfl rfl rfl rfl rfl (by (first | refine st_index (rowN ⟨c', n, d, es⟩) lay_ok rfl rfl rfl rfl (by omega) hat ?_); exact fin rfl) rfl rfl ?_ | refine dwg rfl rfl rfl rfl rfl (by (first | refine st_index (rowN ⟨c', n, d, es⟩) lay_ok rfl rfl rfl rfl (by omega) hat ?_); exact fin rfl) rfl rfl rfl rfl rfl ?_ | refine dw_dec rfl rfl rfl (fun hg => ?_) (fun hg => ?_) | refine dw_ndec rfl rfl rfl (fun hg => ?_) (fun hg => ?_)
    all_goals first
      | (exfalso; omega)
      | (exfalso; simp_all; done)
      | skip
    refine n_rr ((k + 1, out)) ?_ (.of [3] (by (repeat' first | exact trivial | refine And.intro ?_ ?_ | rfl); first | done | fail) (by (repeat' first | exact trivial | refine And.intro ?_ ?_ | rfl); first | done | fail) rfl) ?_
    · show l.length - (k + 1) < l.length - k; omega
    · exact ⟨hk, hot.symm⟩
/-! ### the clients whose parts differ -/
def diffL (a b : List ByteArray) (k : Nat) : List Nat := (List.range k).filter fun i => decide (a[i]? ≠ b[i]?)
theorem diffL_succ (a b : List ByteArray) (k : Nat) : diffL a b (k + 1) = diffL a b k ++ if a[k]? ≠ b[k]? then [k] else [] := by
  rw [diffL, List.range_succ, List.filter_append, diffL]
  congr 1
  simp only [List.filter_cons, List.filter_nil, decide_eq_true_eq]
theorem diffL_le (a b : List ByteArray) (k : Nat) : (diffL a b k).length ≤ k := by
  have := List.length_filter_le (fun i => decide (a[i]? ≠ b[i]?)) (List.range k)
  rw [List.length_range] at this; exact this
def row1N (n : Nat) : List SV := [.int .i64 (n : Int)]
theorem one_i (n : Int) : ∀ row ∈ [[SV.int .i64 n]], ∀ y ∈ row, SV.one y = true := by simp [SV.one]
theorem differ_nil2 (l : List NV) (hl : l.length ≤ 2999999990) (hB : (putL l).length ≤ 2999999990) (hw : ∀ s ∈ l, s.put) (hf : ∀ s ∈ l, s.fit) :
    ACalls prog 18 0 [.st (.sptr [.sl 4 (l.map rowN)]), .st .nilptr] [] fun r h => r = .tuple [.st .nilsl, errE 1] ∧ h = [] := by
  have h1 := iparts_ok l hl hB hw hf
  refine fnC lay_ok func18 rfl rfl rfl rfl rfl ?_
  repeat' first | refine wr (by omega) ?_ | refine ln ?_ | refine stp lay_ok rfl ?_ | refine fin ?_ | refine n_thn ?_ | refine n_blk ?_ | refine e_thn ?_ | refine e_hit ?_ | refine e_miss rfl ?_ | refine r_thn ?_ | refine r_blk ?_ | refine e_rr ?_ | refine r_rr ?_ | refine e_cr ?_ | refine r_cr ?_ | refine .seq ?_ | refine reg ?_ | refine .block ?_ | refine .skip ?_ | refine .ret ?_ | refine .exit ?_ | refine cndT rfl ?_ | refine cndF rfl ?_ | refine c_dec rfl (fun hc => ?_) (fun hc => ?_) | refine c_ndec rfl (fun hc => ?_) (fun hc => ?_) | refine cnd rfl (fun hc => ?_) (fun hc => ?_) | ((first | refine o_none rfl ?_ | refine o_none_ ?_ | refine o_yes rfl rfl rfl ?_ | refine o_yes_ rfl rfl ?_); first | refine st_pure (h1) b15 rfl rfl rfl rfl ?_ | refine st_pure (parts_nil) b15 rfl rfl rfl rfl ?_) | refine gd rfl rfl rfl (fun hg => ?_) (fun hg => ?_) | refine gn rfl rfl rfl (fun hg => ?_) (fun hg => ?_) | refine dwr (by omega) ?_ | refine dwl ?_ | refine dws lay_ok rfl rfl rfl rfl rfl rfl rfl ?_ | refine dwu lay_ok rfl rfl rfl rfl rfl rfl rfl rfl rfl ?_ | refine dw_end ?_ | refine dw_skip rfl rfl rfl ?_ | refine dwn lay_ok rfl rfl rfl rfl rfl ?_ | refine dwb rfl rfl rfl rfl rfl (by (first | refine st_pure (h1) b15 rfl rfl rfl rfl ?_ | refine st_pure (parts_nil) b15 rfl rfl rfl rfl ?_); exact fin rfl) rfl rfl ?_ | refine dwg rfl rfl rfl rfl rfl (by (first | refine st_pure (h1) b15 rfl rfl rfl rfl ?_ | refine st_pure (parts_nil) b15 rfl rfl rfl rfl ?_); exact fin rfl) rfl rfl rfl rfl rfl ?_ | refine dw_dec rfl rfl rfl (fun hg => ?_) (fun hg => ?_) | refine dw_ndec rfl rfl rfl (fun hg => ?_) (fun hg => ?_)
  refine f_r [] rfl trivial rfl ⟨?_, rfl⟩; rfl
theorem differ_ok (l l' : List NV) (hl : l.length ≤ 2999999990) (hB : (putL l).length ≤ 2999999990) (hw : ∀ s ∈ l, s.put) (hf : ∀ s ∈ l, s.fit) (hl' : l'.length ≤ 2999999990) (hB' : (putL l').length ≤ 2999999990) (hw' : ∀ s ∈ l', s.put) (hf' : ∀ s ∈ l', s.fit) :
    ACalls prog 18 0 [.st (.sptr [.sl 4 (l.map rowN)]), .st (.sptr [.sl 4 (l'.map rowN)])] [] fun r h => r = .tuple [.st (.sl 1 ((diffL (partL l 8) (partL l' 8) 8).map row1N)), nilE] ∧ h = [] := by
  have h1 := iparts_ok l hl hB hw hf
  have h2 := iparts_ok l' hl' hB' hw' hf'
  have ha : (partL l 8).length = 8 := by simp [partL]
  have hb : (partL l' 8).length = 8 := by simp [partL]
  generalize partL l 8 = a at *
  generalize partL l' 8 = b at *
  have hma : (List.map rowS a).length = a.length := List.length_map _
  have hmb : (List.map rowS b).length = b.length := List.length_map _
  refine fnC lay_ok func18 rfl rfl rfl rfl rfl ?_
  repeat' first | refine wr (by omega) ?_ | refine ln ?_ | refine stp lay_ok rfl ?_ | refine fin ?_ | refine n_thn ?_ | refine n_blk ?_ | refine e_thn ?_ | refine e_hit ?_ | refine e_miss rfl ?_ | refine r_thn ?_ | refine r_blk ?_ | refine e_rr ?_ | refine r_rr ?_ | refine e_cr ?_ | refine r_cr ?_ | refine .seq ?_ | refine reg ?_ | refine .block ?_ | refine .skip ?_ | refine .ret ?_ | refine .exit ?_ | refine cndT rfl ?_ | refine cndF rfl ?_ | refine c_dec rfl (fun hc => ?_) (fun hc => ?_) | refine c_ndec rfl (fun hc => ?_) (fun hc => ?_) | refine cnd rfl (fun hc => ?_) (fun hc => ?_) | ((first | refine o_none rfl ?_ | refine o_none_ ?_ | refine o_yes rfl rfl rfl ?_ | refine o_yes_ rfl rfl ?_); first | refine st_pure (h1) b15 rfl rfl rfl rfl ?_ | refine st_pure (h2) b15 rfl rfl rfl rfl ?_) | refine gd rfl rfl rfl (fun hg => ?_) (fun hg => ?_) | refine gn rfl rfl rfl (fun hg => ?_) (fun hg => ?_) | refine dwr (by omega) ?_ | refine dwl ?_ | refine dws lay_ok rfl rfl rfl rfl rfl rfl rfl ?_ | refine dwu lay_ok rfl rfl rfl rfl rfl rfl rfl rfl rfl ?_ | refine dw_end ?_ | refine dw_skip rfl rfl rfl ?_ | refine dwn lay_ok rfl rfl rfl rfl rfl ?_ | refine dwb rfl rfl rfl rfl rfl (by (first | refine st_pure (h1) b15 rfl rfl rfl rfl ?_ | refine st_pure (h2) b15 rfl rfl rfl rfl ?_); exact fin rfl) rfl rfl ?_ | refine dwg rfl rfl rfl rfl rfl (by (first | refine st_pure (h1) b15 rfl rfl rfl rfl ?_ | refine st_pure (h2) b15 rfl rfl rfl rfl ?_); exact fin rfl) rfl rfl rfl rfl rfl ?_ | refine dw_dec rfl rfl rfl (fun hg => ?_) (fun hg => ?_) | refine dw_ndec rfl rfl rfl (fun hg => ?_) (fun hg => ?_)
  refine CodeOk.wk (Wk.nilT 1 9 rfl rfl) (Nat.le_succ _) ?_
  refine nrm rfl rfl ?_
  refine lpR (fun (i, out) => i ≤ 8 ∧ out = diffL a b i) (fun (i, out) => 8 - i) (fun (i, out) => [(29, I i), (9, .lsl 1 1 0 (out.map row1N).length)]) (fun (i, out) => [(1, .arr 1 (out.map row1N))]) ((0, [])) [6, 8, 28] [] [0] rfl rfl rfl (.of [0] (by (repeat' first | exact trivial | refine And.intro ?_ ?_ | rfl); first | done | fail) (by (repeat' first | exact trivial | refine And.intro ?_ ?_ | rfl); first | done | fail) rfl) ?_ ?_
  · exact ⟨Nat.zero_le _, rfl⟩
  rintro ⟨i, out⟩ ⟨hi, ho⟩
  refine nrm rfl rfl ?_
  by_cases hi8 : i < 8
  case neg =>
    have : i = 8 := by omega
    subst this
    repeat' first | refine wr (by omega) ?_ | refine ln ?_ | refine stp lay_ok rfl ?_ | refine fin ?_ | refine n_thn ?_ | refine n_blk ?_ | refine e_thn ?_ | refine e_hit ?_ | refine e_miss rfl ?_ | refine r_thn ?_ | refine r_blk ?_ | refine e_rr ?_ | refine r_rr ?_ | refine e_cr ?_ | refine r_cr ?_ | refine .seq ?_ | refine reg ?_ | refine .block ?_ | refine .skip ?_ | refine .ret ?_ | refine .exit ?_ | refine cndT rfl ?_ | refine cndF rfl ?_ | refine c_dec rfl (fun hc => ?_) (fun hc => ?_) | refine c_ndec rfl (fun hc => ?_) (fun hc => ?_) | refine cnd rfl (fun hc => ?_) (fun hc => ?_) | refine gd rfl rfl rfl (fun hg => ?_) (fun hg => ?_) | refine gn rfl rfl rfl (fun hg => ?_) (fun hg => ?_) | refine dwr (by omega) ?_ | refine dwl ?_ | refine dws lay_ok rfl rfl rfl rfl rfl rfl rfl ?_ | refine dwu lay_ok rfl rfl rfl rfl rfl rfl rfl rfl rfl ?_ | refine dw_end ?_ | refine dw_skip rfl rfl rfl ?_ | refine dwn lay_ok rfl rfl rfl rfl rfl ?_ | refine dw_dec rfl rfl rfl (fun hg => ?_) (fun hg => ?_) | refine dw_ndec rfl rfl rfl (fun hg => ?_) (fun hg => ?_)
    all_goals first
      | (exfalso; omega)
      | skip
    refine f_end (n0 := 0) (t'' := [(4, .st (.sl 1 (out.map row1N))), (5, nilE)]) (h'' := []) (Wk.then (Wk.frz 1 [4, 5] rfl rfl rfl (by (repeat' first | exact trivial | refine And.intro ?_ ?_ | rfl); first | done | fail) (by (repeat' first | exact trivial | refine And.intro ?_ ?_ | rfl); first | done | fail) rfl rfl) (WkR.of [] (by (repeat' first | exact trivial | refine And.intro ?_ ?_ | rfl); first | done | fail) (by (repeat' first | exact trivial | refine And.intro ?_ ?_ | rfl); first | done | fail) rfl)) rfl rfl ⟨?_, rfl⟩
    rw [ho]; rfl
  have hmo : (List.map row1N out).length = out.length := List.length_map _
  have hle := diffL_le a b i
  rw [← ho] at hle
  have hka : i < a.length := by omega
  have hkb : i < b.length := by omega
  have hat := at_rowS hka
  have hbt := at_rowS hkb
  have hds := diffL_succ a b i
  rw [List.getElem?_eq_getElem hka, List.getElem?_eq_getElem hkb, ← ho] at hds
  generalize a[i] = x at *
  generalize b[i] = y at *
  have hr : List.map row1N out ++ [[SV.int .i64 (i : Int)]] = List.map row1N (out ++ [i]) := by rw [List.map_append]; rfl
  by_cases hxy : x = y
  · rw [if_neg (by rw [hxy]; exact fun h => h rfl), List.append_nil] at hds
    repeat' first | refine wr (by omega) ?_ | refine ln ?_ | refine stp lay_ok rfl ?_ | refine fin ?_ | refine n_thn ?_ | refine n_blk ?_ | refine e_thn ?_ | refine e_hit ?_ | refine e_miss rfl ?_ | refine r_thn ?_ | refine r_blk ?_ | refine e_rr ?_ | refine r_rr ?_ | refine e_cr ?_ | refine r_cr ?_ | refine .seq ?_ | refine reg ?_ | refine .block ?_ | refine .skip ?_ | refine .ret ?_ | refine .exit ?_ | refine cndT rfl ?_ | refine cndF rfl ?_ | refine c_dec rfl (fun hc => ?_) (fun hc => ?_) | refine c_ndec rfl (fun hc => ?_) (fun hc => ?_) | refine cnd rfl (fun hc => ?_) (fun hc => ?_) | refine gd rfl rfl rfl (fun hg => ?_) (fun hg => ?_) | refine gn rfl rfl rfl (fun hg => ?_) (fun hg => ?_) | refine dwr (by omega) ?_ | refine dwl ?_ | refine dws lay_ok rfl rfl rfl rfl rfl rfl rfl ?_ | refine dwu lay_ok rfl rfl rfl rfl rfl rfl rfl rfl rfl ?_ | refine dw_end ?_ | refine dw_skip rfl rfl rfl ?_ | refine dwn lay_ok rfl rfl rfl rfl rfl ?_ | refine dw_dec rfl rfl rfl (fun hg => ?_) (fun hg => ?_) | refine dw_ndec rfl rfl rfl (fun hg => ?_) (fun hg => ?_)
    all_goals first
      | (exfalso; omega)
      | skip
    refine dreg [(0, [], [33, 36, 37, 38, 39]), (1, [], [32, 36, 37, 38, 39]), (2, [0, 1], [36, 37, 38, 39]), (3, [0, 1, 2], [36, 37, 38, 39]), (4, [], [32, 33, 34, 35, 37]), (5, [], [32, 33, 34, 35, 36]), (6, [4, 5], [32, 33, 34, 35]), (7, [4, 5, 6], [32, 33, 34, 35]), (8, [0, 1, 2, 3, 4, 5, 6, 7], [])] mixed (by kernel_rfl) ?_
    repeat' first | refine wr (by omega) ?_ | refine ln ?_ | refine stp lay_ok rfl ?_ | refine fin ?_ | refine n_thn ?_ | refine n_blk ?_ | refine e_thn ?_ | refine e_hit ?_ | refine e_miss rfl ?_ | refine r_thn ?_ | refine r_blk ?_ | refine e_rr ?_ | refine r_rr ?_ | refine e_cr ?_ | refine r_cr ?_ | refine .seq ?_ | refine reg ?_ | refine .block ?_ | refine .skip ?_ | refine .ret ?_ | refine .exit ?_ | refine cndT rfl ?_ | refine cndF rfl ?_ | refine c_dec rfl (fun hc => ?_) (fun hc => ?_) | refine c_ndec rfl (fun hc => ?_) (fun hc => ?_) | refine cnd rfl (fun hc => ?_) (fun hc => ?_) | ((first | refine o_none rfl ?_ | refine o_none_ ?_ | refine o_yes rfl rfl rfl ?_ | refine o_yes_ rfl rfl ?_); first | refine st_index (rowS x) lay_ok rfl rfl rfl rfl (by omega) hat ?_ | refine st_index (rowS y) lay_ok rfl rfl rfl rfl (by omega) hbt ?_) | refine gd rfl rfl rfl (fun hg => ?_) (fun hg => ?_) | refine gn rfl rfl rfl (fun hg => ?_) (fun hg => ?_) | refine dwr (by omega) ?_ | refine dwl ?_ | refine dws lay_ok rfl rfl rfl rfl rfl rfl rfl ?_ | refine dwu lay_ok rfl rfl rfl rfl rfl rfl rfl rfl rfl ?_ | refine dw_end ?_ | refine dw_skip rfl rfl rfl ?_ | refine dwn lay_ok rfl rfl rfl rfl rfl ?_ | refine dwb rfl rfl rfl rfl rfl (by (first | refine st_index (rowS x) lay_ok rfl rfl rfl rfl (by omega) hat ?_ | refine st_index (rowS y) lay_ok rfl rfl rfl rfl (by omega) hbt ?_); exact fin rfl) rfl rfl ?_ | refine dwg rfl rfl rfl rfl rfl (by (first | refine st_index (rowS x) lay_ok rfl rfl rfl rfl (by omega) hat ?_ | refine st_index (rowS y) lay_ok rfl rfl rfl rfl (by omega) hbt ?_); exact fin rfl) rfl rfl rfl rfl rfl ?_ | refine dw_dec rfl rfl rfl (fun hg => ?_) (fun hg => ?_) | refine dw_ndec rfl rfl rfl (fun hg => ?_) (fun hg => ?_)
    all_goals first
      | (exfalso; exact absurd hxy (by assumption))
      | skip
    refine n_rr ((i + 1, out)) ?_ (.of [1] (by (repeat' first | exact trivial | refine And.intro ?_ ?_ | rfl); first | done | fail) (by (repeat' first | exact trivial | refine And.intro ?_ ?_ | rfl); first | done | fail) rfl) ?_
    · show 8 - (i + 1) < 8 - i; omega
    · exact ⟨hi8, hds.symm⟩
  · rw [if_pos (fun h => hxy (Option.some.inj h))] at hds
    repeat' first | refine wr (by omega) ?_ | refine ln ?_ | refine stp lay_ok rfl ?_ | refine fin ?_ | refine n_thn ?_ | refine n_blk ?_ | refine e_thn ?_ | refine e_hit ?_ | refine e_miss rfl ?_ | refine r_thn ?_ | refine r_blk ?_ | refine e_rr ?_ | refine r_rr ?_ | refine e_cr ?_ | refine r_cr ?_ | refine .seq ?_ | refine reg ?_ | refine .block ?_ | refine .skip ?_ | refine .ret ?_ | refine .exit ?_ | refine cndT rfl ?_ | refine cndF rfl ?_ | refine c_dec rfl (fun hc => ?_) (fun hc => ?_) | refine c_ndec rfl (fun hc => ?_) (fun hc => ?_) | refine cnd rfl (fun hc => ?_) (fun hc => ?_) | refine gd rfl rfl rfl (fun hg => ?_) (fun hg => ?_) | refine gn rfl rfl rfl (fun hg => ?_) (fun hg => ?_) | refine dwr (by omega) ?_ | refine dwl ?_ | refine dws lay_ok rfl rfl rfl rfl rfl rfl rfl ?_ | refine dwu lay_ok rfl rfl rfl rfl rfl rfl rfl rfl rfl ?_ | refine dw_end ?_ | refine dw_skip rfl rfl rfl ?_ | refine dwn lay_ok rfl rfl rfl rfl rfl ?_ | refine dw_dec rfl rfl rfl (fun hg => ?_) (fun hg => ?_) | refine dw_ndec rfl rfl rfl (fun hg => ?_) (fun hg => ?_)
    all_goals first
      | (exfalso; omega)
      | skip
    refine dreg [(0, [], [33, 36, 37, 38, 39]), (1, [], [32, 36, 37, 38, 39]), (2, [0, 1], [36, 37, 38, 39]), (3, [0, 1, 2], [36, 37, 38, 39]), (4, [], [32, 33, 34, 35, 37]), (5, [], [32, 33, 34, 35, 36]), (6, [4, 5], [32, 33, 34, 35]), (7, [4, 5, 6], [32, 33, 34, 35]), (8, [0, 1, 2, 3, 4, 5, 6, 7], [])] mixed (by kernel_rfl) ?_
    repeat' first | refine wr (by omega) ?_ | refine ln ?_ | refine stp lay_ok rfl ?_ | refine fin ?_ | refine n_thn ?_ | refine n_blk ?_ | refine e_thn ?_ | refine e_hit ?_ | refine e_miss rfl ?_ | refine r_thn ?_ | refine r_blk ?_ | refine e_rr ?_ | refine r_rr ?_ | refine e_cr ?_ | refine r_cr ?_ | refine .seq ?_ | refine reg ?_ | refine .block ?_ | refine .skip ?_ | refine .ret ?_ | refine .exit ?_ | refine cndT rfl ?_ | refine cndF rfl ?_ | refine c_dec rfl (fun hc => ?_) (fun hc => ?_) | refine c_ndec rfl (fun hc => ?_) (fun hc => ?_) | refine cnd rfl (fun hc => ?_) (fun hc => ?_) | ((first | refine o_none rfl ?_ | refine o_none_ ?_ | refine o_yes rfl rfl rfl ?_ | refine o_yes_ rfl rfl ?_); first | refine st_index (rowS x) lay_ok rfl rfl rfl rfl (by omega) hat ?_ | refine st_index (rowS y) lay_ok rfl rfl rfl rfl (by omega) hbt ?_ | refine st_append lay_ok rfl rfl rfl rfl rfl rfl rfl rfl (.lsl rfl rfl) .sl rfl (one_i (i : Int)) (by simp only [List.length_cons, List.length_nil]; omega) (by simp only [List.length_cons, List.length_nil]; omega) ?_) | refine gd rfl rfl rfl (fun hg => ?_) (fun hg => ?_) | refine gn rfl rfl rfl (fun hg => ?_) (fun hg => ?_) | refine dwr (by omega) ?_ | refine dwl ?_ | refine dws lay_ok rfl rfl rfl rfl rfl rfl rfl ?_ | refine dwu lay_ok rfl rfl rfl rfl rfl rfl rfl rfl rfl ?_ | refine dw_end ?_ | refine dw_skip rfl rfl rfl ?_ | refine dwn lay_ok rfl rfl rfl rfl rfl ?_ | refine dwb rfl rfl rfl rfl rfl (by (first | refine st_index (rowS x) lay_ok rfl rfl rfl rfl (by omega) hat ?_ | refine st_index (rowS y) lay_ok rfl rfl rfl rfl (by omega) hbt ?_ | refine st_append lay_ok rfl rfl rfl rfl rfl rfl rfl rfl (.lsl rfl rfl) .sl rfl (one_i (i : Int)) (by simp only [List.length_cons, List.length_nil]; omega) (by simp only [List.length_cons, List.length_nil]; omega) ?_); exact fin rfl) rfl rfl ?_ | refine dwg rfl rfl rfl rfl rfl (by (first | refine st_index (rowS x) lay_ok rfl rfl rfl rfl (by omega) hat ?_ | refine st_index (rowS y) lay_ok rfl rfl rfl rfl (by omega) hbt ?_ | refine st_append lay_ok rfl rfl rfl rfl rfl rfl rfl rfl (.lsl rfl rfl) .sl rfl (one_i (i : Int)) (by simp only [List.length_cons, List.length_nil]; omega) (by simp only [List.length_cons, List.length_nil]; omega) ?_); exact fin rfl) rfl rfl rfl rfl rfl ?_ | refine dw_dec rfl rfl rfl (fun hg => ?_) (fun hg => ?_) | refine dw_ndec rfl rfl rfl (fun hg => ?_) (fun hg => ?_)
    all_goals first
      | (exfalso; omega)
      | (exfalso; simp_all; done)
      | skip
    rw [hr]
    refine n_rr ((i + 1, out ++ [i])) ?_ (.of [2] (by (repeat' first | exact trivial | refine And.intro ?_ ?_ | rfl); first | done | fail) (by (repeat' first | exact trivial | refine And.intro ?_ ?_ | rfl); first | done | fail) rfl) ?_
    · show 8 - (i + 1) < 8 - i; omega
    · exact ⟨hi8, hds.symm⟩
end Go.Proofs.YtgjoloaajocafaaDoorFn
namespace Go.Proofs.YtgjoloaajocafaaDoorFn
open Go.Proofs.YtgjoloaajocafaaDoorAl Go.Proofs.Tryd
/-! ### what was written is read as it was -/
theorem numF_shape : ∀ (f n : Nat), n < 128 ^ f → 1 ≤ f → ∃ cs x, numF f n = cs ++ [x] ∧ (∀ y ∈ cs, 128 ≤ y.toNat) ∧ x.toNat < 128
  | 0, _, _, h => by omega
  | f + 1, n, hn, _ => by
    rw [numF]
    split
    · rename_i h
      have hf : 1 ≤ f := by
        rcases Nat.eq_zero_or_pos f with rfl | hf
        · omega
        · exact hf
      obtain ⟨cs, x, h1, h2, h3⟩ := numF_shape f (n / 128) (by rw [Nat.pow_succ] at hn; omega) hf
      refine ⟨UInt8.ofNat (n % 128 + 128) :: cs, x, by rw [h1]; rfl, fun y hy => ?_, h3⟩
      rcases List.mem_cons.1 hy with rfl | hy
      · rw [UInt8.toNat_ofNat']; omega
      · exact h2 y hy
    · exact ⟨[], UInt8.ofNat n, rfl, (fun y hy => by cases hy), by rw [UInt8.toNat_ofNat']; omega⟩
theorem gnF_numL (n : Nat) (r : List UInt8) (hn : n < 2 ^ 64) : gnF (numL n ++ r) 0 0 = some (n, (numL n).length) := by
  have hn2 : n < 128 ^ 10 := Nat.lt_of_lt_of_le hn (by decide)
  obtain ⟨cs, x, h1, h2, h3⟩ := numF_shape 10 n hn2 (by decide)
  have hl := numF_len 10 n
  have hv := numF_back 10 n hn2
  have e : numL n = cs ++ [x] := h1
  rw [h1, List.length_append, List.length_singleton] at hl
  rw [h1] at hv
  rw [e, List.append_assoc, List.singleton_append, gnF_split cs x r 0 0 h2 h3, if_neg, hv]
  · simp
  · rintro (h | ⟨h, h0⟩ | ⟨h, h9⟩)
    · omega
    · by_cases hz : n = 0
      · subst hz
        have := congrArg List.length h1
        rw [show numF 10 0 = [0] by decide] at this
        simp only [List.length_append, List.length_singleton] at this
        omega
      · exact numF_last 10 n cs x hn2 (by omega) h1 h
    · have hva := valN_app cs x h3
      have h9 : cs.length = 9 := by omega
      rw [h9, hv] at hva
      have : 2 * 128 ^ 9 ≤ x.toNat * 128 ^ 9 := Nat.mul_le_mul_right _ h
      omega
def Rdy (b : List UInt8) (p : Nat) (xs : List UInt8) : Prop := ∃ r, b.drop p = xs ++ r
theorem Rdy.left {b : List UInt8} {p : Nat} {xs ys : List UInt8} (h : Rdy b p (xs ++ ys)) : Rdy b p xs := by
  obtain ⟨r, h⟩ := h; exact ⟨ys ++ r, by rw [h, List.append_assoc]⟩
theorem Rdy.right {b : List UInt8} {p : Nat} {xs ys : List UInt8} (h : Rdy b p (xs ++ ys)) : Rdy b (p + xs.length) ys := by
  obtain ⟨r, h⟩ := h
  refine ⟨r, ?_⟩
  rw [← List.drop_drop, h, List.append_assoc, List.drop_left']; rfl
theorem Rdy.len {b : List UInt8} {p : Nat} {xs : List UInt8} (h : Rdy b p xs) (hp : p ≤ b.length) : p + xs.length ≤ b.length := by
  obtain ⟨r, h⟩ := h
  have := congrArg List.length h
  rw [List.length_drop, List.length_append] at this; omega
theorem numR_rdy {b : List UInt8} {p n : Nat} (h : Rdy b p (numL n)) (hn : n ≤ 65536) : numR b ⟨p, false⟩ = (n, ⟨p + (numL n).length, false⟩) := by
  obtain ⟨r, h⟩ := h
  have hg := gnF_numL n r (by omega)
  simp [numR, gnC, h, hg, show ¬ 65536 < n by omega]
theorem textR_rdy {b : List UInt8} {p : Nat} {s : ByteArray} (h : Rdy b p (textL s)) (hp : p ≤ b.length) (hs : s.size ≤ 4096) : textR b ⟨p, false⟩ = (s, ⟨p + (textL s).length, false⟩) := by
  have hlen := h.len hp
  have h2 := Rdy.right (show Rdy b p (numL s.size ++ bytes s) from h)
  obtain ⟨r, h⟩ := (show Rdy b p (numL s.size ++ bytes s) from h).left
  obtain ⟨r2, h2⟩ := h2
  have hg := gnF_numL s.size r (by omega)
  have e1 : (textL s).length = (numL s.size).length + s.size := by rw [textL, List.length_append, bytes_len]
  have e2 : ((b.drop (p + (numL s.size).length)).take s.size) = bytes s := by
    rw [h2, List.take_left']; exact bytes_len s
  have e3 : strOf (bytes s) = s := by simp [strOf, bytes]
  have e4 : gnC b p 4096 = .ok (s.size, p + (numL s.size).length) := by simp [gnC, h, hg, show ¬ 4096 < s.size by omega]
  have e5 : txC b p = .ok (s, p + (textL s).length) := by
    unfold txC
    rw [e4]
    simp only
    rw [if_neg (by omega), e2, e3, e1, Nat.add_assoc]
  simp [textR, e5]
theorem textsR_rdy {b : List UInt8} : ∀ (ks : List ByteArray) (p : Nat) (acc : List ByteArray), Rdy b p (ks.map textL).flatten → p ≤ b.length → (∀ k ∈ ks, k.size ≤ 4096) →
    textsR b ks.length ⟨p, false⟩ acc = (acc ++ ks, ⟨p + (ks.map textL).flatten.length, false⟩)
  | [], p, acc, _, _, _ => by simp [textsR]
  | k :: ks, p, acc, h, hp, hk => by
    rw [List.map_cons, List.flatten_cons] at h
    have h1 := textR_rdy h.left hp (hk k (by simp))
    have hl := h.left.len hp
    rw [List.length_cons, textsR, if_neg (by simp), h1]
    simp only
    rw [textsR_rdy ks _ _ h.right hl (fun x hx => hk x (by simp [hx]))]
    simp [Nat.add_assoc]
/-- What a reader takes. -/
def EV.rd (e : EV) : Prop := 0 ≤ e.size ∧ e.size ≤ 65536 ∧ e.path.size ≤ 4096 ∧ e.keys.length ≤ 65536 ∧ ∀ k ∈ e.keys, k.size ≤ 4096
def NV.rd (s : NV) : Prop := 0 ≤ s.client ∧ s.client ≤ 65536 ∧ s.name.size ≤ 4096 ∧ s.entries.length ≤ 65536 ∧ ∀ e ∈ s.entries, e.rd
theorem entryR_rdy {b : List UInt8} {p : Nat} {e : EV} (h : Rdy b p (entL e)) (hp : p ≤ b.length) (he : e.rd) : entryR b ⟨p, false⟩ = (e, ⟨p + (entL e).length, false⟩) := by
  obtain ⟨path, z, ks⟩ := e
  obtain ⟨h1, h2, h3, h4, h5⟩ := he
  simp only at h1 h2 h3 h4 h5
  obtain ⟨z, rfl⟩ : ∃ z' : Nat, z = z' := ⟨z.toNat, by omega⟩
  have hle : entL ⟨path, z, ks⟩ = textL path ++ (numL z ++ (numL ks.length ++ (ks.map textL).flatten)) := by
    simp only [entL, headE, Int.toNat_natCast, List.append_assoc]
  rw [hle] at h ⊢
  have r1 := textR_rdy h.left hp h3
  have l1 := h.left.len hp
  have g2 := h.right
  have r2 := numR_rdy g2.left (by omega)
  have l2 := g2.left.len l1
  have g3 := g2.right
  have r3 := numR_rdy g3.left (by omega)
  have l3 := g3.left.len l2
  have g4 := g3.right
  have r4 := textsR_rdy ks _ [] g4 l3 h5
  simp only [entryR, r1, r2, r3, r4, List.nil_append, List.length_append]
  simp only [Nat.add_assoc]
theorem entsR_rdy {b : List UInt8} : ∀ (es : List EV) (p : Nat) (acc : List EV), Rdy b p (es.map entL).flatten → p ≤ b.length → (∀ e ∈ es, e.rd) →
    entsR b es.length ⟨p, false⟩ acc = (acc ++ es, ⟨p + (es.map entL).flatten.length, false⟩)
  | [], p, acc, _, _, _ => by simp [entsR]
  | e :: es, p, acc, h, hp, hk => by
    rw [List.map_cons, List.flatten_cons] at h
    have h1 := entryR_rdy h.left hp (hk e (by simp))
    have hl := h.left.len hp
    rw [List.length_cons, entsR, if_neg (by simp), h1]
    simp only
    rw [entsR_rdy es _ _ h.right hl (fun x hx => hk x (by simp [hx]))]
    simp [Nat.add_assoc]
theorem snapR_rdy {b : List UInt8} {p : Nat} {s : NV} (h : Rdy b p (snapL s)) (hp : p ≤ b.length) (hs : s.rd) : snapR b ⟨p, false⟩ = (s, ⟨p + (snapL s).length, false⟩) := by
  obtain ⟨c, nm, d, es⟩ := s
  obtain ⟨h1, h2, h3, h4, h5⟩ := hs
  simp only at h1 h2 h3 h4 h5
  obtain ⟨c, rfl⟩ : ∃ c' : Nat, c = c' := ⟨c.toNat, by omega⟩
  have hle : snapL ⟨c, nm, d, es⟩ = numL c ++ (textL nm ++ (numL (if d then 1 else 0) ++ (numL es.length ++ (es.map entL).flatten))) := by
    simp only [snapL, headN, Int.toNat_natCast, List.append_assoc]
  rw [hle] at h ⊢
  have r1 := numR_rdy h.left (by omega)
  have l1 := h.left.len hp
  have g2 := h.right
  have r2 := textR_rdy g2.left l1 h3
  have l2 := g2.left.len l1
  have g3 := g2.right
  have r3 := numR_rdy g3.left (by split <;> omega)
  have l3 := g3.left.len l2
  have g4 := g3.right
  have r4 := numR_rdy g4.left (by omega)
  have l4 := g4.left.len l3
  have g5 := g4.right
  have r5 := entsR_rdy es _ [] g5 l4 h5
  have hd1 : decide (((if d = true then 1 else 0 : Nat) : Int) > 1) = false := by cases d <;> rfl
  have hd2 : decide (((if d = true then 1 else 0 : Nat) : Int) = 1) = d := by cases d <;> rfl
  simp only [snapR, r1, r2, r3, hd1, Bool.or_false, r4, r5, hd2, List.nil_append, List.length_append]
  simp only [Nat.add_assoc]
theorem snapsR_rdy {b : List UInt8} : ∀ (l : List NV) (p : Nat) (acc : List NV), Rdy b p (l.map snapL).flatten → p ≤ b.length → (∀ s ∈ l, s.rd) →
    snapsR b l.length ⟨p, false⟩ acc = (acc ++ l, ⟨p + (l.map snapL).flatten.length, false⟩)
  | [], p, acc, _, _, _ => by simp [snapsR]
  | s :: l, p, acc, h, hp, hk => by
    rw [List.map_cons, List.flatten_cons] at h
    have h1 := snapR_rdy h.left hp (hk s (by simp))
    have hl := h.left.len hp
    rw [List.length_cons, snapsR, if_neg (by simp), h1]
    simp only
    rw [snapsR_rdy l _ _ h.right hl (fun x hx => hk x (by simp [hx]))]
    simp [Nat.add_assoc]
/-- Snapshots that a reader takes are read out of their bytes, whatever stands behind. -/
theorem read_putL (l : List NV) (r : List UInt8) (hl : l.length ≤ 65536) (hk : ∀ s ∈ l, s.rd) :
    snapsR (putL l ++ r) (numR (putL l ++ r) ⟨0, false⟩).1 (numR (putL l ++ r) ⟨0, false⟩).2 [] = (l, ⟨(putL l).length, false⟩) := by
  have h0 : Rdy (putL l ++ r) 0 (numL l.length ++ (l.map snapL).flatten) := ⟨r, rfl⟩
  have h1 := numR_rdy h0.left hl
  have l1 := h0.left.len (Nat.zero_le _)
  rw [h1]
  simp only
  have h2 := snapsR_rdy l _ [] h0.right l1 hk
  rw [h2]
  simp [putL]
theorem putL_inj {l l' : List NV} (hl : l.length ≤ 65536) (hk : ∀ s ∈ l, s.rd) (hl' : l'.length ≤ 65536) (hk' : ∀ s ∈ l', s.rd) (h : putL l = putL l') : l = l' := by
  have h1 := read_putL l [] hl hk
  have h2 := read_putL l' [] hl' hk'
  rw [h, h2] at h1
  exact (congrArg Prod.fst h1).symm
theorem getR_putL (l : List NV) (hl : l.length ≤ 65536) (hk : ∀ s ∈ l, s.rd) (hb : fromB l = true) : getR (putL l) = some l := by
  have h1 := read_putL l [] hl hk
  rw [List.append_nil] at h1
  unfold getR
  simp only
  rw [h1]
  simp [hb]
end Go.Proofs.YtgjoloaajocafaaDoorFn
namespace Go.Proofs.YtgjoloaajocafaaDoorFn
open Go.Proofs.YtgjoloaajocafaaDoorAl Go.Proofs.Tryd
attribute [local irreducible] IntKind.wrap CodeOk OpsL OpG ACalls thn inBlk rndR cutR WkR Wk fnR DW ExtOk partsOf
theorem entryC_whole {l : List EV} {i : Nat} {e : EV} (h : entryC l i e = none) : wholeB e = true ∧ pathOk e.path = true := by
  rw [entryC_eq] at h
  split at h
  · rename_i hp
    split at h
    · cases h
    · split at h
      · rename_i h2; exact ⟨h2, hp⟩
      · cases h
  · cases h
theorem badFrom_none {l : List EV} : ∀ (f i : Nat), badFrom l f i = none → ∀ k, i ≤ k → k < i + f → ∀ (h : k < l.length), entryC l k l[k] = none
  | 0, i, _, k, h1, h2, _ => by omega
  | f + 1, i, hb, k, h1, h2, hk => by
    rw [badFrom] at hb
    have hi : i < l.length := by omega
    rw [List.getElem?_eq_getElem hi] at hb
    simp only at hb
    split at hb
    · cases hb
    · rename_i he
      by_cases hki : k = i
      · subst hki; exact he
      · exact badFrom_none f (i + 1) hb k (by omega) (by omega) hk
theorem treeOk_all {l : List EV} (h : treeOk l = true) : l.length ≤ 32 ∧ ∀ e ∈ l, wholeB e = true ∧ pathOk e.path = true := by
  unfold treeOk at h
  rw [Bool.and_eq_true, decide_eq_true_eq, Option.isNone_iff_eq_none] at h
  refine ⟨h.1, fun e he => ?_⟩
  obtain ⟨k, hk, rfl⟩ := List.mem_iff_getElem.1 he
  exact entryC_whole (badFrom_none _ _ h.2 k (Nat.zero_le _) (by omega) hk)
theorem wholeB_keys {e : EV} (h : wholeB e = true) : (∀ k ∈ e.keys, 1 ≤ k.size ∧ k.size ≤ 64) ∧ (tot e.keys : Int) = e.size ∧ tot e.keys ≤ 1024 := by
  unfold wholeB at h
  rw [Bool.and_eq_true, Bool.and_eq_true, decide_eq_true_eq, decide_eq_true_eq, List.all_eq_true] at h
  exact ⟨fun k hk => by have := h.1.1 k hk; simpa [keyOk] using this, h.1.2, h.2⟩
theorem mayN_facts {a : List NV} {s : NV} (h : mayN a s = true) : 0 ≤ s.client ∧ s.client < 8 ∧ partOk s.name = true ∧ s.entries.length ≤ 32 ∧ ∀ e ∈ s.entries, wholeB e = true ∧ pathOk e.path = true ∧ e.keys.length ≤ 16 := by
  unfold mayN at h
  simp only [Bool.and_eq_true, decide_eq_true_eq, Bool.not_eq_true', nameOk_part] at h
  obtain ⟨⟨⟨⟨⟨⟨h1, h2⟩, _⟩, h3⟩, _⟩, h4⟩, h5⟩ := h
  have ht := treeOk_all h4
  refine ⟨h1, h2, h3, ht.1, fun e he => ⟨(ht.2 e he).1, (ht.2 e he).2, ?_⟩⟩
  have := List.any_eq_false.1 h5 e he
  simpa using this
theorem flat_bound {α : Type} (f : α → List UInt8) (B : Nat) : ∀ (l : List α), (∀ x ∈ l, (f x).length ≤ B) → ((l.map f).flatten).length ≤ B * l.length
  | [], _ => by simp
  | x :: r, h => by
    have h1 := h x (by simp)
    have h2 := flat_bound f B r (fun y hy => h y (by simp [hy]))
    rw [List.map_cons, List.flatten_cons, List.length_append, List.length_cons, Nat.mul_add]; omega
theorem numL_len (n : Nat) : (numL n).length ≤ 10 := numF_len 10 n
/-- Snapshots whose texts are short, and that may be a catalog's. -/
def NV.nice (s : NV) : Prop := 0 ≤ s.client ∧ s.client < 8 ∧ s.name.size ≤ 2000 ∧ s.entries.length ≤ 32 ∧ ∀ e ∈ s.entries, (∀ k ∈ e.keys, 1 ≤ k.size ∧ k.size ≤ 64) ∧ (tot e.keys : Int) = e.size ∧ tot e.keys ≤ 1024 ∧ e.keys.length ≤ 16 ∧ e.path.size ≤ 2000
theorem nice_of {l : List NV} (hS : shortN l = true) (hF : fromB l = true) : l.length ≤ 100 ∧ ∀ s ∈ l, s.nice := by
  unfold shortN at hS
  rw [Bool.and_eq_true, decide_eq_true_eq, List.all_eq_true] at hS
  refine ⟨hS.1, fun s hs => ?_⟩
  obtain ⟨a, ha⟩ := fromF_mem [] l hF s hs
  have hm := mayN_facts ha
  have h2 := hS.2 s hs
  rw [Bool.and_eq_true, decide_eq_true_eq] at h2
  have h3 := h2.1
  unfold shortE at h3
  rw [Bool.and_eq_true, List.all_eq_true] at h3
  refine ⟨hm.1, hm.2.1, h2.2, hm.2.2.2.1, fun e he => ?_⟩
  have h4 := h3.2 e he
  unfold shortV at h4
  rw [Bool.and_eq_true, Bool.and_eq_true, decide_eq_true_eq] at h4
  have h5 := hm.2.2.2.2 e he
  have h6 := wholeB_keys h5.1
  exact ⟨h6.1, h6.2.1, h6.2.2, h5.2.2, h4.1.1⟩
theorem NV.nice.put {s : NV} (h : s.nice) : s.put := by
  obtain ⟨h1, h2, h3, h4, h5⟩ := h
  refine ⟨h1, by omega, by omega, by omega, fun e he => ?_⟩
  obtain ⟨g1, g2, g3, g4, g5⟩ := h5 e he
  exact ⟨by omega, by omega, by omega, by omega, fun k hk => by have := g1 k hk; omega⟩
theorem NV.nice.fit {s : NV} (h : s.nice) : s.fit := by
  obtain ⟨h1, h2, h3, h4, h5⟩ := h
  refine ⟨by omega, by omega, fun e he => ?_⟩
  obtain ⟨g1, g2, g3, g4, g5⟩ := h5 e he
  exact ⟨by omega, by omega⟩
theorem NV.nice.rd {s : NV} (h : s.nice) : s.rd := by
  obtain ⟨h1, h2, h3, h4, h5⟩ := h
  refine ⟨h1, by omega, by omega, by omega, fun e he => ?_⟩
  obtain ⟨g1, g2, g3, g4, g5⟩ := h5 e he
  exact ⟨by omega, by omega, by omega, by omega, fun k hk => by have := g1 k hk; omega⟩
theorem snapL_len {s : NV} (h : s.nice) : (snapL s).length ≤ 104888 := by
  obtain ⟨h1, h2, h3, h4, h5⟩ := h
  have he : ((s.entries.map entL).flatten).length ≤ 3214 * s.entries.length := flat_bound entL 3214 s.entries (fun e hm => by
    obtain ⟨g1, g2, g3, g4, g5⟩ := h5 e hm
    have hk : ((e.keys.map textL).flatten).length ≤ 74 * e.keys.length := flat_bound textL 74 e.keys (fun k hk => by
      have := textL_len k; have := g1 k hk; omega)
    have t1 := textL_len e.path
    have n1 := numL_len e.size.toNat
    have n2 := numL_len e.keys.length
    rw [entL, headE]
    simp only [List.length_append]; omega)
  have t1 := textL_len s.name
  have n1 := numL_len s.client.toNat
  have n2 := numL_len (if s.done then 1 else 0)
  have n3 := numL_len s.entries.length
  rw [snapL, headN]
  simp only [List.length_append]; omega
theorem putL_len {l : List NV} (hl : l.length ≤ 100) (h : ∀ s ∈ l, s.nice) : (putL l).length ≤ 11000000 := by
  have h1 := flat_bound snapL 104888 l (fun s hs => snapL_len (h s hs))
  have n1 := numL_len l.length
  rw [putL, List.length_append]; omega
theorem short_fit {l : List NV} (hS : shortN l = true) : l.length ≤ 100 ∧ ∀ s ∈ l, s.fit := by
  unfold shortN at hS
  rw [Bool.and_eq_true, decide_eq_true_eq, List.all_eq_true] at hS
  refine ⟨hS.1, fun s hs => ?_⟩
  have h2 := hS.2 s hs
  rw [Bool.and_eq_true, decide_eq_true_eq] at h2
  have h3 := h2.1
  unfold shortE at h3
  rw [Bool.and_eq_true, decide_eq_true_eq, List.all_eq_true] at h3
  refine ⟨by omega, by omega, fun e he => ?_⟩
  have h4 := h3.2 e he
  unfold shortV at h4
  rw [Bool.and_eq_true, Bool.and_eq_true, decide_eq_true_eq, decide_eq_true_eq] at h4
  exact ⟨by omega, by omega⟩
theorem nice_own {l : List NV} (h : ∀ s ∈ l, s.nice) (c : Int) : ∀ s ∈ ownL l c, s.nice := fun s hs => h s (List.mem_filter.1 hs).1
set_option maxHeartbeats 4000000 in
theorem lawPuts_ok (l : List NV) : ACalls prog 4 0 [.st (.sl 4 (l.map rowN))] [] fun r h => r = B true ∧ h = [] := by
  have hsh := short9_ok l
  refine fnC lay_ok func4 rfl rfl rfl rfl rfl ?_
  cases hS : shortN l <;> rw [hS] at hsh
  · repeat' first | refine wr (by omega) ?_ | refine ln ?_ | refine stp lay_ok rfl ?_ | refine fin ?_ | refine n_thn ?_ | refine n_blk ?_ | refine e_thn ?_ | refine e_hit ?_ | refine e_miss rfl ?_ | refine r_thn ?_ | refine r_blk ?_ | refine e_rr ?_ | refine r_rr ?_ | refine e_cr ?_ | refine r_cr ?_ | refine .seq ?_ | refine reg ?_ | refine .block ?_ | refine .skip ?_ | refine .ret ?_ | refine .exit ?_ | refine cndT rfl ?_ | refine cndF rfl ?_ | refine c_dec rfl (fun hc => ?_) (fun hc => ?_) | refine c_ndec rfl (fun hc => ?_) (fun hc => ?_) | refine cnd rfl (fun hc => ?_) (fun hc => ?_) | ((first | refine o_none rfl ?_ | refine o_none_ ?_ | refine o_yes rfl rfl rfl ?_ | refine o_yes_ rfl rfl ?_); first | refine st_pure (up_ok) b6 rfl rfl rfl rfl ?_ | refine st_pure (hsh) b11 rfl rfl rfl rfl ?_) | refine gd rfl rfl rfl (fun hg => ?_) (fun hg => ?_) | refine gn rfl rfl rfl (fun hg => ?_) (fun hg => ?_) | refine dwr (by omega) ?_ | refine dwl ?_ | refine dws lay_ok rfl rfl rfl rfl rfl rfl rfl ?_ | refine dwu lay_ok rfl rfl rfl rfl rfl rfl rfl rfl rfl ?_ | refine dw_end ?_ | refine dw_skip rfl rfl rfl ?_ | refine dwn lay_ok rfl rfl rfl rfl rfl ?_ | refine dwb rfl rfl rfl rfl rfl (by (first | refine st_pure (up_ok) b6 rfl rfl rfl rfl ?_ | refine st_pure (hsh) b11 rfl rfl rfl rfl ?_); exact fin rfl) rfl rfl ?_ | refine dwg rfl rfl rfl rfl rfl (by (first | refine st_pure (up_ok) b6 rfl rfl rfl rfl ?_ | refine st_pure (hsh) b11 rfl rfl rfl rfl ?_); exact fin rfl) rfl rfl rfl rfl rfl ?_ | refine dw_dec rfl rfl rfl (fun hg => ?_) (fun hg => ?_) | refine dw_ndec rfl rfl rfl (fun hg => ?_) (fun hg => ?_)
    refine f_r [] rfl trivial rfl ⟨?_, rfl⟩; rfl
  have hsf := short_fit hS
  have hmy := refMay_ok l (by omega) hsf.2
  cases hF : fromB l <;> rw [hF] at hmy
  · repeat' first | refine wr (by omega) ?_ | refine ln ?_ | refine stp lay_ok rfl ?_ | refine fin ?_ | refine n_thn ?_ | refine n_blk ?_ | refine e_thn ?_ | refine e_hit ?_ | refine e_miss rfl ?_ | refine r_thn ?_ | refine r_blk ?_ | refine e_rr ?_ | refine r_rr ?_ | refine e_cr ?_ | refine r_cr ?_ | refine .seq ?_ | refine reg ?_ | refine .block ?_ | refine .skip ?_ | refine .ret ?_ | refine .exit ?_ | refine cndT rfl ?_ | refine cndF rfl ?_ | refine c_dec rfl (fun hc => ?_) (fun hc => ?_) | refine c_ndec rfl (fun hc => ?_) (fun hc => ?_) | refine cnd rfl (fun hc => ?_) (fun hc => ?_) | ((first | refine o_none rfl ?_ | refine o_none_ ?_ | refine o_yes rfl rfl rfl ?_ | refine o_yes_ rfl rfl ?_); first | refine st_pure (up_ok) b6 rfl rfl rfl rfl ?_ | refine st_pure (hsh) b11 rfl rfl rfl rfl ?_ | refine st_pure (hmy) b12 rfl rfl rfl rfl ?_) | refine gd rfl rfl rfl (fun hg => ?_) (fun hg => ?_) | refine gn rfl rfl rfl (fun hg => ?_) (fun hg => ?_) | refine dwr (by omega) ?_ | refine dwl ?_ | refine dws lay_ok rfl rfl rfl rfl rfl rfl rfl ?_ | refine dwu lay_ok rfl rfl rfl rfl rfl rfl rfl rfl rfl ?_ | refine dw_end ?_ | refine dw_skip rfl rfl rfl ?_ | refine dwn lay_ok rfl rfl rfl rfl rfl ?_ | refine dwb rfl rfl rfl rfl rfl (by (first | refine st_pure (up_ok) b6 rfl rfl rfl rfl ?_ | refine st_pure (hsh) b11 rfl rfl rfl rfl ?_ | refine st_pure (hmy) b12 rfl rfl rfl rfl ?_); exact fin rfl) rfl rfl ?_ | refine dwg rfl rfl rfl rfl rfl (by (first | refine st_pure (up_ok) b6 rfl rfl rfl rfl ?_ | refine st_pure (hsh) b11 rfl rfl rfl rfl ?_ | refine st_pure (hmy) b12 rfl rfl rfl rfl ?_); exact fin rfl) rfl rfl rfl rfl rfl ?_ | refine dw_dec rfl rfl rfl (fun hg => ?_) (fun hg => ?_) | refine dw_ndec rfl rfl rfl (fun hg => ?_) (fun hg => ?_)
    refine f_r [] rfl trivial rfl ⟨?_, rfl⟩; rfl
  obtain ⟨hl, hn⟩ := nice_of hS hF
  have hlen := putL_len hl hn
  have hfr := from_ok l (by omega) hsf.2 hF
  have hpt := put_ok l (by omega) (by omega) (fun s hs => (hn s hs).put) hsf.2
  have hpa := iparts_ok l (by omega) (by omega) (fun s hs => (hn s hs).put) hsf.2
  have hrp := refPut_ok l (by omega) (by omega) (fun s hs => (hn s hs).put)
  have hp8 : ((partL l 8).map rowS).length = 8 := by simp [partL]
  repeat' first | refine o_frb 0 [.sl 4 (l.map rowN)] rfl rfl rfl (by (repeat' first | exact trivial | refine And.intro ?_ ?_ | rfl); first | done | fail) (by (repeat' first | exact trivial | refine And.intro ?_ ?_ | rfl); first | done | fail) rfl rfl ?_ | refine wr (by omega) ?_ | refine ln ?_ | refine stp lay_ok rfl ?_ | refine fin ?_ | refine n_thn ?_ | refine n_blk ?_ | refine e_thn ?_ | refine e_hit ?_ | refine e_miss rfl ?_ | refine r_thn ?_ | refine r_blk ?_ | refine e_rr ?_ | refine r_rr ?_ | refine e_cr ?_ | refine r_cr ?_ | refine .seq ?_ | refine reg ?_ | refine .block ?_ | refine .skip ?_ | refine .ret ?_ | refine .exit ?_ | refine cndT rfl ?_ | refine cndF rfl ?_ | refine c_dec rfl (fun hc => ?_) (fun hc => ?_) | refine c_ndec rfl (fun hc => ?_) (fun hc => ?_) | refine cnd rfl (fun hc => ?_) (fun hc => ?_) | ((first | refine o_none rfl ?_ | refine o_none_ ?_ | refine o_yes rfl rfl rfl ?_ | refine o_yes_ rfl rfl ?_); first | refine st_pure (up_ok) b6 rfl rfl rfl rfl ?_ | refine st_pure (hsh) b11 rfl rfl rfl rfl ?_ | refine st_pure (hmy) b12 rfl rfl rfl rfl ?_ | refine st_callF 1 (hfr) b13 rfl rfl rfl rfl rfl rfl (by (repeat' first | exact trivial | refine And.intro ?_ ?_ | rfl); first | done | fail) rfl ?_ | refine st_pure (hpt) b14 rfl rfl rfl rfl ?_ | refine st_pure (hpa) b15 rfl rfl rfl rfl ?_ | refine st_pure (parts_nil) b15 rfl rfl rfl rfl ?_) | refine gd rfl rfl rfl (fun hg => ?_) (fun hg => ?_) | refine gn rfl rfl rfl (fun hg => ?_) (fun hg => ?_) | refine dwr (by omega) ?_ | refine dwl ?_ | refine dws lay_ok rfl rfl rfl rfl rfl rfl rfl ?_ | refine dwu lay_ok rfl rfl rfl rfl rfl rfl rfl rfl rfl ?_ | refine dw_end ?_ | refine dw_skip rfl rfl rfl ?_ | refine dwn lay_ok rfl rfl rfl rfl rfl ?_ | refine dwb rfl rfl rfl rfl rfl (by (first | refine st_pure (up_ok) b6 rfl rfl rfl rfl ?_ | refine st_pure (hsh) b11 rfl rfl rfl rfl ?_ | refine st_pure (hmy) b12 rfl rfl rfl rfl ?_ | refine st_callF 1 (hfr) b13 rfl rfl rfl rfl rfl rfl (by (repeat' first | exact trivial | refine And.intro ?_ ?_ | rfl); first | done | fail) rfl ?_ | refine st_pure (hpt) b14 rfl rfl rfl rfl ?_ | refine st_pure (hpa) b15 rfl rfl rfl rfl ?_ | refine st_pure (parts_nil) b15 rfl rfl rfl rfl ?_); exact fin rfl) rfl rfl ?_ | refine dwg rfl rfl rfl rfl rfl (by (first | refine st_pure (up_ok) b6 rfl rfl rfl rfl ?_ | refine st_pure (hsh) b11 rfl rfl rfl rfl ?_ | refine st_pure (hmy) b12 rfl rfl rfl rfl ?_ | refine st_callF 1 (hfr) b13 rfl rfl rfl rfl rfl rfl (by (repeat' first | exact trivial | refine And.intro ?_ ?_ | rfl); first | done | fail) rfl ?_ | refine st_pure (hpt) b14 rfl rfl rfl rfl ?_ | refine st_pure (hpa) b15 rfl rfl rfl rfl ?_ | refine st_pure (parts_nil) b15 rfl rfl rfl rfl ?_); exact fin rfl) rfl rfl rfl rfl rfl ?_ | refine dw_dec rfl rfl rfl (fun hg => ?_) (fun hg => ?_) | refine dw_ndec rfl rfl rfl (fun hg => ?_) (fun hg => ?_)
  refine dreg [(0, [], []), (1, [0], []), (2, [0, 1], []), (3, [0, 1, 2], []), (4, [0, 1, 2, 3], []), (5, [0, 1, 2, 3, 4], []), (6, [0, 1, 2, 3, 4, 5], []), (7, [0, 1, 2, 3, 4, 5, 6], [59]), (8, [0, 1, 2, 3, 4, 5, 6], [58]), (9, [0, 1, 2, 3, 4, 5, 6, 7, 8], []), (10, [0, 1, 2, 3, 4, 5, 6, 7, 8, 9], []), (11, [0, 1, 2, 3, 4, 5, 6, 7, 8, 9, 10], []), (12, [0, 1, 2, 3, 4, 5, 6, 7, 8, 9, 10, 11], [65, 66, 67]), (13, [0, 1, 2, 3, 4, 5, 6, 7, 8, 9, 10, 11, 12], [65, 66, 67]), (14, [0, 1, 2, 3, 4, 5, 6, 7, 8, 9, 10, 11], [63, 64]), (15, [0, 1, 2, 3, 4, 5, 6, 7, 8, 9, 10, 11, 14], [63, 64]), (16, [0, 1, 2, 3, 4, 5, 6, 7, 8, 9, 10, 11, 14, 15], [63, 64]), (17, [0, 1, 2, 3, 4, 5, 6, 7, 8, 9, 10, 11, 12, 13, 14, 15, 16], []), (18, [0, 1, 2, 3, 4, 5, 6, 7, 8, 9, 10, 11, 12, 13, 14, 15, 16, 17], []), (19, [0, 1, 2, 3, 4, 5, 6, 7, 8, 9, 10, 11, 12, 13, 14, 15, 16, 17, 18], []), (20, [0, 1, 2, 3, 4, 5, 6, 7, 8, 9, 10, 11, 12, 13, 14, 15, 16, 17, 18, 19], []), (21, [0, 1, 2, 3, 4, 5, 6, 7, 8, 9, 10, 11, 12, 13, 14, 15, 16, 17, 18, 19, 20], []), (22, [0, 1, 2, 3, 4, 5, 6, 7, 8, 9, 10, 11, 12, 13, 14, 15, 16, 17, 18, 19, 20, 21], []), (23, [0, 1, 2, 3, 4, 5, 6, 7, 8, 9, 10, 11, 12, 13, 14, 15, 16, 17, 18, 19, 20, 21, 22], [])] mixed (by kernel_rfl) ?_
  repeat' first | refine wr (by omega) ?_ | refine ln ?_ | refine stp lay_ok rfl ?_ | refine fin ?_ | refine n_thn ?_ | refine n_blk ?_ | refine e_thn ?_ | refine e_hit ?_ | refine e_miss rfl ?_ | refine r_thn ?_ | refine r_blk ?_ | refine e_rr ?_ | refine r_rr ?_ | refine e_cr ?_ | refine r_cr ?_ | refine .seq ?_ | refine reg ?_ | refine .block ?_ | refine .skip ?_ | refine .ret ?_ | refine .exit ?_ | refine cndT rfl ?_ | refine cndF rfl ?_ | refine c_dec rfl (fun hc => ?_) (fun hc => ?_) | refine c_ndec rfl (fun hc => ?_) (fun hc => ?_) | refine cnd rfl (fun hc => ?_) (fun hc => ?_) | ((first | refine o_none rfl ?_ | refine o_none_ ?_ | refine o_yes rfl rfl rfl ?_ | refine o_yes_ rfl rfl ?_); first | refine st_strOf lay_ok rfl rfl rfl rfl rfl rfl rfl ?_ | refine st_pure (hrp) b16 rfl rfl rfl rfl ?_) | refine gd rfl rfl rfl (fun hg => ?_) (fun hg => ?_) | refine gn rfl rfl rfl (fun hg => ?_) (fun hg => ?_) | refine dwr (by omega) ?_ | refine dwl ?_ | refine dws lay_ok rfl rfl rfl rfl rfl rfl rfl ?_ | refine dwu lay_ok rfl rfl rfl rfl rfl rfl rfl rfl rfl ?_ | refine dw_end ?_ | refine dw_skip rfl rfl rfl ?_ | refine dwn lay_ok rfl rfl rfl rfl rfl ?_ | refine dwb rfl rfl rfl rfl rfl (by (first | refine st_strOf lay_ok rfl rfl rfl rfl rfl rfl rfl ?_ | refine st_pure (hrp) b16 rfl rfl rfl rfl ?_); exact fin rfl) rfl rfl ?_ | refine dwg rfl rfl rfl rfl rfl (by (first | refine st_strOf lay_ok rfl rfl rfl rfl rfl rfl rfl ?_ | refine st_pure (hrp) b16 rfl rfl rfl rfl ?_); exact fin rfl) rfl rfl rfl rfl rfl ?_ | refine dw_dec rfl rfl rfl (fun hg => ?_) (fun hg => ?_) | refine dw_ndec rfl rfl rfl (fun hg => ?_) (fun hg => ?_)
  all_goals first
    | (exfalso; omega)
    | (exfalso; simp_all; done)
    | skip
  refine lpR (fun i => i ≤ 8) (fun i => 8 - i) (fun i => [(14, I i)]) (fun i => []) (0) [0, 3, 10] [] [] rfl rfl rfl (.of [] (by (repeat' first | exact trivial | refine And.intro ?_ ?_ | rfl); first | done | fail) (by (repeat' first | exact trivial | refine And.intro ?_ ?_ | rfl); first | done | fail) rfl) ?_ ?_
  · exact Nat.zero_le _
  rintro i hi
  refine nrm rfl rfl ?_
  by_cases hi8 : i < 8
  · have hat : ((partL l 8).map rowS)[((i : Nat) : Int).toNat]? = some (rowS (partS l i)) := by
      simp [partL, List.getElem?_range hi8]
    have how := refOwn_ok l (i : Int) (by omega)
    have hb := putL_own l (i : Int)
    have hol := ownL_le l (i : Int)
    have hrw := refPut_ok (ownL l (i : Int)) (by omega) (by omega) (fun s hs => (nice_own hn _ s hs).put)
    repeat' first | refine wr (by omega) ?_ | refine ln ?_ | refine stp lay_ok rfl ?_ | refine fin ?_ | refine n_thn ?_ | refine n_blk ?_ | refine e_thn ?_ | refine e_hit ?_ | refine e_miss rfl ?_ | refine r_thn ?_ | refine r_blk ?_ | refine e_rr ?_ | refine r_rr ?_ | refine e_cr ?_ | refine r_cr ?_ | refine .seq ?_ | refine reg ?_ | refine .block ?_ | refine .skip ?_ | refine .ret ?_ | refine .exit ?_ | refine cndT rfl ?_ | refine cndF rfl ?_ | refine c_dec rfl (fun hc => ?_) (fun hc => ?_) | refine c_ndec rfl (fun hc => ?_) (fun hc => ?_) | refine cnd rfl (fun hc => ?_) (fun hc => ?_) | refine gd rfl rfl rfl (fun hg => ?_) (fun hg => ?_) | refine gn rfl rfl rfl (fun hg => ?_) (fun hg => ?_) | refine dwr (by omega) ?_ | refine dwl ?_ | refine dws lay_ok rfl rfl rfl rfl rfl rfl rfl ?_ | refine dwu lay_ok rfl rfl rfl rfl rfl rfl rfl rfl rfl ?_ | refine dw_end ?_ | refine dw_skip rfl rfl rfl ?_ | refine dwn lay_ok rfl rfl rfl rfl rfl ?_ | refine dw_dec rfl rfl rfl (fun hg => ?_) (fun hg => ?_) | refine dw_ndec rfl rfl rfl (fun hg => ?_) (fun hg => ?_)
    all_goals first
      | (exfalso; omega)
      | skip
    refine dreg [(0, [], [80, 83, 84, 85, 86, 87]), (1, [], [79, 83, 84, 85, 86, 87]), (2, [0, 1], [83, 84, 85, 86, 87]), (3, [0, 1, 2], [83, 84, 85, 86, 87]), (4, [], [79, 80, 81, 82, 84]), (5, [], [79, 80, 81, 82, 83]), (6, [4, 5], [79, 80, 81, 82]), (7, [4, 5, 6], [79, 80, 81, 82]), (8, [4, 5, 6, 7], [79, 80, 81, 82]), (9, [0, 1, 2, 3, 4, 5, 6, 7, 8], [])] mixed (by kernel_rfl) ?_
    repeat' first | refine wr (by omega) ?_ | refine ln ?_ | refine stp lay_ok rfl ?_ | refine fin ?_ | refine n_thn ?_ | refine n_blk ?_ | refine e_thn ?_ | refine e_hit ?_ | refine e_miss rfl ?_ | refine r_thn ?_ | refine r_blk ?_ | refine e_rr ?_ | refine r_rr ?_ | refine e_cr ?_ | refine r_cr ?_ | refine .seq ?_ | refine reg ?_ | refine .block ?_ | refine .skip ?_ | refine .ret ?_ | refine .exit ?_ | refine cndT rfl ?_ | refine cndF rfl ?_ | refine c_dec rfl (fun hc => ?_) (fun hc => ?_) | refine c_ndec rfl (fun hc => ?_) (fun hc => ?_) | refine cnd rfl (fun hc => ?_) (fun hc => ?_) | ((first | refine o_none rfl ?_ | refine o_none_ ?_ | refine o_yes rfl rfl rfl ?_ | refine o_yes_ rfl rfl ?_); first | refine st_index (rowS (partS l i)) lay_ok rfl rfl rfl rfl (by omega) hat ?_ | refine st_pure (how) b17 rfl rfl rfl rfl ?_ | refine st_pure (hrw) b16 rfl rfl rfl rfl ?_ | refine st_strOf lay_ok rfl rfl rfl rfl rfl rfl rfl ?_) | refine gd rfl rfl rfl (fun hg => ?_) (fun hg => ?_) | refine gn rfl rfl rfl (fun hg => ?_) (fun hg => ?_) | refine dwr (by omega) ?_ | refine dwl ?_ | refine dws lay_ok rfl rfl rfl rfl rfl rfl rfl ?_ | refine dwu lay_ok rfl rfl rfl rfl rfl rfl rfl rfl rfl ?_ | refine dw_end ?_ | refine dw_skip rfl rfl rfl ?_ | refine dwn lay_ok rfl rfl rfl rfl rfl ?_ | refine dwb rfl rfl rfl rfl rfl (by (first | refine st_index (rowS (partS l i)) lay_ok rfl rfl rfl rfl (by omega) hat ?_ | refine st_pure (how) b17 rfl rfl rfl rfl ?_ | refine st_pure (hrw) b16 rfl rfl rfl rfl ?_ | refine st_strOf lay_ok rfl rfl rfl rfl rfl rfl rfl ?_); exact fin rfl) rfl rfl ?_ | refine dwg rfl rfl rfl rfl rfl (by (first | refine st_index (rowS (partS l i)) lay_ok rfl rfl rfl rfl (by omega) hat ?_ | refine st_pure (how) b17 rfl rfl rfl rfl ?_ | refine st_pure (hrw) b16 rfl rfl rfl rfl ?_ | refine st_strOf lay_ok rfl rfl rfl rfl rfl rfl rfl ?_); exact fin rfl) rfl rfl rfl rfl rfl ?_ | refine dw_dec rfl rfl rfl (fun hg => ?_) (fun hg => ?_) | refine dw_ndec rfl rfl rfl (fun hg => ?_) (fun hg => ?_)
    all_goals first
      | (exfalso; omega)
      | (exfalso; simp_all [partS]; done)
      | skip
    refine n_rr (i + 1) ?_ (.of [] (by (repeat' first | exact trivial | refine And.intro ?_ ?_ | rfl); first | done | fail) (by (repeat' first | exact trivial | refine And.intro ?_ ?_ | rfl); first | done | fail) rfl) ?_
    · omega
    · exact hi8
  · repeat' first | refine wr (by omega) ?_ | refine ln ?_ | refine stp lay_ok rfl ?_ | refine fin ?_ | refine n_thn ?_ | refine n_blk ?_ | refine e_thn ?_ | refine e_hit ?_ | refine e_miss rfl ?_ | refine r_thn ?_ | refine r_blk ?_ | refine e_rr ?_ | refine r_rr ?_ | refine e_cr ?_ | refine r_cr ?_ | refine .seq ?_ | refine reg ?_ | refine .block ?_ | refine .skip ?_ | refine .ret ?_ | refine .exit ?_ | refine cndT rfl ?_ | refine cndF rfl ?_ | refine c_dec rfl (fun hc => ?_) (fun hc => ?_) | refine c_ndec rfl (fun hc => ?_) (fun hc => ?_) | refine cnd rfl (fun hc => ?_) (fun hc => ?_) | refine gd rfl rfl rfl (fun hg => ?_) (fun hg => ?_) | refine gn rfl rfl rfl (fun hg => ?_) (fun hg => ?_) | refine dwr (by omega) ?_ | refine dwl ?_ | refine dws lay_ok rfl rfl rfl rfl rfl rfl rfl ?_ | refine dwu lay_ok rfl rfl rfl rfl rfl rfl rfl rfl rfl ?_ | refine dw_end ?_ | refine dw_skip rfl rfl rfl ?_ | refine dwn lay_ok rfl rfl rfl rfl rfl ?_ | refine dw_dec rfl rfl rfl (fun hg => ?_) (fun hg => ?_) | refine dw_ndec rfl rfl rfl (fun hg => ?_) (fun hg => ?_)
    all_goals first
      | (exfalso; omega)
      | (refine f_r [] rfl trivial rfl ⟨?_, rfl⟩; rfl)
end Go.Proofs.YtgjoloaajocafaaDoorFn
namespace Go.Proofs.YtgjoloaajocafaaDoorFn
open Go.Proofs.YtgjoloaajocafaaDoorAl Go.Proofs.Tryd
attribute [local irreducible] IntKind.wrap CodeOk OpsL OpG ACalls thn inBlk rndR cutR WkR Wk fnR DW ExtOk partsOf
theorem diffL_pre (a b : List ByteArray) (k : Nat) : ∀ j, ∃ t, diffL a b (k + j) = diffL a b k ++ t
  | 0 => ⟨[], by simp⟩
  | j + 1 => by
    obtain ⟨t, h⟩ := diffL_pre a b k j
    exact ⟨t ++ (if a[k + j]? ≠ b[k + j]? then [k + j] else []), by rw [← Nat.add_assoc, diffL_succ, h, List.append_assoc]⟩
theorem diffL_get {a b : List ByteArray} {k n : Nat} (hk : k < n) (h : a[k]? ≠ b[k]?) : (diffL a b n)[(diffL a b k).length]? = some k := by
  obtain ⟨t, ht⟩ := diffL_pre a b (k + 1) (n - (k + 1))
  rw [show k + 1 + (n - (k + 1)) = n by omega, diffL_succ, if_pos h] at ht
  rw [ht, List.append_assoc, List.getElem?_append_right (Nat.le_refl _), Nat.sub_self]; rfl
theorem partS_iff {a b : List NV} (ha : a.length ≤ 100) (hb : b.length ≤ 100) (na : ∀ s ∈ a, s.nice) (nb : ∀ s ∈ b, s.nice) (i : Nat) : partS a i = partS b i ↔ ownL a (i : Int) = ownL b (i : Int) := by
  constructor
  · intro h
    have l1 := ownL_le a (i : Int)
    have l2 := ownL_le b (i : Int)
    exact putL_inj (by omega) (fun s hs => (nice_own na _ s hs).rd) (by omega) (fun s hs => (nice_own nb _ s hs).rd) (strOf_inj h)
  · intro h; rw [partS, partS, h]
set_option maxHeartbeats 8000000 in
theorem lawDiffers_ok (a b : List NV) : ACalls prog 5 0 [.st (.sl 4 (a.map rowN)), .st (.sl 4 (b.map rowN))] [] fun r h => r = B true ∧ h = [] := by
  have hsa := short9_ok a
  have hsb := short9_ok b
  refine fnC lay_ok func5 rfl rfl rfl rfl rfl ?_
  cases hSa : shortN a <;> rw [hSa] at hsa
  · repeat' first | refine wr (by omega) ?_ | refine ln ?_ | refine stp lay_ok rfl ?_ | refine fin ?_ | refine n_thn ?_ | refine n_blk ?_ | refine e_thn ?_ | refine e_hit ?_ | refine e_miss rfl ?_ | refine r_thn ?_ | refine r_blk ?_ | refine e_rr ?_ | refine r_rr ?_ | refine e_cr ?_ | refine r_cr ?_ | refine .seq ?_ | refine reg ?_ | refine .block ?_ | refine .skip ?_ | refine .ret ?_ | refine .exit ?_ | refine cndT rfl ?_ | refine cndF rfl ?_ | refine c_dec rfl (fun hc => ?_) (fun hc => ?_) | refine c_ndec rfl (fun hc => ?_) (fun hc => ?_) | refine cnd rfl (fun hc => ?_) (fun hc => ?_) | ((first | refine o_none rfl ?_ | refine o_none_ ?_ | refine o_yes rfl rfl rfl ?_ | refine o_yes_ rfl rfl ?_); first | refine st_pure (up_ok) b6 rfl rfl rfl rfl ?_ | refine st_pure (hsa) b11 rfl rfl rfl rfl ?_) | refine gd rfl rfl rfl (fun hg => ?_) (fun hg => ?_) | refine gn rfl rfl rfl (fun hg => ?_) (fun hg => ?_)
    refine f_r [] rfl trivial rfl ⟨?_, rfl⟩; rfl
  cases hSb : shortN b <;> rw [hSb] at hsb
  · repeat' first | refine wr (by omega) ?_ | refine ln ?_ | refine stp lay_ok rfl ?_ | refine fin ?_ | refine n_thn ?_ | refine n_blk ?_ | refine e_thn ?_ | refine e_hit ?_ | refine e_miss rfl ?_ | refine r_thn ?_ | refine r_blk ?_ | refine e_rr ?_ | refine r_rr ?_ | refine e_cr ?_ | refine r_cr ?_ | refine .seq ?_ | refine reg ?_ | refine .block ?_ | refine .skip ?_ | refine .ret ?_ | refine .exit ?_ | refine cndT rfl ?_ | refine cndF rfl ?_ | refine c_dec rfl (fun hc => ?_) (fun hc => ?_) | refine c_ndec rfl (fun hc => ?_) (fun hc => ?_) | refine cnd rfl (fun hc => ?_) (fun hc => ?_) | ((first | refine o_none rfl ?_ | refine o_none_ ?_ | refine o_yes rfl rfl rfl ?_ | refine o_yes_ rfl rfl ?_); first | refine st_pure (up_ok) b6 rfl rfl rfl rfl ?_ | refine st_pure (hsa) b11 rfl rfl rfl rfl ?_ | refine st_pure (hsb) b11 rfl rfl rfl rfl ?_) | refine gd rfl rfl rfl (fun hg => ?_) (fun hg => ?_) | refine gn rfl rfl rfl (fun hg => ?_) (fun hg => ?_)
    refine f_r [] rfl trivial rfl ⟨?_, rfl⟩; rfl
  have hfa := short_fit hSa
  have hfb := short_fit hSb
  have hma := refMay_ok a (by omega) hfa.2
  have hmb := refMay_ok b (by omega) hfb.2
  cases hFa : fromB a <;> rw [hFa] at hma
  · repeat' first | refine wr (by omega) ?_ | refine ln ?_ | refine stp lay_ok rfl ?_ | refine fin ?_ | refine n_thn ?_ | refine n_blk ?_ | refine e_thn ?_ | refine e_hit ?_ | refine e_miss rfl ?_ | refine r_thn ?_ | refine r_blk ?_ | refine e_rr ?_ | refine r_rr ?_ | refine e_cr ?_ | refine r_cr ?_ | refine .seq ?_ | refine reg ?_ | refine .block ?_ | refine .skip ?_ | refine .ret ?_ | refine .exit ?_ | refine cndT rfl ?_ | refine cndF rfl ?_ | refine c_dec rfl (fun hc => ?_) (fun hc => ?_) | refine c_ndec rfl (fun hc => ?_) (fun hc => ?_) | refine cnd rfl (fun hc => ?_) (fun hc => ?_) | ((first | refine o_none rfl ?_ | refine o_none_ ?_ | refine o_yes rfl rfl rfl ?_ | refine o_yes_ rfl rfl ?_); first | refine st_pure (up_ok) b6 rfl rfl rfl rfl ?_ | refine st_pure (hsa) b11 rfl rfl rfl rfl ?_ | refine st_pure (hsb) b11 rfl rfl rfl rfl ?_ | refine st_pure (hma) b12 rfl rfl rfl rfl ?_) | refine gd rfl rfl rfl (fun hg => ?_) (fun hg => ?_) | refine gn rfl rfl rfl (fun hg => ?_) (fun hg => ?_)
    refine f_r [] rfl trivial rfl ⟨?_, rfl⟩; rfl
  cases hFb : fromB b <;> rw [hFb] at hmb
  · repeat' first | refine wr (by omega) ?_ | refine ln ?_ | refine stp lay_ok rfl ?_ | refine fin ?_ | refine n_thn ?_ | refine n_blk ?_ | refine e_thn ?_ | refine e_hit ?_ | refine e_miss rfl ?_ | refine r_thn ?_ | refine r_blk ?_ | refine e_rr ?_ | refine r_rr ?_ | refine e_cr ?_ | refine r_cr ?_ | refine .seq ?_ | refine reg ?_ | refine .block ?_ | refine .skip ?_ | refine .ret ?_ | refine .exit ?_ | refine cndT rfl ?_ | refine cndF rfl ?_ | refine c_dec rfl (fun hc => ?_) (fun hc => ?_) | refine c_ndec rfl (fun hc => ?_) (fun hc => ?_) | refine cnd rfl (fun hc => ?_) (fun hc => ?_) | ((first | refine o_none rfl ?_ | refine o_none_ ?_ | refine o_yes rfl rfl rfl ?_ | refine o_yes_ rfl rfl ?_); first | refine st_pure (up_ok) b6 rfl rfl rfl rfl ?_ | refine st_pure (hsa) b11 rfl rfl rfl rfl ?_ | refine st_pure (hsb) b11 rfl rfl rfl rfl ?_ | refine st_pure (hma) b12 rfl rfl rfl rfl ?_ | refine st_pure (hmb) b12 rfl rfl rfl rfl ?_) | refine gd rfl rfl rfl (fun hg => ?_) (fun hg => ?_) | refine gn rfl rfl rfl (fun hg => ?_) (fun hg => ?_)
    refine f_r [] rfl trivial rfl ⟨?_, rfl⟩; rfl
  obtain ⟨la, na⟩ := nice_of hSa hFa
  obtain ⟨lb, nb⟩ := nice_of hSb hFb
  have pa := putL_len la na
  have pb := putL_len lb nb
  have ga := from_ok a (by omega) hfa.2 hFa
  have gb := from_ok b (by omega) hfb.2 hFb
  have hdf := differ_ok a b (by omega) (by omega) (fun s hs => (na s hs).put) hfa.2 (by omega) (by omega) (fun s hs => (nb s hs).put) hfb.2
  have hd2 := differ_nil2 a (by omega) (by omega) (fun s hs => (na s hs).put) hfa.2
  repeat' first | refine o_frb 0 [.sl 4 (a.map rowN)] rfl rfl rfl (by (repeat' first | exact trivial | refine And.intro ?_ ?_ | rfl); first | done | fail) (by (repeat' first | exact trivial | refine And.intro ?_ ?_ | rfl); first | done | fail) rfl rfl ?_ | refine o_frb 1 [.sl 4 (b.map rowN)] rfl rfl rfl (by (repeat' first | exact trivial | refine And.intro ?_ ?_ | rfl); first | done | fail) (by (repeat' first | exact trivial | refine And.intro ?_ ?_ | rfl); first | done | fail) rfl rfl ?_ | refine wr (by omega) ?_ | refine ln ?_ | refine stp lay_ok rfl ?_ | refine fin ?_ | refine n_thn ?_ | refine n_blk ?_ | refine e_thn ?_ | refine e_hit ?_ | refine e_miss rfl ?_ | refine r_thn ?_ | refine r_blk ?_ | refine e_rr ?_ | refine r_rr ?_ | refine e_cr ?_ | refine r_cr ?_ | refine .seq ?_ | refine reg ?_ | refine .block ?_ | refine .skip ?_ | refine .ret ?_ | refine .exit ?_ | refine cndT rfl ?_ | refine cndF rfl ?_ | refine c_dec rfl (fun hc => ?_) (fun hc => ?_) | refine c_ndec rfl (fun hc => ?_) (fun hc => ?_) | refine cnd rfl (fun hc => ?_) (fun hc => ?_) | ((first | refine o_none rfl ?_ | refine o_none_ ?_ | refine o_yes rfl rfl rfl ?_ | refine o_yes_ rfl rfl ?_); first | refine st_pure (up_ok) b6 rfl rfl rfl rfl ?_ | refine st_pure (hsa) b11 rfl rfl rfl rfl ?_ | refine st_pure (hsb) b11 rfl rfl rfl rfl ?_ | refine st_pure (hma) b12 rfl rfl rfl rfl ?_ | refine st_pure (hmb) b12 rfl rfl rfl rfl ?_ | refine st_callF 1 (ga) b13 rfl rfl rfl rfl rfl rfl (by (repeat' first | exact trivial | refine And.intro ?_ ?_ | rfl); first | done | fail) rfl ?_ | refine st_callF 1 (gb) b13 rfl rfl rfl rfl rfl rfl (by (repeat' first | exact trivial | refine And.intro ?_ ?_ | rfl); first | done | fail) rfl ?_ | refine st_pure (hdf) b18 rfl rfl rfl rfl ?_ | refine st_pure (hd2) b18 rfl rfl rfl rfl ?_) | refine gd rfl rfl rfl (fun hg => ?_) (fun hg => ?_) | refine gn rfl rfl rfl (fun hg => ?_) (fun hg => ?_)
  all_goals first
    | (exfalso; omega)
    | (exfalso; simp_all; done)
    | skip
  generalize hpA : partL a 8 = A at *
  generalize hpB : partL b 8 = Bq at *
  have hge : ∀ i, i < 8 → A[i]? = some (partS a i) ∧ Bq[i]? = some (partS b i) := fun i hi => by
    rw [← hpA, ← hpB]; simp [partL, List.getElem?_range hi]
  have hml : ((diffL A Bq 8).map row1N).length = (diffL A Bq 8).length := List.length_map _
  refine lpR (fun (i, n) => i ≤ 8 ∧ n = (diffL A Bq i).length) (fun (i, n) => 8 - i) (fun (i, n) => [(15, I n), (16, I i)]) (fun (i, n) => []) ((0, 0)) [0, 1, 5, 11] [] [] rfl rfl rfl (.of [] (by (repeat' first | exact trivial | refine And.intro ?_ ?_ | rfl); first | done | fail) (by (repeat' first | exact trivial | refine And.intro ?_ ?_ | rfl); first | done | fail) rfl) ?_ ?_
  · exact ⟨Nat.zero_le _, rfl⟩
  rintro ⟨i, n⟩ ⟨hi, hn⟩
  refine nrm rfl rfl ?_
  have hnl := diffL_le A Bq i
  rw [← hn] at hnl
  by_cases hi8 : i < 8
  · have oa := refOwn_ok a (i : Int) (by omega)
    have ob := refOwn_ok b (i : Int) (by omega)
    have l1 := ownL_le a (i : Int)
    have l2 := ownL_le b (i : Int)
    have hsm := same9_ok (ownL a (i : Int)) (ownL b (i : Int)) (by omega) (by omega) (fun s hs => (nice_own na _ s hs).fit) (fun s hs => (nice_own nb _ s hs).fit)
    have hge := hge i hi8
    have hiff := partS_iff la lb na nb i
    have hds := diffL_succ A Bq i
    rw [hge.1, hge.2] at hds
    by_cases he : ownL a (i : Int) = ownL b (i : Int)
    · rw [decide_eq_true he] at hsm
      rw [if_neg (fun h => h (by rw [hiff.2 he])), List.append_nil] at hds
      repeat' first | refine wr (by omega) ?_ | refine ln ?_ | refine stp lay_ok rfl ?_ | refine fin ?_ | refine n_thn ?_ | refine n_blk ?_ | refine e_thn ?_ | refine e_hit ?_ | refine e_miss rfl ?_ | refine r_thn ?_ | refine r_blk ?_ | refine e_rr ?_ | refine r_rr ?_ | refine e_cr ?_ | refine r_cr ?_ | refine .seq ?_ | refine reg ?_ | refine .block ?_ | refine .skip ?_ | refine .ret ?_ | refine .exit ?_ | refine cndT rfl ?_ | refine cndF rfl ?_ | refine c_dec rfl (fun hc => ?_) (fun hc => ?_) | refine c_ndec rfl (fun hc => ?_) (fun hc => ?_) | refine cnd rfl (fun hc => ?_) (fun hc => ?_) | ((first | refine o_none rfl ?_ | refine o_none_ ?_ | refine o_yes rfl rfl rfl ?_ | refine o_yes_ rfl rfl ?_); first | refine st_pure (oa) b17 rfl rfl rfl rfl ?_ | refine st_pure (ob) b17 rfl rfl rfl rfl ?_ | refine st_pure (hsm) b9 rfl rfl rfl rfl ?_) | refine gd rfl rfl rfl (fun hg => ?_) (fun hg => ?_) | refine gn rfl rfl rfl (fun hg => ?_) (fun hg => ?_)
      all_goals first
        | (exfalso; omega)
        | skip
      refine n_rr ((i + 1, n)) ?_ (.of [] (by (repeat' first | exact trivial | refine And.intro ?_ ?_ | rfl); first | done | fail) (by (repeat' first | exact trivial | refine And.intro ?_ ?_ | rfl); first | done | fail) rfl) ?_
      · show 8 - (i + 1) < 8 - i; omega
      · exact ⟨hi8, by rw [hds]; exact hn⟩
    · rw [decide_eq_false he] at hsm
      have hne : A[i]? ≠ Bq[i]? := by
        rw [hge.1, hge.2]; exact fun h => he (hiff.1 (Option.some.inj h))
      rw [if_pos (by rw [← hge.1, ← hge.2]; exact hne)] at hds
      have hget := diffL_get hi8 hne
      rw [← hn] at hget
      have hnlt : n < (diffL A Bq 8).length := by
        rcases Nat.lt_or_ge n (diffL A Bq 8).length with h | h
        · exact h
        · rw [List.getElem?_eq_none h] at hget; cases hget
      have hat : ((diffL A Bq 8).map row1N)[((n : Nat) : Int).toNat]? = some (row1N i) := by
        rw [List.getElem?_map, Int.toNat_natCast, hget]; rfl
      repeat' first | refine wr (by omega) ?_ | refine ln ?_ | refine stp lay_ok rfl ?_ | refine fin ?_ | refine n_thn ?_ | refine n_blk ?_ | refine e_thn ?_ | refine e_hit ?_ | refine e_miss rfl ?_ | refine r_thn ?_ | refine r_blk ?_ | refine e_rr ?_ | refine r_rr ?_ | refine e_cr ?_ | refine r_cr ?_ | refine .seq ?_ | refine reg ?_ | refine .block ?_ | refine .skip ?_ | refine .ret ?_ | refine .exit ?_ | refine cndT rfl ?_ | refine cndF rfl ?_ | refine c_dec rfl (fun hc => ?_) (fun hc => ?_) | refine c_ndec rfl (fun hc => ?_) (fun hc => ?_) | refine cnd rfl (fun hc => ?_) (fun hc => ?_) | ((first | refine o_none rfl ?_ | refine o_none_ ?_ | refine o_yes rfl rfl rfl ?_ | refine o_yes_ rfl rfl ?_); first | refine st_pure (oa) b17 rfl rfl rfl rfl ?_ | refine st_pure (ob) b17 rfl rfl rfl rfl ?_ | refine st_pure (hsm) b9 rfl rfl rfl rfl ?_ | refine st_index (row1N i) lay_ok rfl rfl rfl rfl (by omega) hat ?_) | refine gd rfl rfl rfl (fun hg => ?_) (fun hg => ?_) | refine gn rfl rfl rfl (fun hg => ?_) (fun hg => ?_)
      all_goals first
        | (exfalso; omega)
        | (exfalso; simp_all; done)
        | skip
      refine n_rr ((i + 1, n + 1)) ?_ (.of [] (by (repeat' first | exact trivial | refine And.intro ?_ ?_ | rfl); first | done | fail) (by (repeat' first | exact trivial | refine And.intro ?_ ?_ | rfl); first | done | fail) rfl) ?_
      · show 8 - (i + 1) < 8 - i; omega
      · exact ⟨hi8, by rw [hds, List.length_append, ← hn]; rfl⟩
  · have hie : i = 8 := by omega
    subst hie
    repeat' first | refine wr (by omega) ?_ | refine ln ?_ | refine stp lay_ok rfl ?_ | refine fin ?_ | refine n_thn ?_ | refine n_blk ?_ | refine e_thn ?_ | refine e_hit ?_ | refine e_miss rfl ?_ | refine r_thn ?_ | refine r_blk ?_ | refine e_rr ?_ | refine r_rr ?_ | refine e_cr ?_ | refine r_cr ?_ | refine .seq ?_ | refine reg ?_ | refine .block ?_ | refine .skip ?_ | refine .ret ?_ | refine .exit ?_ | refine cndT rfl ?_ | refine cndF rfl ?_ | refine c_dec rfl (fun hc => ?_) (fun hc => ?_) | refine c_ndec rfl (fun hc => ?_) (fun hc => ?_) | refine cnd rfl (fun hc => ?_) (fun hc => ?_) | refine gd rfl rfl rfl (fun hg => ?_) (fun hg => ?_) | refine gn rfl rfl rfl (fun hg => ?_) (fun hg => ?_)
    all_goals first
      | (exfalso; omega)
      | (refine f_r [] rfl trivial rfl ⟨?_, rfl⟩; simp only [retOf, B, AV.st.injEq, SV.bool.injEq, decide_eq_true_eq]; omega)
      | (refine f_r [] rfl trivial rfl ⟨?_, rfl⟩; rfl)
end Go.Proofs.YtgjoloaajocafaaDoorFn
namespace Go.Proofs.YtgjoloaajocafaaDoorFn
open Go.Proofs.YtgjoloaajocafaaDoorAl Go.Proofs.Tryd Go.ChangeAt Go.RowKit
/-! ### what arguments of the laws' types read as -/
abbrev ΦI (xs : List SV) : Prop := ∃ n, xs = [.int .i64 n] ∧ (Lit.int .i64 n).wf = true
theorem rdI : Rd prog 3 ΦI := rd_int underlying3
abbrev ΦU8 (xs : List SV) : Prop := ∃ n, xs = [.int .u8 n] ∧ (Lit.int .u8 n).wf = true
theorem rdU8 : Rd prog 5 ΦU8 := rd_int underlying5
abbrev ΦB (xs : List SV) : Prop := ∃ b, xs = [.bool b]
theorem rdB : Rd prog 4 ΦB := rd_bool underlying4
abbrev ΦS (xs : List SV) : Prop := ∃ s : ByteArray, xs = [.str s] ∧ s.size ≤ reachBytes
theorem rdS : Rd prog 9 ΦS := rd_str underlying9
abbrev ΦL (sz bytes : Nat) (Φ : List SV → Prop) (xs : List SV) : Prop := ∃ rows, xs = [.sl sz rows] ∧ (∀ row ∈ rows, Φ row) ∧ rows.length * bytes ≤ reachBytes
theorem rdLB : Rd prog 22 (ΦL 1 1 ΦU8) := rd_slice underlying22 (by kernel_rfl) (by kernel_rfl) rfl rdU8
theorem rdLS : Rd prog 40 (ΦL 1 16 ΦS) := rd_slice underlying40 (by kernel_rfl) (by kernel_rfl) rfl rdS
theorem cI : prog.cellsOf 3 = 1 := by kernel_rfl
theorem cB : prog.cellsOf 4 = 1 := by kernel_rfl
theorem cS : prog.cellsOf 9 = 1 := by kernel_rfl
theorem cLS : prog.cellsOf 40 = 1 := by kernel_rfl
theorem cE : prog.cellsOf 64 = 3 := by kernel_rfl
theorem cLE : prog.cellsOf 53 = 1 := by kernel_rfl
theorem cN : prog.cellsOf 55 = 4 := by kernel_rfl
abbrev ΦE : List SV → Prop := Pieces [ΦS, ΦI, ΦL 1 16 ΦS]
theorem rdE : Rd prog 64 ΦE := rd_struct underlying64 ⟨rfl, rdS, by rw [cS], rdI, by rw [cI, cS], rdLS, by rw [cE, cI, cS, cLS]; rfl⟩
theorem rdLE : Rd prog 53 (ΦL 3 48 ΦE) := rd_slice underlying53 (by kernel_rfl) (by kernel_rfl) rfl rdE
abbrev ΦN : List SV → Prop := Pieces [ΦI, ΦS, ΦB, ΦL 3 48 ΦE]
theorem rdN : Rd prog 55 ΦN := rd_struct underlying55 ⟨rfl, rdI, by rw [cI], rdS, by rw [cI, cS], rdB, by rw [cI, cS, cB], rdLE, by rw [cN, cI, cS, cB, cLE]; rfl⟩
theorem rdLN : Rd prog 29 (ΦL 4 56 ΦN) := rd_slice underlying29 (by kernel_rfl) (by kernel_rfl) rfl rdN
/-- What is true of whatever a reader of memory brings: sizes that memory has room for. -/
def EV.inMem (e : EV) : Prop := e.path.size ≤ reachBytes ∧ e.keys.length * 16 ≤ reachBytes ∧ ∀ k ∈ e.keys, k.size ≤ reachBytes
def NV.inMem (s : NV) : Prop := s.name.size ≤ reachBytes ∧ s.entries.length * 48 ≤ reachBytes ∧ ∀ e ∈ s.entries, e.inMem
theorem ofB {rows : List (List SV)} (h : ∀ row ∈ rows, ΦU8 row) : ∃ l : List UInt8, rows = l.map rowB := by
  obtain ⟨l, e, _⟩ := rows_map (f := rowB) (Ok := fun _ => True) (rows := rows) (fun row hm => by
    obtain ⟨n, rfl, hw⟩ := h row hm
    refine ⟨UInt8.ofNat n.toNat, ?_, trivial⟩
    have : 0 ≤ n ∧ n ≤ 255 := by simpa [Lit.wf, IntKind.min, IntKind.max, IntKind.signed, IntKind.bits] using hw
    simp only [rowB, UInt8.toNat_ofNat']
    congr 2; omega)
  exact ⟨l, e⟩
theorem ofSs {rows : List (List SV)} (h : ∀ row ∈ rows, ΦS row) : ∃ l : List ByteArray, rows = l.map rowS ∧ ∀ s ∈ l, s.size ≤ reachBytes :=
  rows_map (f := rowS) (Ok := fun s => s.size ≤ reachBytes) h
theorem ofE {xs : List SV} (h : ΦE xs) : ∃ e : EV, xs = rowE e ∧ e.inMem := by
  obtain ⟨_, _, rfl, ⟨p, rfl, hp⟩, _, _, rfl, ⟨z, rfl, _⟩, _, _, rfl, ⟨rows, rfl, hr, hl⟩, rfl⟩ := h
  obtain ⟨l, rfl, hs⟩ := ofSs hr
  exact ⟨⟨p, z, l⟩, rfl, hp, by simpa using hl, hs⟩
theorem ofN {xs : List SV} (h : ΦN xs) : ∃ s : NV, xs = rowN s ∧ s.inMem := by
  obtain ⟨_, _, rfl, ⟨c, rfl, _⟩, _, _, rfl, ⟨n, rfl, hn⟩, _, _, rfl, ⟨b, rfl⟩, _, _, rfl, ⟨rows, rfl, hr, hl⟩, rfl⟩ := h
  obtain ⟨l, rfl, hs⟩ := rows_map (f := rowE) (Ok := EV.inMem) (fun row hm => ofE (hr row hm))
  exact ⟨⟨c, n, b, l⟩, rfl, hn, by simpa using hl, hs⟩
end Go.Proofs.YtgjoloaajocafaaDoorFn
namespace Go.Proofs.YtgjoloaajocafaaDoor
open Go.Proofs.YtgjoloaajocafaaDoorAl Go.ChangeAt Go.RowKit
open Go.Proofs.YtgjoloaajocafaaDoorFn
theorem own : ownKnob Tryd.prog.godebug = none := by kernel_rfl
theorem laidOut : laidOutB Tryd.prog = true := by kernel_rfl
def pars : List Par := [⟨29, false, ΦL 4 56 ΦN⟩, ⟨29, false, ΦL 4 56 ΦN⟩]
theorem pars_ok : ParsOk Tryd.prog pars :=
  ⟨rdLN, ⟨_, Tryd.underlying29, rfl⟩, by kernel_rfl, of_decide_eq_true (by kernel_rfl),
   rdLN, ⟨_, Tryd.underlying29, rfl⟩, by kernel_rfl, of_decide_eq_true (by kernel_rfl), trivial⟩
theorem law_ok : LawOk Tryd.prog 5 pars := by
  rintro svs ⟨_, _, rfl, ⟨r0, h0, hr0, hl0⟩, _, _, rfl, ⟨r1, h1, hr1, hl1⟩, rfl⟩
  cases h0
  obtain ⟨x0, rfl, hm0⟩ := rows_map (f := rowN) (Ok := NV.inMem) (fun row hm => ofN (hr0 row hm))
  simp only [List.length_map] at hl0
  cases h1
  obtain ⟨x1, rfl, hm1⟩ := rows_map (f := rowN) (Ok := NV.inMem) (fun row hm => ofN (hr1 row hm))
  simp only [List.length_map] at hl1
  have hreach : reachBytes ≤ 140737488351232 := by decide
  exact lawDiffers_ok x0 x1
set_option maxRecDepth 100000 in
theorem law_lift (os : Os) (started : os.Started) (H : Type) (enc : TypeId × Value → H) :
    ReturnsInHanded {} Tryd.checked os 5 .any (fun w args => (Rows.imageDiffersSpec.pre enc Tryd.prog Tryd.f5 [] false w args ∧ laidMetH Tryd.prog Rows.imageDiffersRow.laid w) ∧ sizedMet enc Tryd.prog Tryd.f5 (OpenSpec.ofChange Rows.imageDiffersSpec) false w args) (Rows.imageDiffersSpec.post enc Tryd.prog Tryd.f5 false true false false) :=
  law_liftedL (C := Tryd.checked) (ps := pars) own started (by kernel_rfl) Tryd.func5
    (ChangeSpec.witness_shaped (enc := enc) (C := Tryd.checked) (os := os) (X := fun w _ => laidMetH Tryd.prog Rows.imageDiffersRow.laid w) false (World.laidAll Tryd.prog os Rows.imageDiffersRow.laid) #[.slice none 0 0, .slice none 0 0] 8 (World.laidAll_os _ _ _)
      (World.shaped_of_ZipB (by kernel_rfl) (by kernel_rfl)) (by kernel_rfl) (by kernel_rfl) (by kernel_rfl)
      (by rw [MakeChecks.laidMetH_plain _ _ _ (by kernel_rfl)]; exact laidMet_laidAll _ (by kernel_rfl) (by kernel_rfl)))
    laidOut rfl rfl Tryd.underlying4 rfl
    (fun ds hds => by
      match ds, hds with
      | [_, _], _ => rfl) pars_ok law_ok
theorem law_over : Rows.imageDiffersRow.holds Tryd.pinned (OpenSpec.ofChange Rows.imageDiffersSpec) :=
  OpenClaim.holds_of_wide 5 Tryd.f5 rfl rfl rfl rfl rfl rfl rfl ⟨rfl, rfl, rfl, rfl, rfl⟩ rfl rfl rfl rfl rfl (by kernel_rfl) Tryd.func5 (by kernel_rfl)
    (of_decide_eq_true (by kernel_rfl)) (by unfold Func.isWrapper; first | (rw [if_pos (by decide +kernel)]; kernel_rfl) | (rw [if_neg (by decide +kernel)]; exact ⟨rfl, rfl⟩))
    (fun os started H enc _ => law_lift os started H enc)
theorem ImageDiffers_holds : Rows.ImageDiffersCardSaid :=
  Claim7.holds_tied_plain_at .later [] [.data, .pinned] true Rows.imageDiffersCard.stood.harness Rows.imageDiffersCard.stood.looks law_over (fun _ h => by cases h) (by kernel_rfl) (fun _ h => by cases h) imageDiffers_row_tie rfl ⟨rfl, rfl⟩ (by kernel_rfl) rfl
    (fun f fn hf hfn => by
      obtain rfl : f = 5 := Option.some.inj ((show Tryd.prog.funcNamed "becket/becketlaw10.ImageDiffers" = some 5 by kernel_rfl).symm.trans hf) |>.symm
      obtain rfl : fn = Tryd.f5 := (Option.some.inj (Tryd.func5.symm.trans hfn)).symm
      exact ⟨by kernel_rfl, fun j t ht => by
        have hm : t ∈ ([29, 29] : List Nat) := by
          have e := Array.mem_of_getElem? ht
          rw [Tryd.params5] at e
          simpa using e
        have hall : (([29, 29] : List Nat).all fun u => !Tryd.prog.wantsStandIn u) = true := by kernel_rfl
        exact (show Tryd.prog.wantsStandIn t = false by simpa using List.all_eq_true.1 hall t hm)⟩)
    (by kernel_rfl)
#print axioms ImageDiffers_holds
end Go.Proofs.YtgjoloaajocafaaDoor
