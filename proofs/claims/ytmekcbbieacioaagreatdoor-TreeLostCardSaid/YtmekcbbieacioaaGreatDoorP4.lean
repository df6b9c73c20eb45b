/- Texts that the law's proof uses: part 4. -/
import Derived.Test.YtmekcbbieacioaaGreatDoorP3
import Derived.Test.YtmekcbbieacioaaGreatDoorAlZo
import Derived.Test.YtmekcbbieacioaaGreatDoorChecked
import Derived.Shelf.Strings.OnBuilder
import Derived.Test.YtmekcbbieacioaaGreatDoorAlZt
import Derived.Test.YtmekcbbieacioaaGreatDoorAlZp
import Derived.Test.YtmekcbbieacioaaGreatDoorAlZu
set_option linter.all false
namespace Go.Proofs.YtmekcbbieacioaaGreatDoorFn
open Go.Proofs.YtmekcbbieacioaaGreatDoorAl Go.Proofs.Tryz
attribute [local irreducible] IntKind.wrap CodeOk OpsL OpG ACalls thn inBlk rndR cutR WkR Wk fnR DW ExtOk partsOf
theorem b43 : HasBody prog 43 := ⟨f43, func43, Option.some_ne_none _, by decide⟩
theorem rowS_one {b : List ByteArray} : ∀ row ∈ b.map rowS, ∀ y ∈ row, SV.one y = true := by
  intro row hr y hy
  obtain ⟨_, _, rfl⟩ := List.mem_map.1 hr
  simp only [rowS, List.mem_singleton] at hy; subst hy; rfl
theorem rowE_one {b : List EV} : ∀ row ∈ b.map rowE, ∀ y ∈ row, SV.one y = true := by
  intro row hr y hy
  obtain ⟨_, _, rfl⟩ := List.mem_map.1 hr
  simp only [rowE, List.mem_cons, List.not_mem_nil, or_false] at hy
  rcases hy with rfl | rfl | rfl <;> rfl
theorem cloneS_ok (b : List ByteArray) (hb : b.length ≤ 4000000000) : ACalls prog 43 0 [.st (.sl 1 (b.map rowS))] [] fun r h => r = .st (.sl 1 (b.map rowS)) ∧ h = [] := by
  refine fnC lay_ok func43 rfl rfl rfl rfl rfl ?_
  have hm : (List.map rowS b).length = b.length := List.length_map _
  repeat' first | refine wr (by omega) ?_ | refine ln ?_ | refine stp lay_ok rfl ?_ | refine fin ?_ | refine n_thn ?_ | refine n_blk ?_ | refine e_thn ?_ | refine e_hit ?_ | refine e_miss rfl ?_ | refine r_thn ?_ | refine r_blk ?_ | refine e_rr ?_ | refine r_rr ?_ | refine e_cr ?_ | refine r_cr ?_ | refine .seq ?_ | refine reg ?_ | refine .block ?_ | refine .skip ?_ | refine .ret ?_ | refine .exit ?_ | refine cndT rfl ?_ | refine cndF rfl ?_ | refine c_dec rfl (fun hc => ?_) (fun hc => ?_) | refine c_ndec rfl (fun hc => ?_) (fun hc => ?_) | refine cnd rfl (fun hc => ?_) (fun hc => ?_) | ((first | refine o_none rfl ?_ | refine o_none_ ?_ | refine o_yes rfl rfl rfl ?_ | refine o_yes_ rfl rfl ?_); first | refine st_nilSl lay_ok rfl rfl rfl rfl (fun z hz => ?_) | refine st_append lay_ok rfl rfl rfl rfl rfl rfl rfl rfl .sl0 .sl rfl rowS_one (by simp only [List.length_nil]; omega) (by simp only [List.length_nil]; omega) ?_) | refine gd rfl rfl rfl (fun hg => ?_) (fun hg => ?_) | refine gn rfl rfl rfl (fun hg => ?_) (fun hg => ?_)
  · cases z with
    | false => cases hc
    | true =>
      rw [hz rfl]
      refine f_end (n0 := 0) (t'' := [(2, .st (.sl 1 []))]) (h'' := []) (Wk.then (Wk.trans (Wk.nilT 1 2 rfl rfl) (Wk.frz 0 [2] rfl rfl rfl (by (repeat' first | exact trivial | refine And.intro ?_ ?_ | rfl); first | done | fail) (by (repeat' first | exact trivial | refine And.intro ?_ ?_ | rfl); first | done | fail) rfl rfl)) (WkR.of [] (by (repeat' first | exact trivial | refine And.intro ?_ ?_ | rfl); first | done | fail) (by (repeat' first | exact trivial | refine And.intro ?_ ?_ | rfl); first | done | fail) rfl)) rfl rfl ⟨?_, rfl⟩
      rfl
  · refine f_end (n0 := 0) (t'' := [(2, .st (.sl 1 (b.map rowS)))]) (h'' := []) (Wk.then (Wk.frz 0 [2] rfl rfl rfl (by (repeat' first | exact trivial | refine And.intro ?_ ?_ | rfl); first | done | fail) (by (repeat' first | exact trivial | refine And.intro ?_ ?_ | rfl); first | done | fail) rfl rfl) (WkR.of [] (by (repeat' first | exact trivial | refine And.intro ?_ ?_ | rfl); first | done | fail) (by (repeat' first | exact trivial | refine And.intro ?_ ?_ | rfl); first | done | fail) rfl)) rfl rfl ⟨?_, rfl⟩
    rfl
theorem set_same {α : Type} {l : List α} {i : Nat} {x : α} (h : l[i]? = some x) : l.set i x = l := by
  apply List.ext_getElem?
  intro j
  rw [List.getElem?_set]
  split
  · rename_i e; subst e; rw [h]; split
    · rfl
    · rename_i h2; rw [List.getElem?_eq_none (by omega)] at h; cases h
  · rfl
end Go.Proofs.YtmekcbbieacioaaGreatDoorFn
namespace Go.Proofs.YtmekcbbieacioaaGreatDoorFn
open Go.Proofs.YtmekcbbieacioaaGreatDoorAl Go.Proofs.Tryz
/-! ### sorted while built -/
def insE (d : Array EV) (e : EV) : Array EV := Sort.insInner (ltC cmE) 0 d.size (d.push e)
theorem ins_facts (d : Array EV) (e : EV) (hs : Sort.SortedIn (ltC cmE) 0 d.size d) : (insE d e).size = d.size + 1 ∧ (insE d e).toList.Perm (d.toList ++ [e]) ∧ Sort.SortedIn (ltC cmE) 0 (d.size + 1) (insE d e) := by
  have hg : ∀ q, q < d.size → (d.push e)[q]! = d[q]! := fun q hq => by
    rw [getElem!_pos (d.push e) q (by simp; omega), getElem!_pos d q hq, Array.getElem_push_lt]
  have h := Sort.insInner_spec cmE_swo Sort.swp_permIn Sort.permIn_refl Sort.permIn_trans 0 (d.size + 1) d.size (by omega) d.size (d.push e) (Nat.zero_le _) (Nat.le_refl _) (by simp)
    ⟨fun p q _ hpq hq hp hq2 => by rw [hg p (by omega), hg q (by omega)]; exact hs p q (Nat.zero_le _) hpq (by omega), fun q h1 h2 => by omega⟩
  obtain ⟨⟨h1, _, h2⟩, h3⟩ := h
  have hz : (insE d e).size = d.size + 1 := by unfold insE; rw [h1]; simp
  refine ⟨hz, ?_, h3⟩
  have ht : (insE d e).toList.take (d.size + 1) = (insE d e).toList := List.take_of_length_le (by simp [hz])
  have ht2 : (d.toList ++ [e]).take (d.size + 1) = d.toList ++ [e] := List.take_of_length_le (by simp)
  have h2' : ((insE d e).extract 0 (d.size + 1)).toList.Perm ((d.push e).extract 0 (d.size + 1)).toList := h2
  simpa [ht, ht2] using h2'
theorem path_eq {x y : EV} (h1 : ltC cmE x y = false) (h2 : ltC cmE y x = false) : x.path = y.path := by
  rw [cmE_lt] at h1 h2
  simp only [Sort.ltStr, decide_eq_false_iff_not, List.not_lt] at h1 h2
  exact WideShapes.bytes_inj (List.le_antisymm h2 h1)
theorem sorted_eq : ∀ (a b : List EV), a.Perm b → (a.Pairwise fun x y => ltC cmE y x = false) → (b.Pairwise fun x y => ltC cmE y x = false) → (∀ x ∈ a, ∀ y ∈ a, x.path = y.path → x = y) → a = b
  | [], b, hp, _, _, _ => (List.Perm.nil_eq hp)
  | x :: t, [], hp, _, _, _ => by have := hp.length_eq; simp at this
  | x :: t, y :: u, hp, ha, hb, hd => by
    have hxy : x = y := by
      have hx : x ∈ y :: u := hp.mem_iff.1 List.mem_cons_self
      have hy : y ∈ x :: t := hp.mem_iff.2 List.mem_cons_self
      rcases List.mem_cons.1 hx with h | h
      · exact h
      rcases List.mem_cons.1 hy with h' | h'
      · exact h'.symm
      exact hd x List.mem_cons_self y hy (path_eq ((List.pairwise_cons.1 hb).1 x h) ((List.pairwise_cons.1 ha).1 y h'))
    subst hxy
    rw [sorted_eq t u hp.cons_inv (List.pairwise_cons.1 ha).2 (List.pairwise_cons.1 hb).2 fun p hp' q hq => hd p (List.mem_cons_of_mem _ hp') q (List.mem_cons_of_mem _ hq)]
end Go.Proofs.YtmekcbbieacioaaGreatDoorFn
namespace Go.Proofs.YtmekcbbieacioaaGreatDoorFn
open Go.Proofs.YtmekcbbieacioaaGreatDoorAl Go.Proofs.Tryz
/-! ### both ways of building make the same tree -/
def IsErr (E : AV) : Prop := (∃ n, E = errE n) ∨ ∃ i n, E = spotE i n
theorem clashB_self (a : ByteArray) : clashB a a = true := by simp [clashB]
theorem badFile_none (l : List FV) : ∀ f i, badFile l f i = none → ∀ j, i ≤ j → j < i + f → ∀ h : j < l.length, fileC l j l[j] = none
  | 0, i, _, j, h1, h2, _ => by omega
  | f + 1, i, hb, j, h1, h2, h => by
    have hi : i < l.length := by omega
    simp only [badFile, List.getElem?_eq_getElem hi] at hb
    cases hx : fileC l i l[i] with
    | some n => rw [hx] at hb; cases hb
    | none =>
      rw [hx] at hb
      by_cases hij : i = j
      · subst hij; exact hx
      · exact badFile_none l f (i + 1) hb j (by omega) (by omega) h
theorem apart_paths {l : List FV} (hb : badFile l l.length 0 = none) {i j : Nat} (hi : i < l.length) (hj : j < l.length) (hij : i < j) : l[i].path ≠ l[j].path := by
  intro he
  have h := badFile_none l l.length 0 hb j (Nat.zero_le _) (by omega) hj
  unfold fileC at h
  have hany : (l.take j).any (fun x => clashB x.path l[j].path) = true := by
    rw [List.any_eq_true]
    exact ⟨l[i], List.mem_take_iff_getElem.2 ⟨i, by omega, rfl⟩, by rw [he]; exact clashB_self _⟩
  rw [hany] at h
  split at h
  · split at h
    · cases h
    · cases h
  · cases h
theorem one_path (c : CV) {l : List FV} (hb : badFile l l.length 0 = none) : ∀ x ∈ l.map (fileE c), ∀ y ∈ l.map (fileE c), x.path = y.path → x = y := by
  intro x hx y hy he
  obtain ⟨a, ha, rfl⟩ := List.mem_map.1 hx
  obtain ⟨b, hb', rfl⟩ := List.mem_map.1 hy
  obtain ⟨i, hi, rfl⟩ := List.getElem_of_mem ha
  obtain ⟨j, hj, rfl⟩ := List.getElem_of_mem hb'
  rcases Nat.lt_trichotomy i j with h | h | h
  · exact absurd he (apart_paths hb hi hj h)
  · subst h; rfl
  · exact absurd he.symm (apart_paths hb hj hi h)
theorem fold_facts : ∀ (l : List EV) (d : Array EV), Sort.SortedIn (ltC cmE) 0 d.size d → (l.foldl insE d).toList.Perm (d.toList ++ l) ∧ Sort.SortedIn (ltC cmE) 0 (l.foldl insE d).size (l.foldl insE d)
  | [], d, h => ⟨by simp, h⟩
  | e :: r, d, h => by
    obtain ⟨h1, h2, h3⟩ := ins_facts d e h
    obtain ⟨k1, k2⟩ := fold_facts r (insE d e) (by rw [h1]; exact h3)
    refine ⟨?_, k2⟩
    have := k1.trans (h2.append_right r)
    simpa using this
theorem sortedIn_pairwise {d : Array EV} (h : Sort.SortedIn (ltC cmE) 0 d.size d) : d.toList.Pairwise fun x y => ltC cmE y x = false := by
  rw [List.pairwise_iff_getElem]
  intro i j hi hj hij
  have := h i j (Nat.zero_le _) hij (by simpa using hj)
  rw [getElem!_pos d i (by simpa using hi), getElem!_pos d j (by simpa using hj)] at this
  simpa using this
theorem build_same (l : List FV) (c : CV) (hb : badFile l l.length 0 = none) : ((l.map (fileE c)).foldl insE #[]).toList = srtE (l.map (fileE c)) := by
  obtain ⟨h1, h2⟩ := fold_facts (l.map (fileE c)) #[] (fun i j _ _ h => by simp at h)
  obtain ⟨k1, k2⟩ := srtE_facts (l.map (fileE c))
  have h1' : ((l.map (fileE c)).foldl insE #[]).toList.Perm (l.map (fileE c)) := by simpa using h1
  exact sorted_eq _ _ (h1'.trans k1.symm) (sortedIn_pairwise h2) k2 fun x hx y hy => one_path c hb x (h1'.mem_iff.1 hx) y (h1'.mem_iff.1 hy)
theorem CV.split_len (c : CV) : ∀ (n : Nat) (s : ByteArray), (c.split n s).length ≤ n
  | 0, _ => Nat.le_refl _
  | n + 1, s => by
    unfold CV.split
    split
    · simp
    · have := CV.split_len c n (s.extract (c.len s) s.size)
      simp; omega
theorem few_bounds {l : List FV} (h : l.all fewB = true) : ∀ e ∈ l, e.path.size ≤ 2000 ∧ e.bytes.size ≤ 3000 := fun e he => by
  have := List.all_eq_true.1 h e he
  simpa [fewB] using this
theorem srt_bounds (l : List FV) (c : CV) (h : ∀ e ∈ l, e.bytes.size ≤ 4000000000) : (srtE (l.map (fileE c))).length = l.length ∧ ∀ e ∈ srtE (l.map (fileE c)), e.keys.length ≤ 4000000000 := by
  have hp := (srtE_facts (l.map (fileE c))).1
  refine ⟨by rw [hp.length_eq, List.length_map], fun e he => ?_⟩
  obtain ⟨f, hf, rfl⟩ := List.mem_map.1 (hp.mem_iff.1 he)
  exact Nat.le_trans (c.split_len _ _) (h f hf)
end Go.Proofs.YtmekcbbieacioaaGreatDoorFn
namespace Go.Proofs.YtmekcbbieacioaaGreatDoorFn
open Go.Proofs.YtmekcbbieacioaaGreatDoorAl Go.Proofs.Tryz
attribute [local irreducible] IntKind.wrap CodeOk OpsL OpG ACalls thn inBlk rndR cutR WkR Wk fnR DW ExtOk partsOf
theorem b41 : HasBody prog 41 := ⟨f41, func41, Option.some_ne_none _, by decide⟩
theorem b42 : HasBody prog 42 := ⟨f42, func42, Option.some_ne_none _, by decide⟩
theorem b18 : HasBody prog 18 := ⟨f18, func18, Option.some_ne_none _, by decide⟩
theorem b19 : HasBody prog 19 := ⟨f19, func19, Option.some_ne_none _, by decide⟩
/-! ### a path's entry, and the paths under one -/
theorem find1_ok (x : EV) (t : ByteArray) : ACalls prog 42 0 [.st (.agg (rowE x)), Sx t] [] fun r h => r = I (cmS x.path t) ∧ h = [] := by
  have h1 := compare_ok x.path t
  refine fnC lay_ok func42 rfl rfl rfl rfl rfl ?_
  repeat' first | refine wr (by omega) ?_ | refine ln ?_ | refine stp lay_ok rfl ?_ | refine fin ?_ | refine n_thn ?_ | refine n_blk ?_ | refine e_thn ?_ | refine e_hit ?_ | refine e_miss rfl ?_ | refine r_thn ?_ | refine r_blk ?_ | refine e_rr ?_ | refine r_rr ?_ | refine e_cr ?_ | refine r_cr ?_ | refine .seq ?_ | refine reg ?_ | refine .block ?_ | refine .skip ?_ | refine .ret ?_ | refine .exit ?_ | refine cndT rfl ?_ | refine cndF rfl ?_ | refine c_dec rfl (fun hc => ?_) (fun hc => ?_) | refine c_ndec rfl (fun hc => ?_) (fun hc => ?_) | refine cnd rfl (fun hc => ?_) (fun hc => ?_) | ((first | refine o_none rfl ?_ | refine o_none_ ?_ | refine o_yes rfl rfl rfl ?_ | refine o_yes_ rfl rfl ?_); first | refine st_pure (h1) b34 rfl rfl rfl rfl ?_) | refine gd rfl rfl rfl (fun hg => ?_) (fun hg => ?_) | refine gn rfl rfl rfl (fun hg => ?_) (fun hg => ?_)
  refine f_r [] rfl trivial rfl ⟨?_, rfl⟩
  rfl
/-- The first entry that is not less than a path; whether it is the path's. -/
def loE (l : List EV) (t : ByteArray) : Nat := l.findIdx fun e => decide (¬ cmS e.path t < 0)
def hitE (l : List EV) (t : ByteArray) : Bool := match l[loE l t]? with
  | some e => decide (cmS e.path t = 0)
  | none => false
theorem loE_eq {l : List EV} {t : ByteArray} {i : Nat} (hi : i ≤ l.length) (h1 : ∀ q (h : q < l.length), q < i → cmS l[q].path t < 0) (h2 : ∀ q (h : q < l.length), i ≤ q → ¬ cmS l[q].path t < 0) : loE l t = i := by
  unfold loE
  by_cases hil : i < l.length
  · refine (List.findIdx_eq hil).2 ⟨by simpa using h2 i hil (Nat.le_refl _), fun j hj => ?_⟩
    have := h1 j (by omega) hj
    simpa using this
  · have hie : i = l.length := by omega
    subst hie
    refine List.findIdx_eq_length.2 fun x hx => ?_
    obtain ⟨q, hq, rfl⟩ := List.getElem_of_mem hx
    simpa using h1 q hq hq
theorem shr1 (n : Nat) : shI .shr .u64 (n : Int) 1 = some (.int .u64 ((n / 2 : Nat) : Int)) := by
  simp only [shI]
  have : Int.fdiv (n : Int) (2 ^ min (Int.toNat 1) IntKind.u64.bits) = ((n / 2 : Nat) : Int) := by
    have e : (2 ^ min (Int.toNat 1) IntKind.u64.bits : Int) = 2 := by decide
    rw [e, Int.fdiv_eq_ediv_of_nonneg _ (by decide)]
    rfl
  rw [this]
set_option maxHeartbeats 4000000 in
theorem bs_ok (l : List EV) (t : ByteArray) (hl : l.length ≤ 4000000000) (hs : ∀ i j (hi : i < j) (hj : j < l.length), cmS l[j].path t < 0 → cmS (l[i]'(by omega)).path t < 0) :
    ACalls prog 41 0 [.st (.sl 3 (l.map rowE)), Sx t, fnG 42] [] fun r h => r = .tuple [I (loE l t), B (hitE l t)] ∧ h = [] := by
  have hm : (List.map rowE l).length = l.length := List.length_map _
  refine fnC lay_ok func41 rfl rfl rfl rfl rfl ?_
  repeat' first | refine wr (by omega) ?_ | refine ln ?_ | refine stp lay_ok rfl ?_ | refine fin ?_ | refine n_thn ?_ | refine n_blk ?_ | refine e_thn ?_ | refine e_hit ?_ | refine e_miss rfl ?_ | refine r_thn ?_ | refine r_blk ?_ | refine e_rr ?_ | refine r_rr ?_ | refine e_cr ?_ | refine r_cr ?_ | refine .seq ?_ | refine reg ?_ | refine .block ?_ | refine .skip ?_ | refine .ret ?_ | refine .exit ?_ | refine cndT rfl ?_ | refine cndF rfl ?_ | refine c_dec rfl (fun hc => ?_) (fun hc => ?_) | refine c_ndec rfl (fun hc => ?_) (fun hc => ?_) | refine cnd rfl (fun hc => ?_) (fun hc => ?_) | refine gd rfl rfl rfl (fun hg => ?_) (fun hg => ?_) | refine gn rfl rfl rfl (fun hg => ?_) (fun hg => ?_)
  refine lpR (fun (i, j) => i ≤ j ∧ j ≤ l.length ∧ (∀ q (h : q < l.length), q < i → cmS l[q].path t < 0) ∧ (∀ q (h : q < l.length), j ≤ q → ¬ cmS l[q].path t < 0)) (fun (i, j) => j - i) (fun (i, j) => [(9, I i), (10, I j)]) (fun (i, j) => []) ((0, l.length)) [0, 1, 2, 8] [] [] rfl rfl rfl (.of [] (by (repeat' first | exact trivial | refine And.intro ?_ ?_ | rfl); first | done | fail) (by (repeat' first | exact trivial | refine And.intro ?_ ?_ | rfl); first | done | fail) rfl) ?_ ?_
  · exact ⟨Nat.zero_le _, Nat.le_refl _, fun q h1 h2 => by omega, fun q h1 h2 => by omega⟩
  rintro ⟨i, j⟩ ⟨g1, g2, g3, g4⟩
  refine nrm rfl rfl ?_
  by_cases hij : i < j
  case neg =>
    have hie : i = j := by omega
    subst hie
    have hlo := loE_eq g2 g3 g4
    have hhit : hitE l t = match l[i]? with
      | some e => decide (cmS e.path t = 0)
      | none => false := by rw [hitE, hlo]
    rw [hlo]
    by_cases hil : i < l.length
    · rw [List.getElem?_eq_getElem hil] at hhit
      have hat := at_rowE hil
      have hf := find1_ok l[i] t
      simp only at hhit
      generalize hitE l t = hb at *
      generalize l[i] = e at *
      repeat' first | refine wr (by omega) ?_ | refine ln ?_ | refine stp lay_ok rfl ?_ | refine fin ?_ | refine n_thn ?_ | refine n_blk ?_ | refine e_thn ?_ | refine e_hit ?_ | refine e_miss rfl ?_ | refine r_thn ?_ | refine r_blk ?_ | refine e_rr ?_ | refine r_rr ?_ | refine e_cr ?_ | refine r_cr ?_ | refine .seq ?_ | refine reg ?_ | refine .block ?_ | refine .skip ?_ | refine .ret ?_ | refine .exit ?_ | refine cndT rfl ?_ | refine cndF rfl ?_ | refine c_dec rfl (fun hc => ?_) (fun hc => ?_) | refine c_ndec rfl (fun hc => ?_) (fun hc => ?_) | refine cnd rfl (fun hc => ?_) (fun hc => ?_) | ((first | refine o_none rfl ?_ | refine o_none_ ?_ | refine o_yes rfl rfl rfl ?_ | refine o_yes_ rfl rfl ?_); first | refine st_index (rowE e) lay_ok rfl rfl rfl rfl (by omega) hat ?_ | refine st_pure (hf) b42 rfl rfl rfl rfl ?_) | refine gd rfl rfl rfl (fun hg => ?_) (fun hg => ?_) | refine gn rfl rfl rfl (fun hg => ?_) (fun hg => ?_)
      all_goals first
        | (exfalso; omega)
        | skip
      refine f_r [] rfl trivial rfl ⟨?_, rfl⟩
      rw [hhit]; rfl
    · rw [List.getElem?_eq_none (by omega)] at hhit
      simp only at hhit
      rw [hhit]
      repeat' first | refine wr (by omega) ?_ | refine ln ?_ | refine stp lay_ok rfl ?_ | refine fin ?_ | refine n_thn ?_ | refine n_blk ?_ | refine e_thn ?_ | refine e_hit ?_ | refine e_miss rfl ?_ | refine r_thn ?_ | refine r_blk ?_ | refine e_rr ?_ | refine r_rr ?_ | refine e_cr ?_ | refine r_cr ?_ | refine .seq ?_ | refine reg ?_ | refine .block ?_ | refine .skip ?_ | refine .ret ?_ | refine .exit ?_ | refine cndT rfl ?_ | refine cndF rfl ?_ | refine c_dec rfl (fun hc => ?_) (fun hc => ?_) | refine c_ndec rfl (fun hc => ?_) (fun hc => ?_) | refine cnd rfl (fun hc => ?_) (fun hc => ?_) | refine gd rfl rfl rfl (fun hg => ?_) (fun hg => ?_) | refine gn rfl rfl rfl (fun hg => ?_) (fun hg => ?_)
      all_goals first
        | (exfalso; omega)
        | skip
      refine f_r [] rfl trivial rfl ⟨?_, rfl⟩
      rfl
  generalize hmid : (i + j) / 2 = q at *
  have hil : q < l.length := by omega
  have hat := at_rowE hil
  have hf := find1_ok l[q] t
  have hsh : shI .shr .u64 (IntKind.u64.wrap ((i : Int) + (j : Int))) 1 = some (.int .u64 (q : Int)) := by
    rw [show (i : Int) + (j : Int) = ((i + j : Nat) : Int) by omega, uwrap _ (by omega), shr1, hmid]
  have hlow : cmS l[q].path t < 0 → ∀ r (h : r < l.length), r < q + 1 → cmS l[r].path t < 0 := fun h r hr hrq => by
    by_cases hrq' : r = q
    · subst hrq'; exact h
    · exact hs r q (by omega) hil h
  have hhi : ¬ cmS l[q].path t < 0 → ∀ r (h : r < l.length), q ≤ r → ¬ cmS l[r].path t < 0 := fun h r hr hrq hlt => by
    by_cases hrq' : r = q
    · subst hrq'; exact h hlt
    · exact h (hs q r (by omega) hr hlt)
  generalize l[q] = e at *
  repeat' first | refine wr (by omega) ?_ | refine ln ?_ | refine stp lay_ok rfl ?_ | refine fin ?_ | refine n_thn ?_ | refine n_blk ?_ | refine e_thn ?_ | refine e_hit ?_ | refine e_miss rfl ?_ | refine r_thn ?_ | refine r_blk ?_ | refine e_rr ?_ | refine r_rr ?_ | refine e_cr ?_ | refine r_cr ?_ | refine .seq ?_ | refine reg ?_ | refine .block ?_ | refine .skip ?_ | refine .ret ?_ | refine .exit ?_ | refine cndT rfl ?_ | refine cndF rfl ?_ | refine c_dec rfl (fun hc => ?_) (fun hc => ?_) | refine c_ndec rfl (fun hc => ?_) (fun hc => ?_) | refine cnd rfl (fun hc => ?_) (fun hc => ?_) | ((first | refine o_none rfl ?_ | refine o_none_ ?_ | refine o_yes rfl rfl rfl ?_ | refine o_yes_ rfl rfl ?_); first | refine st_shift rfl rfl (by decide) hsh ?_ | refine st_index (rowE e) lay_ok rfl rfl rfl rfl (by omega) hat ?_ | refine st_pure (hf) b42 rfl rfl rfl rfl ?_) | refine gd rfl rfl rfl (fun hg => ?_) (fun hg => ?_) | refine gn rfl rfl rfl (fun hg => ?_) (fun hg => ?_)
  all_goals first
    | (exfalso; omega)
    | skip
  · refine n_rr ((q + 1, j)) ?_ (.of [] (by (repeat' first | exact trivial | refine And.intro ?_ ?_ | rfl | exact congrArg (fun z : Int => some (AV.st (.int .i64 z))) (show (q : Int) + 1 = ((q + 1 : Nat) : Int) by omega)); first | done | fail) (by (repeat' first | exact trivial | refine And.intro ?_ ?_ | rfl | exact congrArg (fun z : Int => some (AV.st (.int .i64 z))) (show (q : Int) + 1 = ((q + 1 : Nat) : Int) by omega)); first | done | fail) rfl) ?_
    · show j - (q + 1) < j - i; omega
    · exact ⟨by omega, g2, hlow (by assumption), g4⟩
  · refine n_rr ((i, q)) ?_ (.of [] (by (repeat' first | exact trivial | refine And.intro ?_ ?_ | rfl); first | done | fail) (by (repeat' first | exact trivial | refine And.intro ?_ ?_ | rfl); first | done | fail) rfl) ?_
    · show q - i < j - i; omega
    · exact ⟨by omega, by omega, g3, hhi (by assumption)⟩
abbrev zE : List SV := [.str ⟨#[]⟩, .int .i64 0, .nilsl]
/-- A path's entry, or what is amiss. -/
def findR (l : List EV) (t : ByteArray) : AV := if 32 < l.length then .tuple [.st (.agg zE), errE 7] else match badFrom l l.length 0 with
  | some (i, n) => .tuple [.st (.agg zE), spotE i n]
  | none => match l[loE l t]? with
    | some e => if e.path = t then .tuple [.st (.agg (rowE e)), nilE] else .tuple [.st (.agg zE), errE 3]
    | none => .tuple [.st (.agg zE), errE 3]
end Go.Proofs.YtmekcbbieacioaaGreatDoorFn
namespace Go.Proofs.YtmekcbbieacioaaGreatDoorFn
open Go.Proofs.YtmekcbbieacioaaGreatDoorAl Go.Proofs.Tryz
attribute [local irreducible] IntKind.wrap CodeOk OpsL OpG ACalls thn inBlk rndR cutR WkR Wk fnR DW ExtOk partsOf
/-! ### Find and Below -/
theorem badFrom_none (l : List EV) : ∀ f i, badFrom l f i = none → ∀ j, i ≤ j → j < i + f → ∀ h : j < l.length, entryC l j l[j] = none
  | 0, i, _, j, h1, h2, _ => by omega
  | f + 1, i, hb, j, h1, h2, h => by
    have hi : i < l.length := by omega
    simp only [badFrom, List.getElem?_eq_getElem hi] at hb
    cases hx : entryC l i l[i] with
    | some n => rw [hx] at hb; cases hb
    | none =>
      rw [hx] at hb
      by_cases hij : i = j
      · subst hij; exact hx
      · exact badFrom_none l f (i + 1) hb j (by omega) (by omega) h
theorem cmS_lt (a b : ByteArray) : cmS a b < 0 ↔ strLt a b = true := by
  unfold cmS
  cases h : strLt a b with
  | true => simp
  | false =>
    simp only [Bool.false_eq_true, if_false]
    split <;> simp
theorem cmS_zero (a b : ByteArray) : cmS a b = 0 ↔ a = b := by
  have e : ∀ x y : ByteArray, strLt x y = decide (x.data.toList < y.data.toList) := fun x y => by rw [← Go.Proofs.bytesLess_eq]; rfl
  unfold cmS
  rw [e]
  constructor
  · intro h
    by_cases h1 : a.data.toList < b.data.toList
    · simp [h1] at h
    · simpa [h1] using h
  · rintro rfl
    have : ¬ a.data.toList < a.data.toList := List.lt_irrefl _
    simp [this]
/-- In a tree each path is greater than the one ahead of it. -/
theorem tree_step {l : List EV} (hb : badFrom l l.length 0 = none) (i : Nat) (hi : i + 1 < l.length) : strLt l[i].path l[i + 1].path = true := by
  have h := badFrom_none l l.length 0 hb (i + 1) (Nat.zero_le _) (by omega) hi
  unfold entryC at h
  have e2 : l[i + 1 - 1]? = some l[i] := by simp
  rw [e2] at h
  cases hs : strLt l[i].path l[i + 1].path with
  | true => rfl
  | false =>
    simp [hs] at h
    split at h <;> cases h
theorem strLt_iff (x y : ByteArray) : strLt x y = true ↔ x.data.toList < y.data.toList := by
  have e : strLt x y = decide (x.data.toList < y.data.toList) := by rw [← Go.Proofs.bytesLess_eq]; rfl
  rw [e]; simp
theorem tree_sorted {l : List EV} (hb : badFrom l l.length 0 = none) : ∀ i j (hi : i < j) (hj : j < l.length), strLt (l[i]'(by omega)).path l[j].path = true
  | i, j + 1, hi, hj => by
    have h1 := tree_step hb j hj
    by_cases hij : i = j
    · subst hij; exact h1
    · have h2 := tree_sorted hb i j (by omega) (by omega)
      rw [strLt_iff] at *
      exact List.lt_trans h2 h1
theorem tree_below {l : List EV} (hb : badFrom l l.length 0 = none) (t : ByteArray) : ∀ i j (hi : i < j) (hj : j < l.length), cmS l[j].path t < 0 → cmS (l[i]'(by omega)).path t < 0 := fun i j hi hj h => by
  have h2 := tree_sorted hb i j hi hj
  rw [cmS_lt] at *
  rw [strLt_iff] at *
  exact List.lt_trans h2 h
def zV : EV := ⟨⟨#[]⟩, 0, []⟩
set_option maxHeartbeats 4000000 in
theorem find_ok (l : List EV) (t : ByteArray) (hl : l.length ≤ 4000000000) (hp : ∀ e ∈ l, e.path.size ≤ 4000000000 - 1) (hk : ∀ e ∈ l, e.keys.length ≤ 4000000000) :
    ACalls prog 18 0 [.st (.sl 3 (l.map rowE)), Sx t] [] fun r h => r = findR l t ∧ h = [] := by
  have hc := treeCheck_ok l hl hp hk
  have hm : (List.map rowE l).length = l.length := List.length_map _
  unfold findR
  unfold treeC at hc
  by_cases h32 : 32 < l.length
  · rw [if_pos h32] at hc ⊢
    refine ACalls.drop1 (h1 := [(0, .cells [.st (.str ⟨#[]⟩), .st (.int .i64 0), .st .nilsl])]) trivial ?_
    refine fnC lay_ok func18 rfl rfl rfl rfl rfl ?_
    repeat' first | refine wr (by omega) ?_ | refine ln ?_ | refine stp lay_ok rfl ?_ | refine fin ?_ | refine n_thn ?_ | refine n_blk ?_ | refine e_thn ?_ | refine e_hit ?_ | refine e_miss rfl ?_ | refine r_thn ?_ | refine r_blk ?_ | refine e_rr ?_ | refine r_rr ?_ | refine e_cr ?_ | refine r_cr ?_ | refine .seq ?_ | refine reg ?_ | refine .block ?_ | refine .skip ?_ | refine .ret ?_ | refine .exit ?_ | refine cndT rfl ?_ | refine cndF rfl ?_ | refine c_dec rfl (fun hc => ?_) (fun hc => ?_) | refine c_ndec rfl (fun hc => ?_) (fun hc => ?_) | refine cnd rfl (fun hc => ?_) (fun hc => ?_) | ((first | refine o_none rfl ?_ | refine o_none_ ?_ | refine o_yes rfl rfl rfl ?_ | refine o_yes_ rfl rfl ?_); first | refine st_pure (hc) b17 rfl rfl rfl rfl ?_) | refine gd rfl rfl rfl (fun hg => ?_) (fun hg => ?_) | refine gn rfl rfl rfl (fun hg => ?_) (fun hg => ?_)
    refine f_end (n0 := 1) (t'' := [(4, .ptr 0 0), (5, errE 7)]) (h'' := [(0, .cells [.st (.str ⟨#[]⟩), .st (.int .i64 0), .st .nilsl])]) (WkR.of [0] (by (repeat' first | exact trivial | refine And.intro ?_ ?_ | rfl); first | done | fail) (by (repeat' first | exact trivial | refine And.intro ?_ ?_ | rfl); first | done | fail) rfl) rfl rfl ⟨?_, rfl⟩
    rfl
  rw [if_neg h32] at hc ⊢
  cases hb : badFrom l l.length 0 with
  | some x =>
    obtain ⟨i, n⟩ := x
    rw [hb] at hc
    simp only at hc ⊢
    refine ACalls.drop1 (h1 := [(0, .cells [.st (.str ⟨#[]⟩), .st (.int .i64 0), .st .nilsl])]) trivial ?_
    refine fnC lay_ok func18 rfl rfl rfl rfl rfl ?_
    repeat' first | refine wr (by omega) ?_ | refine ln ?_ | refine stp lay_ok rfl ?_ | refine fin ?_ | refine n_thn ?_ | refine n_blk ?_ | refine e_thn ?_ | refine e_hit ?_ | refine e_miss rfl ?_ | refine r_thn ?_ | refine r_blk ?_ | refine e_rr ?_ | refine r_rr ?_ | refine e_cr ?_ | refine r_cr ?_ | refine .seq ?_ | refine reg ?_ | refine .block ?_ | refine .skip ?_ | refine .ret ?_ | refine .exit ?_ | refine cndT rfl ?_ | refine cndF rfl ?_ | refine c_dec rfl (fun hc => ?_) (fun hc => ?_) | refine c_ndec rfl (fun hc => ?_) (fun hc => ?_) | refine cnd rfl (fun hc => ?_) (fun hc => ?_) | ((first | refine o_none rfl ?_ | refine o_none_ ?_ | refine o_yes rfl rfl rfl ?_ | refine o_yes_ rfl rfl ?_); first | refine st_pure (hc) b17 rfl rfl rfl rfl ?_) | refine gd rfl rfl rfl (fun hg => ?_) (fun hg => ?_) | refine gn rfl rfl rfl (fun hg => ?_) (fun hg => ?_)
    refine f_end (n0 := 1) (t'' := [(4, .ptr 0 0), (5, spotE i n)]) (h'' := [(0, .cells [.st (.str ⟨#[]⟩), .st (.int .i64 0), .st .nilsl])]) (WkR.of [0] (by (repeat' first | exact trivial | refine And.intro ?_ ?_ | rfl); first | done | fail) (by (repeat' first | exact trivial | refine And.intro ?_ ?_ | rfl); first | done | fail) rfl) rfl rfl ⟨?_, rfl⟩
    rfl
  | none =>
    rw [hb] at hc
    simp only at hc ⊢
    have hbs := bs_ok l t hl (tree_below hb t)
    have hhit : hitE l t = match l[loE l t]? with
      | some e => decide (cmS e.path t = 0)
      | none => false := rfl
    have hle : loE l t ≤ l.length := List.findIdx_le_length
    generalize loE l t = k at *
    generalize hitE l t = b at *
    by_cases hkl : k < l.length
    · rw [List.getElem?_eq_getElem hkl] at hhit ⊢
      have hat := at_rowE hkl
      have hcl := cloneS_ok l[k].keys (hk _ (List.getElem_mem hkl))
      generalize l[k] = e at *
      simp only [cmS_zero] at hhit ⊢
      obtain ⟨p, z, ks⟩ := e
      simp only at hhit hcl ⊢
      by_cases hpt : p = t
      · rw [if_pos hpt]
        rw [decide_eq_true hpt] at hhit
        subst hhit
        refine ACalls.drop1 (h1 := [(0, .cells [.st (.str p), .st (.int .i64 z), .st (.sl 1 (ks.map rowS))])]) trivial ?_
        refine fnC lay_ok func18 rfl rfl rfl rfl rfl ?_
        repeat' first | refine wr (by omega) ?_ | refine ln ?_ | refine stp lay_ok rfl ?_ | refine fin ?_ | refine n_thn ?_ | refine n_blk ?_ | refine e_thn ?_ | refine e_hit ?_ | refine e_miss rfl ?_ | refine r_thn ?_ | refine r_blk ?_ | refine e_rr ?_ | refine r_rr ?_ | refine e_cr ?_ | refine r_cr ?_ | refine .seq ?_ | refine reg ?_ | refine .block ?_ | refine .skip ?_ | refine .ret ?_ | refine .exit ?_ | refine cndT rfl ?_ | refine cndF rfl ?_ | refine c_dec rfl (fun hc => ?_) (fun hc => ?_) | refine c_ndec rfl (fun hc => ?_) (fun hc => ?_) | refine cnd rfl (fun hc => ?_) (fun hc => ?_) | ((first | refine o_none rfl ?_ | refine o_none_ ?_ | refine o_yes rfl rfl rfl ?_ | refine o_yes_ rfl rfl ?_); first | refine st_pure (hc) b17 rfl rfl rfl rfl ?_ | refine st_pure (hbs) b41 rfl rfl rfl rfl ?_ | refine st_index (rowE ⟨p, z, ks⟩) lay_ok rfl rfl rfl rfl (by omega) hat ?_ | refine st_pure (hcl) b43 rfl rfl rfl rfl ?_) | refine gd rfl rfl rfl (fun hg => ?_) (fun hg => ?_) | refine gn rfl rfl rfl (fun hg => ?_) (fun hg => ?_)
        refine f_end (n0 := 1) (t'' := [(4, .ptr 0 0), (5, nilE)]) (h'' := [(0, .cells [.st (.str p), .st (.int .i64 z), .st (.sl 1 (ks.map rowS))])]) (WkR.of [0] (by (repeat' first | exact trivial | refine And.intro ?_ ?_ | rfl); first | done | fail) (by (repeat' first | exact trivial | refine And.intro ?_ ?_ | rfl); first | done | fail) rfl) rfl rfl ⟨?_, rfl⟩
        rfl
      · rw [if_neg hpt]
        rw [decide_eq_false hpt] at hhit
        subst hhit
        refine ACalls.drop1 (h1 := [(0, .cells [.st (.str ⟨#[]⟩), .st (.int .i64 0), .st .nilsl])]) trivial ?_
        refine fnC lay_ok func18 rfl rfl rfl rfl rfl ?_
        repeat' first | refine wr (by omega) ?_ | refine ln ?_ | refine stp lay_ok rfl ?_ | refine fin ?_ | refine n_thn ?_ | refine n_blk ?_ | refine e_thn ?_ | refine e_hit ?_ | refine e_miss rfl ?_ | refine r_thn ?_ | refine r_blk ?_ | refine e_rr ?_ | refine r_rr ?_ | refine e_cr ?_ | refine r_cr ?_ | refine .seq ?_ | refine reg ?_ | refine .block ?_ | refine .skip ?_ | refine .ret ?_ | refine .exit ?_ | refine cndT rfl ?_ | refine cndF rfl ?_ | refine c_dec rfl (fun hc => ?_) (fun hc => ?_) | refine c_ndec rfl (fun hc => ?_) (fun hc => ?_) | refine cnd rfl (fun hc => ?_) (fun hc => ?_) | ((first | refine o_none rfl ?_ | refine o_none_ ?_ | refine o_yes rfl rfl rfl ?_ | refine o_yes_ rfl rfl ?_); first | refine st_pure (hc) b17 rfl rfl rfl rfl ?_ | refine st_pure (hbs) b41 rfl rfl rfl rfl ?_) | refine gd rfl rfl rfl (fun hg => ?_) (fun hg => ?_) | refine gn rfl rfl rfl (fun hg => ?_) (fun hg => ?_)
        refine f_end (n0 := 1) (t'' := [(4, .ptr 0 0), (5, errE 3)]) (h'' := [(0, .cells [.st (.str ⟨#[]⟩), .st (.int .i64 0), .st .nilsl])]) (WkR.of [0] (by (repeat' first | exact trivial | refine And.intro ?_ ?_ | rfl); first | done | fail) (by (repeat' first | exact trivial | refine And.intro ?_ ?_ | rfl); first | done | fail) rfl) rfl rfl ⟨?_, rfl⟩
        rfl
    · rw [List.getElem?_eq_none (by omega)] at hhit ⊢
      simp only at hhit ⊢
      subst hhit
      refine ACalls.drop1 (h1 := [(0, .cells [.st (.str ⟨#[]⟩), .st (.int .i64 0), .st .nilsl])]) trivial ?_
      refine fnC lay_ok func18 rfl rfl rfl rfl rfl ?_
      repeat' first | refine wr (by omega) ?_ | refine ln ?_ | refine stp lay_ok rfl ?_ | refine fin ?_ | refine n_thn ?_ | refine n_blk ?_ | refine e_thn ?_ | refine e_hit ?_ | refine e_miss rfl ?_ | refine r_thn ?_ | refine r_blk ?_ | refine e_rr ?_ | refine r_rr ?_ | refine e_cr ?_ | refine r_cr ?_ | refine .seq ?_ | refine reg ?_ | refine .block ?_ | refine .skip ?_ | refine .ret ?_ | refine .exit ?_ | refine cndT rfl ?_ | refine cndF rfl ?_ | refine c_dec rfl (fun hc => ?_) (fun hc => ?_) | refine c_ndec rfl (fun hc => ?_) (fun hc => ?_) | refine cnd rfl (fun hc => ?_) (fun hc => ?_) | ((first | refine o_none rfl ?_ | refine o_none_ ?_ | refine o_yes rfl rfl rfl ?_ | refine o_yes_ rfl rfl ?_); first | refine st_pure (hc) b17 rfl rfl rfl rfl ?_ | refine st_pure (hbs) b41 rfl rfl rfl rfl ?_) | refine gd rfl rfl rfl (fun hg => ?_) (fun hg => ?_) | refine gn rfl rfl rfl (fun hg => ?_) (fun hg => ?_)
      refine f_end (n0 := 1) (t'' := [(4, .ptr 0 0), (5, errE 3)]) (h'' := [(0, .cells [.st (.str ⟨#[]⟩), .st (.int .i64 0), .st .nilsl])]) (WkR.of [0] (by (repeat' first | exact trivial | refine And.intro ?_ ?_ | rfl); first | done | fail) (by (repeat' first | exact trivial | refine And.intro ?_ ?_ | rfl); first | done | fail) rfl) rfl rfl ⟨?_, rfl⟩
      rfl
/-- The paths under one. -/
def belP (d : ByteArray) (e : EV) : Bool := decide (d = ⟨#[]⟩) || under d e.path
def belL' (l : List EV) (d : ByteArray) : List ByteArray := (l.filter (belP d)).map (·.path)
def belR (l : List EV) (d : ByteArray) : AV := if 32 < l.length then .st .nilsl else match badFrom l l.length 0 with
  | some _ => .st .nilsl
  | none => .st (.sl 1 ((belL' l d).map rowS))
set_option maxHeartbeats 4000000 in
theorem below_ok (l : List EV) (t : ByteArray) (hl : l.length ≤ 4000000000) (hp : ∀ e ∈ l, e.path.size ≤ 4000000000 - 1) (hk : ∀ e ∈ l, e.keys.length ≤ 4000000000) (ht : t.size ≤ 4000000000 - 1) :
    ACalls prog 19 0 [.st (.sl 3 (l.map rowE)), Sx t] [] fun r h => r = belR l t ∧ h = [] := by
  have hc := treeCheck_ok l hl hp hk
  have hm : (List.map rowE l).length = l.length := List.length_map _
  unfold belR
  unfold treeC at hc
  refine fnC lay_ok func19 rfl rfl rfl rfl rfl ?_
  by_cases h32 : 32 < l.length
  · rw [if_pos h32] at hc ⊢
    repeat' first | refine wr (by omega) ?_ | refine ln ?_ | refine stp lay_ok rfl ?_ | refine fin ?_ | refine n_thn ?_ | refine n_blk ?_ | refine e_thn ?_ | refine e_hit ?_ | refine e_miss rfl ?_ | refine r_thn ?_ | refine r_blk ?_ | refine e_rr ?_ | refine r_rr ?_ | refine e_cr ?_ | refine r_cr ?_ | refine .seq ?_ | refine reg ?_ | refine .block ?_ | refine .skip ?_ | refine .ret ?_ | refine .exit ?_ | refine cndT rfl ?_ | refine cndF rfl ?_ | refine c_dec rfl (fun hc => ?_) (fun hc => ?_) | refine c_ndec rfl (fun hc => ?_) (fun hc => ?_) | refine cnd rfl (fun hc => ?_) (fun hc => ?_) | ((first | refine o_none rfl ?_ | refine o_none_ ?_ | refine o_yes rfl rfl rfl ?_ | refine o_yes_ rfl rfl ?_); first | refine st_pure (hc) b17 rfl rfl rfl rfl ?_) | refine gd rfl rfl rfl (fun hg => ?_) (fun hg => ?_) | refine gn rfl rfl rfl (fun hg => ?_) (fun hg => ?_)
    refine f_r [] rfl trivial rfl ⟨?_, rfl⟩
    rfl
  rw [if_neg h32] at hc ⊢
  cases hb : badFrom l l.length 0 with
  | some x =>
    obtain ⟨i, n⟩ := x
    rw [hb] at hc
    simp only at hc ⊢
    repeat' first | refine wr (by omega) ?_ | refine ln ?_ | refine stp lay_ok rfl ?_ | refine fin ?_ | refine n_thn ?_ | refine n_blk ?_ | refine e_thn ?_ | refine e_hit ?_ | refine e_miss rfl ?_ | refine r_thn ?_ | refine r_blk ?_ | refine e_rr ?_ | refine r_rr ?_ | refine e_cr ?_ | refine r_cr ?_ | refine .seq ?_ | refine reg ?_ | refine .block ?_ | refine .skip ?_ | refine .ret ?_ | refine .exit ?_ | refine cndT rfl ?_ | refine cndF rfl ?_ | refine c_dec rfl (fun hc => ?_) (fun hc => ?_) | refine c_ndec rfl (fun hc => ?_) (fun hc => ?_) | refine cnd rfl (fun hc => ?_) (fun hc => ?_) | ((first | refine o_none rfl ?_ | refine o_none_ ?_ | refine o_yes rfl rfl rfl ?_ | refine o_yes_ rfl rfl ?_); first | refine st_pure (hc) b17 rfl rfl rfl rfl ?_) | refine gd rfl rfl rfl (fun hg => ?_) (fun hg => ?_) | refine gn rfl rfl rfl (fun hg => ?_) (fun hg => ?_)
    refine f_r [] rfl trivial rfl ⟨?_, rfl⟩
    rfl
  | none =>
    rw [hb] at hc
    simp only at hc ⊢
    repeat' first | refine wr (by omega) ?_ | refine ln ?_ | refine stp lay_ok rfl ?_ | refine fin ?_ | refine n_thn ?_ | refine n_blk ?_ | refine e_thn ?_ | refine e_hit ?_ | refine e_miss rfl ?_ | refine r_thn ?_ | refine r_blk ?_ | refine e_rr ?_ | refine r_rr ?_ | refine e_cr ?_ | refine r_cr ?_ | refine .seq ?_ | refine reg ?_ | refine .block ?_ | refine .skip ?_ | refine .ret ?_ | refine .exit ?_ | refine cndT rfl ?_ | refine cndF rfl ?_ | refine c_dec rfl (fun hc => ?_) (fun hc => ?_) | refine c_ndec rfl (fun hc => ?_) (fun hc => ?_) | refine cnd rfl (fun hc => ?_) (fun hc => ?_) | ((first | refine o_none rfl ?_ | refine o_none_ ?_ | refine o_yes rfl rfl rfl ?_ | refine o_yes_ rfl rfl ?_); first | refine st_pure (hc) b17 rfl rfl rfl rfl ?_) | refine gd rfl rfl rfl (fun hg => ?_) (fun hg => ?_) | refine gn rfl rfl rfl (fun hg => ?_) (fun hg => ?_)
    refine CodeOk.wk (Wk.nilT 1 5 rfl rfl) (Nat.le_succ _) ?_
    refine nrm rfl rfl ?_
    refine lpR (fun (k, out) => k ≤ l.length ∧ out = belL' (l.take k) t ∧ out.length ≤ k) (fun (k, out) => l.length - k) (fun (k, out) => [(13, I k), (5, .lsl 1 1 0 (out.map rowS).length)]) (fun (k, out) => [(1, .arr 1 (out.map rowS))]) ((0, [])) [1, 11, 12] [] [0] rfl rfl rfl (.of [0] (by (repeat' first | exact trivial | refine And.intro ?_ ?_ | rfl); first | done | fail) (by (repeat' first | exact trivial | refine And.intro ?_ ?_ | rfl); first | done | fail) rfl) ?_ ?_
    · exact ⟨Nat.zero_le _, rfl, Nat.le_refl _⟩
    rintro ⟨k, out⟩ ⟨g1, g2, g3⟩
    refine nrm rfl rfl ?_
    have hmo : (List.map rowS out).length = out.length := List.length_map _
    by_cases hk' : k < l.length
    case neg =>
      have hke : k = l.length := by omega
      subst hke
      rw [List.take_length] at g2
      rw [← g2]
      repeat' first | refine wr (by omega) ?_ | refine ln ?_ | refine stp lay_ok rfl ?_ | refine fin ?_ | refine n_thn ?_ | refine n_blk ?_ | refine e_thn ?_ | refine e_hit ?_ | refine e_miss rfl ?_ | refine r_thn ?_ | refine r_blk ?_ | refine e_rr ?_ | refine r_rr ?_ | refine e_cr ?_ | refine r_cr ?_ | refine .seq ?_ | refine reg ?_ | refine .block ?_ | refine .skip ?_ | refine .ret ?_ | refine .exit ?_ | refine cndT rfl ?_ | refine cndF rfl ?_ | refine c_dec rfl (fun hc => ?_) (fun hc => ?_) | refine c_ndec rfl (fun hc => ?_) (fun hc => ?_) | refine cnd rfl (fun hc => ?_) (fun hc => ?_) | refine gd rfl rfl rfl (fun hg => ?_) (fun hg => ?_) | refine gn rfl rfl rfl (fun hg => ?_) (fun hg => ?_)
      all_goals first
        | (exfalso; omega)
        | skip
      refine f_end (n0 := 0) (t'' := [(4, .st (.sl 1 (out.map rowS)))]) (h'' := []) (Wk.then (Wk.frz 1 [4] rfl rfl rfl (by (repeat' first | exact trivial | refine And.intro ?_ ?_ | rfl); first | done | fail) (by (repeat' first | exact trivial | refine And.intro ?_ ?_ | rfl); first | done | fail) rfl rfl) (WkR.of [] (by (repeat' first | exact trivial | refine And.intro ?_ ?_ | rfl); first | done | fail) (by (repeat' first | exact trivial | refine And.intro ?_ ?_ | rfl); first | done | fail) rfl)) rfl rfl ⟨?_, rfl⟩
      rfl
    have hat := at_rowE hk'
    have hun := under_ok t l[k].path ht (hp _ (List.getElem_mem hk'))
    have htk : belL' (l.take (k + 1)) t = belL' (l.take k) t ++ (if belP t l[k] = true then [l[k].path] else []) := by
      rw [List.take_succ_eq_append_getElem hk']
      unfold belL'
      rw [List.filter_append, List.map_append]
      congr 1
      cases hbp : belP t l[k] <;> simp [hbp]
    rw [← g2] at htk
    generalize l[k] = e at *
    obtain ⟨p, z, ks⟩ := e
    simp only at hun htk
    have hr : List.map rowS out ++ [[SV.str p]] = List.map rowS (out ++ [p]) := by rw [List.map_append]; rfl
    by_cases hte : t = ⟨#[]⟩
    · have hb1 : belP t ⟨p, z, ks⟩ = true := by simp [belP, hte]
      rw [if_pos hb1] at htk
      repeat' first | refine wr (by omega) ?_ | refine ln ?_ | refine stp lay_ok rfl ?_ | refine fin ?_ | refine n_thn ?_ | refine n_blk ?_ | refine e_thn ?_ | refine e_hit ?_ | refine e_miss rfl ?_ | refine r_thn ?_ | refine r_blk ?_ | refine e_rr ?_ | refine r_rr ?_ | refine e_cr ?_ | refine r_cr ?_ | refine .seq ?_ | refine reg ?_ | refine .block ?_ | refine .skip ?_ | refine .ret ?_ | refine .exit ?_ | refine cndT rfl ?_ | refine cndF rfl ?_ | refine c_dec rfl (fun hc => ?_) (fun hc => ?_) | refine c_ndec rfl (fun hc => ?_) (fun hc => ?_) | refine cnd rfl (fun hc => ?_) (fun hc => ?_) | ((first | refine o_none rfl ?_ | refine o_none_ ?_ | refine o_yes rfl rfl rfl ?_ | refine o_yes_ rfl rfl ?_); first | refine st_index (rowE ⟨p, z, ks⟩) lay_ok rfl rfl rfl rfl (by omega) hat ?_ | refine st_pure (hun) b44 rfl rfl rfl rfl ?_ | refine st_append lay_ok rfl rfl rfl rfl rfl rfl rfl rfl (.lsl rfl rfl) .sl rfl (rowS_one (b := [p])) (by simp only [List.length_cons, List.length_nil]; omega) (by simp only [List.length_cons, List.length_nil]; omega) ?_) | refine gd rfl rfl rfl (fun hg => ?_) (fun hg => ?_) | refine gn rfl rfl rfl (fun hg => ?_) (fun hg => ?_)
      all_goals first
        | (exfalso; omega)
        | (exfalso; contradiction)
        | skip
      rw [hr]
      refine n_rr ((k + 1, out ++ [p])) ?_ (.of [3] (by (repeat' first | exact trivial | refine And.intro ?_ ?_ | rfl | exact congrArg (fun z : Int => some (AV.st (.int .i64 z))) (show (k : Int) + 1 = ((k + 1 : Nat) : Int) by omega)); first | done | fail) (by (repeat' first | exact trivial | refine And.intro ?_ ?_ | rfl | exact congrArg (fun z : Int => some (AV.st (.int .i64 z))) (show (k : Int) + 1 = ((k + 1 : Nat) : Int) by omega)); first | done | fail) rfl) ?_
      · show l.length - (k + 1) < l.length - k; omega
      · exact ⟨hk', htk.symm, by simp; omega⟩
    · cases hu : under t p
      · have hb1 : belP t ⟨p, z, ks⟩ = false := by simp [belP, hte, hu]
        rw [hb1, if_neg (by simp), List.append_nil] at htk
        rw [hu] at hun
        repeat' first | refine wr (by omega) ?_ | refine ln ?_ | refine stp lay_ok rfl ?_ | refine fin ?_ | refine n_thn ?_ | refine n_blk ?_ | refine e_thn ?_ | refine e_hit ?_ | refine e_miss rfl ?_ | refine r_thn ?_ | refine r_blk ?_ | refine e_rr ?_ | refine r_rr ?_ | refine e_cr ?_ | refine r_cr ?_ | refine .seq ?_ | refine reg ?_ | refine .block ?_ | refine .skip ?_ | refine .ret ?_ | refine .exit ?_ | refine cndT rfl ?_ | refine cndF rfl ?_ | refine c_dec rfl (fun hc => ?_) (fun hc => ?_) | refine c_ndec rfl (fun hc => ?_) (fun hc => ?_) | refine cnd rfl (fun hc => ?_) (fun hc => ?_) | ((first | refine o_none rfl ?_ | refine o_none_ ?_ | refine o_yes rfl rfl rfl ?_ | refine o_yes_ rfl rfl ?_); first | refine st_index (rowE ⟨p, z, ks⟩) lay_ok rfl rfl rfl rfl (by omega) hat ?_ | refine st_pure (hun) b44 rfl rfl rfl rfl ?_) | refine gd rfl rfl rfl (fun hg => ?_) (fun hg => ?_) | refine gn rfl rfl rfl (fun hg => ?_) (fun hg => ?_)
        all_goals first
          | (exfalso; omega)
          | (exfalso; contradiction)
          | skip
        refine n_rr ((k + 1, out)) ?_ (.of [1] (by (repeat' first | exact trivial | refine And.intro ?_ ?_ | rfl | exact congrArg (fun z : Int => some (AV.st (.int .i64 z))) (show (k : Int) + 1 = ((k + 1 : Nat) : Int) by omega)); first | done | fail) (by (repeat' first | exact trivial | refine And.intro ?_ ?_ | rfl | exact congrArg (fun z : Int => some (AV.st (.int .i64 z))) (show (k : Int) + 1 = ((k + 1 : Nat) : Int) by omega)); first | done | fail) rfl) ?_
        · show l.length - (k + 1) < l.length - k; omega
        · exact ⟨hk', htk.symm, by omega⟩
      · have hb1 : belP t ⟨p, z, ks⟩ = true := by simp [belP, hu]
        rw [if_pos hb1] at htk
        rw [hu] at hun
        repeat' first | refine wr (by omega) ?_ | refine ln ?_ | refine stp lay_ok rfl ?_ | refine fin ?_ | refine n_thn ?_ | refine n_blk ?_ | refine e_thn ?_ | refine e_hit ?_ | refine e_miss rfl ?_ | refine r_thn ?_ | refine r_blk ?_ | refine e_rr ?_ | refine r_rr ?_ | refine e_cr ?_ | refine r_cr ?_ | refine .seq ?_ | refine reg ?_ | refine .block ?_ | refine .skip ?_ | refine .ret ?_ | refine .exit ?_ | refine cndT rfl ?_ | refine cndF rfl ?_ | refine c_dec rfl (fun hc => ?_) (fun hc => ?_) | refine c_ndec rfl (fun hc => ?_) (fun hc => ?_) | refine cnd rfl (fun hc => ?_) (fun hc => ?_) | ((first | refine o_none rfl ?_ | refine o_none_ ?_ | refine o_yes rfl rfl rfl ?_ | refine o_yes_ rfl rfl ?_); first | refine st_index (rowE ⟨p, z, ks⟩) lay_ok rfl rfl rfl rfl (by omega) hat ?_ | refine st_pure (hun) b44 rfl rfl rfl rfl ?_ | refine st_append lay_ok rfl rfl rfl rfl rfl rfl rfl rfl (.lsl rfl rfl) .sl rfl (rowS_one (b := [p])) (by simp only [List.length_cons, List.length_nil]; omega) (by simp only [List.length_cons, List.length_nil]; omega) ?_) | refine gd rfl rfl rfl (fun hg => ?_) (fun hg => ?_) | refine gn rfl rfl rfl (fun hg => ?_) (fun hg => ?_)
        all_goals first
          | (exfalso; omega)
          | (exfalso; contradiction)
          | skip
        rw [hr]
        refine n_rr ((k + 1, out ++ [p])) ?_ (.of [3] (by (repeat' first | exact trivial | refine And.intro ?_ ?_ | rfl | exact congrArg (fun z : Int => some (AV.st (.int .i64 z))) (show (k : Int) + 1 = ((k + 1 : Nat) : Int) by omega)); first | done | fail) (by (repeat' first | exact trivial | refine And.intro ?_ ?_ | rfl | exact congrArg (fun z : Int => some (AV.st (.int .i64 z))) (show (k : Int) + 1 = ((k + 1 : Nat) : Int) by omega)); first | done | fail) rfl) ?_
        · show l.length - (k + 1) < l.length - k; omega
        · exact ⟨hk', htk.symm, by simp; omega⟩
end Go.Proofs.YtmekcbbieacioaaGreatDoorFn
namespace Go.Proofs.YtmekcbbieacioaaGreatDoorFn
open Go Go.Proofs Go.Shelf Go.RowKit
def joinLay_ren : Go.Shelf.Ren := ⟨fun | 156 => 69 | 165 => 91 | 166 => 92 | 169 => 93 | 240 => 106 | 241 => 107 | 276 => 111 | 277 => 112 | n => n, fun | 31 => 39 | 9 => 9 | 3 => 3 | 4 => 4 | 0 => 0 | 20 => 20 | 72 => 133 | 76 => 135 | 70 => 130 | 37 => 131 | 75 => 29 | 127 => 163 | 164 => 103 | 5 => 5 | 80 => 137 | n => n, fun | n => n⟩
theorem joinLay : Go.Proofs.Lays.n156 Go.Proofs.Tryz.prog joinLay_ren where
  mixed := by kernel_rfl
  f156 := Tryz.func69.trans (congrArg some (by kernel_rfl))
  f165 := Tryz.func91.trans (congrArg some (by kernel_rfl))
  f166 := Tryz.func92.trans (congrArg some (by kernel_rfl))
  f169 := Tryz.func93.trans (congrArg some (by kernel_rfl))
  f240 := Tryz.func106.trans (congrArg some (by kernel_rfl))
  f241 := Tryz.func107.trans (congrArg some (by kernel_rfl))
  f276 := Tryz.func111.trans (congrArg some (by kernel_rfl))
  f277 := Tryz.func112.trans (congrArg some (by kernel_rfl))
  t0 := Tryz.underlying0
  a0 := Tryz.isAgg0
  z0 := Tryz.sizeOf0
  v0 := Tryz.zeroValue0
  t3 := Tryz.underlying3
  a3 := Tryz.isAgg3
  z3 := Tryz.sizeOf3
  v3 := Tryz.zeroValue3
  t4 := Tryz.underlying4
  a4 := Tryz.isAgg4
  z4 := Tryz.sizeOf4
  v4 := Tryz.zeroValue4
  t9 := Tryz.underlying9
  a9 := Tryz.isAgg9
  z9 := Tryz.sizeOf9
  v9 := Tryz.zeroValue9
  t20 := Tryz.underlying20
  a20 := Tryz.isAgg20
  z20 := Tryz.sizeOf20
  v20 := Tryz.zeroValue20
  t31 := Tryz.underlying39
  a31 := Tryz.isAgg39
  z31 := Tryz.sizeOf39
  v31 := Tryz.zeroValue39
  t37 := Tryz.underlying131
  a37 := Tryz.isAgg131
  z37 := Tryz.sizeOf131
  v37 := Tryz.zeroValue131
  t70 := Tryz.underlying130
  a70 := Tryz.isAgg130
  z70 := Tryz.sizeOf130
  v70 := Tryz.zeroValue130
  t72 := Tryz.underlying133
  a72 := Tryz.isAgg133
  z72 := Tryz.sizeOf133
  v72 := Tryz.zeroValue133
  t75 := Tryz.underlying29
  a75 := Tryz.isAgg29
  z75 := Tryz.sizeOf29
  v75 := Tryz.zeroValue29
  t76 := Tryz.underlying135
  a76 := Tryz.isAgg135
  z76 := Tryz.sizeOf135
  v76 := Tryz.zeroValue135
  t127 := Tryz.underlying163
  a127 := Tryz.isAgg163
  z127 := Tryz.sizeOf163
  v127 := Tryz.zeroValue163
  t164 := Tryz.underlying103
  a164 := Tryz.isAgg103
  z164 := Tryz.sizeOf103
  v164 := Tryz.zeroValue103
end Go.Proofs.YtmekcbbieacioaaGreatDoorFn
namespace Go.Proofs.YtmekcbbieacioaaGreatDoorFn
open Go.Proofs.YtmekcbbieacioaaGreatDoorAl Go.Proofs.Tryz Go.Proofs
/-! ### strings.Join, by the library's contract -/
theorem joinX : Builder.Extra prog joinLay_ren where
  sizeBuilder := by kernel_rfl
  liesBuilder := by kernel_rfl
  t5 := underlying5
  a5 := isAgg5
  z5 := sizeOf5
  v5 := zeroValue5
  infoByte := by kernel_rfl
  cellsByte := by kernel_rfl
  sizeByte := by kernel_rfl
  neB5 := by decide
/-- Texts, one behind the other. -/
def joinB (ks : List ByteArray) : ByteArray := ⟨(ks.flatMap fun k => k.data.toList).toArray⟩
theorem inter_flat : ∀ l : List (List UInt8), (l.intersperse []).flatten = l.flatten
  | [] => rfl
  | [x] => rfl
  | x :: y :: r => by
    have := inter_flat (y :: r)
    rw [List.intersperse_cons₂, List.flatten_cons, List.flatten_cons, this, List.nil_append, List.flatten_cons (l := x)]
theorem join_flat (l : List (List UInt8)) : Lib.join l [] = l.flatten := inter_flat l
theorem joinB_eq (ks : List ByteArray) : (⟨(Lib.join (ks.map (·.data.toList)) (⟨#[]⟩ : ByteArray).data.toList).toArray⟩ : ByteArray) = joinB ks := by
  unfold joinB
  rw [show (⟨#[]⟩ : ByteArray).data.toList = [] from rfl, join_flat, List.flatMap_def]
theorem joinB_size (ks : List ByteArray) : (joinB ks).size = (ks.flatMap fun k => k.data.toList).length := by
  unfold joinB
  show (Array.size (List.toArray _)) = _
  rw [List.size_toArray]
theorem sJoin_ok (ks : List ByteArray) (hk : ks.length ≤ 140737488355328) (hs : (joinB ks).size ≤ 140737488355328) :
    ACalls prog 69 0 [.st (.sl 1 (ks.map rowS)), Sx ⟨#[]⟩] [] fun r h => r = Sx (joinB ks) ∧ h = [] := by
  refine ACalls.raw0 (svs := [.sl 1 (ks.map rowS), .str ⟨#[]⟩]) fun St w vals hst hv => ?_
  cases hv with
  | cons _ v1 _ vs a1 hv =>
  cases hv with
  | cons _ v2 _ vs a2 hv =>
  cases hv
  cases a2
  rw [joinB_size, List.flatMap_def, ← join_flat] at hs
  rw [← joinB_eq]
  have hm : (ks.map rowS).length = ks.length := List.length_map _
  generalize hrow : ks.map rowS = rows at *
  cases a1 with
  | slnil k a cap =>
    have hk0 : ks = [] := by
      cases ks with
      | nil => rfl
      | cons _ _ => cases hrow
    subst hk0
    exact (Any.strings_Join_none joinLay joinX a cap ⟨#[]⟩ w).mono fun e w' ⟨he, hw⟩ => ⟨⟨_, he, fun c => .st _ _ (.str _)⟩, hw ▸ RowKit.Below.refl _ _⟩
  | sl k b off cap _ hb hr hc =>
    have hcells : ∀ (j : Nat) x, ks[j]? = some x → w.cell? ⟨b, off + j, none⟩ = some (.string x) := fun j x hx => by
      obtain ⟨_, h2⟩ := hr.get j [.str x] (by rw [← hrow, List.getElem?_map, hx]; rfl)
      rw [Nat.mul_one] at h2
      cases h2 with
      | cons _ _ _ v _ h3 h4 _ => cases h4; exact h3
    rw [hm]
    exact (Any.strings_Join joinLay joinX b off cap ks ⟨#[]⟩ w hcells (hst b hb) hk (by omega) hs).mono fun e w' ⟨he, hw⟩ => ⟨⟨_, he, fun c => .st _ _ (.str _)⟩, hw⟩
end Go.Proofs.YtmekcbbieacioaaGreatDoorFn
namespace Go.Proofs.YtmekcbbieacioaaGreatDoorFn
open Go.Proofs.YtmekcbbieacioaaGreatDoorAl Go.Proofs.Tryz
attribute [local irreducible] IntKind.wrap CodeOk OpsL OpG ACalls thn inBlk rndR cutR WkR Wk fnR DW ExtOk partsOf
theorem b69 : HasBody prog 69 := ⟨f69, func69, Option.some_ne_none _, by decide⟩
theorem b48 : HasBody prog 48 := ⟨f48, func48, Option.some_ne_none _, by decide⟩
theorem b49 : HasBody prog 49 := ⟨f49, func49, Option.some_ne_none _, by decide⟩
theorem b23 : HasBody prog 23 := ⟨f23, func23, Option.some_ne_none _, by decide⟩
/-! ### a set of texts, as a map -/
def ent (k : ByteArray) : SV × SV := (.str k, .bool true)
def memB (k : ByteArray) (S : List ByteArray) : Bool := S.any fun x => decide (k = x)
theorem memB_iff {k : ByteArray} {S : List ByteArray} : memB k S = true ↔ k ∈ S := by
  unfold memB; rw [List.any_eq_true]
  exact ⟨fun ⟨x, h, e⟩ => by rw [of_decide_eq_true e]; exact h, fun h => ⟨k, h, decide_eq_true rfl⟩⟩
theorem memB_cons (k a : ByteArray) (S : List ByteArray) : memB k (a :: S) = (decide (k = a) || memB k S) := rfl
def addS (S : List ByteArray) (k : ByteArray) : List ByteArray := if memB k S = true then S else S ++ [k]
theorem mput_ent (k : ByteArray) : ∀ S : List ByteArray, mput (.str k) (.bool true) (S.map ent) = (addS S k).map ent
  | [] => rfl
  | a :: S => by
    have ih := mput_ent k S
    unfold addS at ih ⊢
    rw [memB_cons]
    simp only [List.map_cons, ent, mput, skEq, decide_eq_true_eq]
    by_cases h : k = a
    · subst h; simp [ent]
    · rw [if_neg h, decide_eq_false h, Bool.false_or]
      show _ :: mput (.str k) (.bool true) (S.map ent) = _
      rw [ih]
      cases memB k S <;> simp [ent]
theorem mfind_ent (k : ByteArray) : ∀ S : List ByteArray, mfind (.str k) (S.map ent) = if memB k S = true then some (.bool true) else none
  | [] => rfl
  | a :: S => by
    have ih := mfind_ent k S
    rw [memB_cons]
    simp only [List.map_cons, ent, mfind, skEq, decide_eq_true_eq]
    by_cases h : k = a
    · subst h; simp
    · rw [if_neg h, decide_eq_false h, Bool.false_or]
      exact ih
theorem kind_ent (S : List ByteArray) : ∀ e ∈ S.map ent, kindK .string e.1 = true := fun e he => by
  obtain ⟨k, _, rfl⟩ := List.mem_map.1 he
  rfl
theorem mem_addS {S : List ByteArray} {k x : ByteArray} : memB x (addS S k) = (memB x S || decide (x = k)) := by
  unfold addS
  cases h : memB k S with
  | true =>
    rw [if_pos rfl]
    by_cases hx : x = k
    · subst hx; rw [h]; rfl
    · rw [decide_eq_false hx, Bool.or_false]
  | false =>
    rw [if_neg (by simp)]
    unfold memB
    rw [List.any_append]; simp
abbrev setH (S : List ByteArray) : Heap := [(0, .cells [.map 1]), (1, .map (S.map ent))]
abbrev fnR1 : AV := .fn (.func 48) [] [.ptr 0 0]
theorem rest1_ok (S : List ByteArray) (k : ByteArray) : ACalls prog 48 2 [Sx k, .ptr 0 0] (setH S) fun r h => r = B (!memB k S) ∧ h = setH S := by
  have hk := kind_ent S
  have hf := mfind_ent k S
  refine fnC lay_ok func48 rfl rfl rfl rfl rfl ?_
  cases h : memB k S <;> rw [h] at hf
  rotate_left
  · rw [if_pos rfl] at hf
    repeat' first | refine wr (by omega) ?_ | refine ln ?_ | refine stp lay_ok rfl ?_ | refine fin ?_ | refine n_thn ?_ | refine n_blk ?_ | refine e_thn ?_ | refine e_hit ?_ | refine e_miss rfl ?_ | refine r_thn ?_ | refine r_blk ?_ | refine e_rr ?_ | refine r_rr ?_ | refine e_cr ?_ | refine r_cr ?_ | refine .seq ?_ | refine reg ?_ | refine .block ?_ | refine .skip ?_ | refine .ret ?_ | refine .exit ?_ | refine cndT rfl ?_ | refine cndF rfl ?_ | refine c_dec rfl (fun hc => ?_) (fun hc => ?_) | refine c_ndec rfl (fun hc => ?_) (fun hc => ?_) | refine cnd rfl (fun hc => ?_) (fun hc => ?_) | ((first | refine o_none rfl ?_ | refine o_none_ ?_ | refine o_yes rfl rfl rfl ?_ | refine o_yes_ rfl rfl ?_); first | refine st_lookup (.bool true) lay_ok rfl rfl rfl rfl rfl rfl rfl rfl rfl hk (by rw [hf]; rfl) ?_) | refine gd rfl rfl rfl (fun hg => ?_) (fun hg => ?_) | refine gn rfl rfl rfl (fun hg => ?_) (fun hg => ?_)
    refine f_r [(0, .cells [.map 1]), (1, .map (S.map ent))] rfl (by (repeat' first | exact trivial | refine And.intro ?_ ?_ | rfl); first | done | fail) rfl ⟨?_, rfl⟩
    simp [retOf, h]
  · rw [if_neg (by simp)] at hf
    repeat' first | refine wr (by omega) ?_ | refine ln ?_ | refine stp lay_ok rfl ?_ | refine fin ?_ | refine n_thn ?_ | refine n_blk ?_ | refine e_thn ?_ | refine e_hit ?_ | refine e_miss rfl ?_ | refine r_thn ?_ | refine r_blk ?_ | refine e_rr ?_ | refine r_rr ?_ | refine e_cr ?_ | refine r_cr ?_ | refine .seq ?_ | refine reg ?_ | refine .block ?_ | refine .skip ?_ | refine .ret ?_ | refine .exit ?_ | refine cndT rfl ?_ | refine cndF rfl ?_ | refine c_dec rfl (fun hc => ?_) (fun hc => ?_) | refine c_ndec rfl (fun hc => ?_) (fun hc => ?_) | refine cnd rfl (fun hc => ?_) (fun hc => ?_) | ((first | refine o_none rfl ?_ | refine o_none_ ?_ | refine o_yes rfl rfl rfl ?_ | refine o_yes_ rfl rfl ?_); first | refine st_lookup (.bool false) lay_ok rfl rfl rfl rfl rfl rfl rfl rfl rfl hk (by rw [hf]; rfl) ?_) | refine gd rfl rfl rfl (fun hg => ?_) (fun hg => ?_) | refine gn rfl rfl rfl (fun hg => ?_) (fun hg => ?_)
    refine f_r [(0, .cells [.map 1]), (1, .map (S.map ent))] rfl (by (repeat' first | exact trivial | refine And.intro ?_ ?_ | rfl); first | done | fail) rfl ⟨?_, rfl⟩
    simp [retOf, h]
set_option maxHeartbeats 1000000 in
theorem idxR_ok (S : List ByteArray) (l : List ByteArray) (hl : l.length ≤ 4000000000) : ACalls prog 68 2 [.st (.sl 1 (l.map rowS)), fnR1] (setH S) fun r h => r = I (fidx (fun k => !memB k S) l) ∧ h = setH S := by
  refine fnC lay_ok func68 rfl rfl rfl rfl rfl ?_
  repeat' first | refine wr (by omega) ?_ | refine ln ?_ | refine stp lay_ok rfl ?_ | refine fin ?_ | refine n_thn ?_ | refine n_blk ?_ | refine e_thn ?_ | refine e_hit ?_ | refine e_miss rfl ?_ | refine r_thn ?_ | refine r_blk ?_ | refine e_rr ?_ | refine r_rr ?_ | refine e_cr ?_ | refine r_cr ?_ | refine .seq ?_ | refine reg ?_ | refine .block ?_ | refine .skip ?_ | refine .ret ?_ | refine .exit ?_ | refine cndT rfl ?_ | refine cndF rfl ?_ | refine c_dec rfl (fun hc => ?_) (fun hc => ?_) | refine c_ndec rfl (fun hc => ?_) (fun hc => ?_) | refine cnd rfl (fun hc => ?_) (fun hc => ?_) | refine gd rfl rfl rfl (fun hg => ?_) (fun hg => ?_) | refine gn rfl rfl rfl (fun hg => ?_) (fun hg => ?_)
  refine lpR (fun k => k ≤ l.length ∧ ∀ j (h : j < k), ∀ h2 : j < l.length, (!memB l[j] S) = false) (fun k => l.length - k) (fun k => [(8, I k)]) (fun k => []) (0) [0, 1, 7] [] [] rfl rfl rfl (.of [] (by (repeat' first | exact trivial | refine And.intro ?_ ?_ | rfl); first | done | fail) (by (repeat' first | exact trivial | refine And.intro ?_ ?_ | rfl); first | done | fail) rfl) ?_ ?_
  · exact ⟨Nat.zero_le _, fun j h => by omega⟩
  rintro k ⟨hk, hall⟩
  refine nrm rfl rfl ?_
  have hm : (List.map rowS l).length = l.length := List.length_map _
  by_cases hk' : k < l.length
  case neg =>
    repeat' first | refine wr (by omega) ?_ | refine ln ?_ | refine stp lay_ok rfl ?_ | refine fin ?_ | refine n_thn ?_ | refine n_blk ?_ | refine e_thn ?_ | refine e_hit ?_ | refine e_miss rfl ?_ | refine r_thn ?_ | refine r_blk ?_ | refine e_rr ?_ | refine r_rr ?_ | refine e_cr ?_ | refine r_cr ?_ | refine .seq ?_ | refine reg ?_ | refine .block ?_ | refine .skip ?_ | refine .ret ?_ | refine .exit ?_ | refine cndT rfl ?_ | refine cndF rfl ?_ | refine c_dec rfl (fun hc => ?_) (fun hc => ?_) | refine c_ndec rfl (fun hc => ?_) (fun hc => ?_) | refine cnd rfl (fun hc => ?_) (fun hc => ?_) | refine gd rfl rfl rfl (fun hg => ?_) (fun hg => ?_) | refine gn rfl rfl rfl (fun hg => ?_) (fun hg => ?_)
    all_goals first
      | (exfalso; omega)
      | skip
    refine f_r [(0, .cells [.map 1]), (1, .map (S.map ent))] rfl (by (repeat' first | exact trivial | refine And.intro ?_ ?_ | rfl); first | done | fail) rfl ⟨?_, rfl⟩
    rw [fidx_none _ l (fun j h => hall j (by omega) h)]; rfl
  have hat := at_rowS hk'
  have h1 := rest1_ok S l[k]
  cases hp : memB l[k] S with
  | false =>
    rw [hp] at h1
    repeat' first | refine wr (by omega) ?_ | refine ln ?_ | refine stp lay_ok rfl ?_ | refine fin ?_ | refine n_thn ?_ | refine n_blk ?_ | refine e_thn ?_ | refine e_hit ?_ | refine e_miss rfl ?_ | refine r_thn ?_ | refine r_blk ?_ | refine e_rr ?_ | refine r_rr ?_ | refine e_cr ?_ | refine r_cr ?_ | refine .seq ?_ | refine reg ?_ | refine .block ?_ | refine .skip ?_ | refine .ret ?_ | refine .exit ?_ | refine cndT rfl ?_ | refine cndF rfl ?_ | refine c_dec rfl (fun hc => ?_) (fun hc => ?_) | refine c_ndec rfl (fun hc => ?_) (fun hc => ?_) | refine cnd rfl (fun hc => ?_) (fun hc => ?_) | ((first | refine o_none rfl ?_ | refine o_none_ ?_ | refine o_yes rfl rfl rfl ?_ | refine o_yes_ rfl rfl ?_); first | refine st_index (rowS l[k]) lay_ok rfl rfl rfl rfl (by omega) hat ?_ | refine st_callK [0,1] (h1) b48 rfl rfl rfl rfl rfl (by (repeat' first | exact trivial | refine And.intro ?_ ?_ | rfl); first | done | fail) ?_) | refine gd rfl rfl rfl (fun hg => ?_) (fun hg => ?_) | refine gn rfl rfl rfl (fun hg => ?_) (fun hg => ?_)
    all_goals first
      | (exfalso; omega)
      | skip
    refine f_r [(0, .cells [.map 1]), (1, .map (S.map ent))] rfl (by (repeat' first | exact trivial | refine And.intro ?_ ?_ | rfl); first | done | fail) rfl ⟨?_, rfl⟩
    rw [fidx_step _ l k hk' (fun j h => hall j h _) (by rw [hp]; rfl)]; rfl
  | true =>
    rw [hp] at h1
    repeat' first | refine wr (by omega) ?_ | refine ln ?_ | refine stp lay_ok rfl ?_ | refine fin ?_ | refine n_thn ?_ | refine n_blk ?_ | refine e_thn ?_ | refine e_hit ?_ | refine e_miss rfl ?_ | refine r_thn ?_ | refine r_blk ?_ | refine e_rr ?_ | refine r_rr ?_ | refine e_cr ?_ | refine r_cr ?_ | refine .seq ?_ | refine reg ?_ | refine .block ?_ | refine .skip ?_ | refine .ret ?_ | refine .exit ?_ | refine cndT rfl ?_ | refine cndF rfl ?_ | refine c_dec rfl (fun hc => ?_) (fun hc => ?_) | refine c_ndec rfl (fun hc => ?_) (fun hc => ?_) | refine cnd rfl (fun hc => ?_) (fun hc => ?_) | ((first | refine o_none rfl ?_ | refine o_none_ ?_ | refine o_yes rfl rfl rfl ?_ | refine o_yes_ rfl rfl ?_); first | refine st_index (rowS l[k]) lay_ok rfl rfl rfl rfl (by omega) hat ?_ | refine st_callK [0,1] (h1) b48 rfl rfl rfl rfl rfl (by (repeat' first | exact trivial | refine And.intro ?_ ?_ | rfl); first | done | fail) ?_) | refine gd rfl rfl rfl (fun hg => ?_) (fun hg => ?_) | refine gn rfl rfl rfl (fun hg => ?_) (fun hg => ?_)
    all_goals first
      | (exfalso; omega)
      | skip
    refine n_rr (k + 1) ?_ (.of [] (by (repeat' first | exact trivial | refine And.intro ?_ ?_ | rfl); first | done | fail) (by (repeat' first | exact trivial | refine And.intro ?_ ?_ | rfl); first | done | fail) rfl) ?_
    · omega
    · refine ⟨hk', fun j h h2 => ?_⟩
      by_cases hj : j = k
      · subst hj; rw [hp]; rfl
      · exact hall j (by omega) h2
theorem conR_ok (S : List ByteArray) (l : List ByteArray) (hl : l.length ≤ 4000000000) : ACalls prog 47 2 [.st (.sl 1 (l.map rowS)), fnR1] (setH S) fun r h => r = B (l.any fun k => !memB k S) ∧ h = setH S := by
  have h1 := idxR_ok S l hl
  refine fnC lay_ok func47 rfl rfl rfl rfl rfl ?_
  repeat' first | refine wr (by omega) ?_ | refine ln ?_ | refine stp lay_ok rfl ?_ | refine fin ?_ | refine n_thn ?_ | refine n_blk ?_ | refine e_thn ?_ | refine e_hit ?_ | refine e_miss rfl ?_ | refine r_thn ?_ | refine r_blk ?_ | refine e_rr ?_ | refine r_rr ?_ | refine e_cr ?_ | refine r_cr ?_ | refine .seq ?_ | refine reg ?_ | refine .block ?_ | refine .skip ?_ | refine .ret ?_ | refine .exit ?_ | refine cndT rfl ?_ | refine cndF rfl ?_ | refine c_dec rfl (fun hc => ?_) (fun hc => ?_) | refine c_ndec rfl (fun hc => ?_) (fun hc => ?_) | refine cnd rfl (fun hc => ?_) (fun hc => ?_) | ((first | refine o_none rfl ?_ | refine o_none_ ?_ | refine o_yes rfl rfl rfl ?_ | refine o_yes_ rfl rfl ?_); first | refine st_callK [0,1] (h1) b68 rfl rfl rfl rfl rfl (by (repeat' first | exact trivial | refine And.intro ?_ ?_ | rfl); first | done | fail) ?_) | refine gd rfl rfl rfl (fun hg => ?_) (fun hg => ?_) | refine gn rfl rfl rfl (fun hg => ?_) (fun hg => ?_)
  refine f_r [(0, .cells [.map 1]), (1, .map (S.map ent))] rfl (by (repeat' first | exact trivial | refine And.intro ?_ ?_ | rfl); first | done | fail) rfl ⟨?_, rfl⟩
  rw [← fidx_any]; rfl
theorem cJoin_ok (ks : List ByteArray) (hk : ks.length ≤ 140737488355328) (hs : (joinB ks).size ≤ 140737488355328) : ACalls prog 49 0 [.st (.sl 1 (ks.map rowS))] [] fun r h => r = Sx (joinB ks) ∧ h = [] := by
  have h1 := sJoin_ok ks hk hs
  refine fnC lay_ok func49 rfl rfl rfl rfl rfl ?_
  repeat' first | refine wr (by omega) ?_ | refine ln ?_ | refine stp lay_ok rfl ?_ | refine fin ?_ | refine n_thn ?_ | refine n_blk ?_ | refine e_thn ?_ | refine e_hit ?_ | refine e_miss rfl ?_ | refine r_thn ?_ | refine r_blk ?_ | refine e_rr ?_ | refine r_rr ?_ | refine e_cr ?_ | refine r_cr ?_ | refine .seq ?_ | refine reg ?_ | refine .block ?_ | refine .skip ?_ | refine .ret ?_ | refine .exit ?_ | refine cndT rfl ?_ | refine cndF rfl ?_ | refine c_dec rfl (fun hc => ?_) (fun hc => ?_) | refine c_ndec rfl (fun hc => ?_) (fun hc => ?_) | refine cnd rfl (fun hc => ?_) (fun hc => ?_) | ((first | refine o_none rfl ?_ | refine o_none_ ?_ | refine o_yes rfl rfl rfl ?_ | refine o_yes_ rfl rfl ?_); first | refine st_pure (h1) b69 rfl rfl rfl rfl ?_) | refine gd rfl rfl rfl (fun hg => ?_) (fun hg => ?_) | refine gn rfl rfl rfl (fun hg => ?_) (fun hg => ?_)
  refine f_r [] rfl trivial rfl ⟨?_, rfl⟩
  rfl
end Go.Proofs.YtmekcbbieacioaaGreatDoorFn
namespace Go.Proofs.YtmekcbbieacioaaGreatDoorFn
open Go.Proofs.YtmekcbbieacioaaGreatDoorAl Go.Proofs.Tryz
attribute [local irreducible] IntKind.wrap CodeOk OpsL OpG ACalls thn inBlk rndR cutR WkR Wk fnR DW ExtOk partsOf
theorem b104 : HasBody prog 104 := ⟨f104, func104, Option.some_ne_none _, by decide⟩
theorem b105 : HasBody prog 105 := ⟨f105, func105, Option.some_ne_none _, by decide⟩
theorem b88 : HasBody prog 88 := ⟨f88, func88, Option.some_ne_none _, by decide⟩
theorem get_some {s : ByteArray} {p : Nat} (h : p < s.size) : s[p]? = some (s.get! p) := by
  rw [getElem?_pos s p h]; congr 1
  show s.get p h = s.get! p
  simp only [ByteArray.get, ByteArray.get!]
  exact (getElem!_pos s.data p h).symm
/-- The bytes behind the first one of a character. -/
def wLoop (s : ByteArray) (p : Nat) : Nat → Nat → Int → Option Int
  | 0, _, v => some v
  | f + 1, i, v => if (s.get! (p + i)).toNat < 128 ∨ 191 < (s.get! (p + i)).toNat then none else wLoop s p f (i + 1) (v * 64 + (s.get! (p + i)).toNat - 128)
def wEnd (s : ByteArray) (p n least : Nat) (v : Int) : Nat :=
  if s.size < p + n then 0 else match wLoop s p (n - 1) 1 v with
    | none => 0
    | some v => if v < (least : Int) ∨ 1114111 < v ∨ (55296 ≤ v ∧ v ≤ 57343) ∨ v = 65533 then 0 else n
def widthR (s : ByteArray) (p : Nat) : Nat :=
  if (s.get! p).toNat < 128 then 1
  else if 192 ≤ (s.get! p).toNat ∧ (s.get! p).toNat < 224 then wEnd s p 2 128 (((s.get! p).toNat : Int) - 192)
  else if 224 ≤ (s.get! p).toNat ∧ (s.get! p).toNat < 240 then wEnd s p 3 2048 (((s.get! p).toNat : Int) - 224)
  else if 240 ≤ (s.get! p).toNat ∧ (s.get! p).toNat < 248 then wEnd s p 4 65536 (((s.get! p).toNat : Int) - 240)
  else 0
set_option maxHeartbeats 4000000 in
set_option maxRecDepth 4000 in
theorem width_ok (s : ByteArray) (p : Nat) (hs : s.size ≤ 4000000000) (hp : p < s.size) : ACalls prog 104 0 [Sx s, I p] [] fun r h => r = I (widthR s p) ∧ h = [] := by
  have ha := get_some hp
  have hla := (s.get! p).toNat_lt
  have hw : widthR s p = if (s.get! p).toNat < 128 then 1
    else if 192 ≤ (s.get! p).toNat ∧ (s.get! p).toNat < 224 then wEnd s p 2 128 (((s.get! p).toNat : Int) - 192)
    else if 224 ≤ (s.get! p).toNat ∧ (s.get! p).toNat < 240 then wEnd s p 3 2048 (((s.get! p).toNat : Int) - 224)
    else if 240 ≤ (s.get! p).toNat ∧ (s.get! p).toNat < 248 then wEnd s p 4 65536 (((s.get! p).toNat : Int) - 240)
    else 0 := rfl
  generalize widthR s p = W at *
  generalize s.get! p = a at *
  refine fnC lay_ok func104 rfl rfl rfl rfl rfl ?_
  by_cases h1 : a.toNat < 128
  · rw [if_pos h1] at hw
    repeat' first | refine wr (by omega) ?_ | refine ln ?_ | refine stp lay_ok rfl ?_ | refine fin ?_ | refine n_thn ?_ | refine n_blk ?_ | refine e_thn ?_ | refine e_hit ?_ | refine e_miss rfl ?_ | refine r_thn ?_ | refine r_blk ?_ | refine e_rr ?_ | refine r_rr ?_ | refine e_cr ?_ | refine r_cr ?_ | refine .seq ?_ | refine reg ?_ | refine .block ?_ | refine .skip ?_ | refine .ret ?_ | refine .exit ?_ | refine cndT rfl ?_ | refine cndF rfl ?_ | refine c_dec rfl (fun hc => ?_) (fun hc => ?_) | refine c_ndec rfl (fun hc => ?_) (fun hc => ?_) | refine cnd rfl (fun hc => ?_) (fun hc => ?_) | ((first | refine o_none rfl ?_ | refine o_none_ ?_ | refine o_yes rfl rfl rfl ?_ | refine o_yes_ rfl rfl ?_); first | refine st_indexStr a lay_ok rfl rfl rfl rfl (by omega) ha ?_) | refine gd rfl rfl rfl (fun hg => ?_) (fun hg => ?_) | refine gn rfl rfl rfl (fun hg => ?_) (fun hg => ?_)
    all_goals first
      | (exfalso; omega)
      | (refine f_r [] rfl trivial rfl ⟨?_, rfl⟩; rw [hw]; rfl)
  rw [if_neg h1] at hw
  by_cases h2 : 192 ≤ a.toNat ∧ a.toNat < 224
  · rw [if_pos h2] at hw
    repeat' first | refine wr (by omega) ?_ | refine ln ?_ | refine stp lay_ok rfl ?_ | refine fin ?_ | refine n_thn ?_ | refine n_blk ?_ | refine e_thn ?_ | refine e_hit ?_ | refine e_miss rfl ?_ | refine r_thn ?_ | refine r_blk ?_ | refine e_rr ?_ | refine r_rr ?_ | refine e_cr ?_ | refine r_cr ?_ | refine .seq ?_ | refine reg ?_ | refine .block ?_ | refine .skip ?_ | refine .ret ?_ | refine .exit ?_ | refine cndT rfl ?_ | refine cndF rfl ?_ | refine c_dec rfl (fun hc => ?_) (fun hc => ?_) | refine c_ndec rfl (fun hc => ?_) (fun hc => ?_) | refine cnd rfl (fun hc => ?_) (fun hc => ?_) | ((first | refine o_none rfl ?_ | refine o_none_ ?_ | refine o_yes rfl rfl rfl ?_ | refine o_yes_ rfl rfl ?_); first | refine st_indexStr a lay_ok rfl rfl rfl rfl (by omega) ha ?_) | refine gd rfl rfl rfl (fun hg => ?_) (fun hg => ?_) | refine gn rfl rfl rfl (fun hg => ?_) (fun hg => ?_)
    all_goals first
      | (exfalso; omega)
      | (refine f_r [] rfl trivial rfl ⟨?_, rfl⟩; rw [hw, wEnd, if_pos (by omega)]; rfl)
      | skip
    have hsz : ¬ s.size < p + 2 := by omega
    rw [wEnd, if_neg hsz] at hw
    generalize hK : wLoop s p (2 - 1) 1 ((a.toNat : Int) - 192) = K at hw
    refine lpR (fun (i, v) => K = wLoop s p (2 - i) i v ∧ (i = 1 ∧ v < 32 ∨ i = 2 ∧ v < 2048 ∨ i = 3 ∧ v < 131072 ∨ i = 4 ∧ v < 8388608) ∧ 0 ≤ v ∧ i ≤ 2) (fun (i, v) => 2 - i) (fun (i, v) => [(9, I i), (8, .st (.int .i64 v))]) (fun (i, v) => []) ((1, (a.toNat : Int) - 192)) [0, 1, 6, 7] [] [] rfl rfl rfl (.of [] (by (repeat' first | exact trivial | refine And.intro ?_ ?_ | rfl); first | done | fail) (by (repeat' first | exact trivial | refine And.intro ?_ ?_ | rfl); first | done | fail) rfl) ?_ ?_
    · exact ⟨hK.symm, by omega, by omega, by decide⟩
    rintro ⟨i, v⟩ ⟨g1, g2, g3, g4⟩
    refine nrm rfl rfl ?_
    rw [g1] at hw
    by_cases hi : i < 2
    · have hx := get_some (show p + i < s.size by omega)
      have hxl := (s.get! (p + i)).toNat_lt
      have hx' : s[((p : Int) + (i : Int)).toNat]? = some (s.get! (p + i)) := by rw [← hx]; congr 1
      rw [show 2 - i = (2 - (i + 1)) + 1 by omega, wLoop] at hw
      have hws := g1
      rw [show 2 - i = (2 - (i + 1)) + 1 by omega, wLoop] at hws
      generalize s.get! (p + i) = x at *
      by_cases hxx : x.toNat < 128 ∨ 191 < x.toNat
      · rw [if_pos hxx] at hw
        repeat' first | refine wr (by omega) ?_ | refine ln ?_ | refine stp lay_ok rfl ?_ | refine fin ?_ | refine n_thn ?_ | refine n_blk ?_ | refine e_thn ?_ | refine e_hit ?_ | refine e_miss rfl ?_ | refine r_thn ?_ | refine r_blk ?_ | refine e_rr ?_ | refine r_rr ?_ | refine e_cr ?_ | refine r_cr ?_ | refine .seq ?_ | refine reg ?_ | refine .block ?_ | refine .skip ?_ | refine .ret ?_ | refine .exit ?_ | refine cndT rfl ?_ | refine cndF rfl ?_ | refine c_dec rfl (fun hc => ?_) (fun hc => ?_) | refine c_ndec rfl (fun hc => ?_) (fun hc => ?_) | refine cnd rfl (fun hc => ?_) (fun hc => ?_) | ((first | refine o_none rfl ?_ | refine o_none_ ?_ | refine o_yes rfl rfl rfl ?_ | refine o_yes_ rfl rfl ?_); first | refine st_indexStr x lay_ok rfl rfl rfl rfl (by omega) hx' ?_) | refine gd rfl rfl rfl (fun hg => ?_) (fun hg => ?_) | refine gn rfl rfl rfl (fun hg => ?_) (fun hg => ?_)
        all_goals first
          | (exfalso; omega)
          | (refine f_r [] rfl trivial rfl ⟨?_, rfl⟩; rw [hw]; rfl)
      · rw [if_neg hxx] at hw hws
        repeat' first | refine wr (by omega) ?_ | refine ln ?_ | refine stp lay_ok rfl ?_ | refine fin ?_ | refine n_thn ?_ | refine n_blk ?_ | refine e_thn ?_ | refine e_hit ?_ | refine e_miss rfl ?_ | refine r_thn ?_ | refine r_blk ?_ | refine e_rr ?_ | refine r_rr ?_ | refine e_cr ?_ | refine r_cr ?_ | refine .seq ?_ | refine reg ?_ | refine .block ?_ | refine .skip ?_ | refine .ret ?_ | refine .exit ?_ | refine cndT rfl ?_ | refine cndF rfl ?_ | refine c_dec rfl (fun hc => ?_) (fun hc => ?_) | refine c_ndec rfl (fun hc => ?_) (fun hc => ?_) | refine cnd rfl (fun hc => ?_) (fun hc => ?_) | ((first | refine o_none rfl ?_ | refine o_none_ ?_ | refine o_yes rfl rfl rfl ?_ | refine o_yes_ rfl rfl ?_); first | refine st_indexStr x lay_ok rfl rfl rfl rfl (by omega) hx' ?_) | refine gd rfl rfl rfl (fun hg => ?_) (fun hg => ?_) | refine gn rfl rfl rfl (fun hg => ?_) (fun hg => ?_)
        all_goals first
          | (exfalso; omega)
          | skip
        refine n_rr ((i + 1, v * 64 + (x.toNat : Int) - 128)) ?_ (.of [] (by (repeat' first | exact trivial | refine And.intro ?_ ?_ | rfl); first | done | fail) (by (repeat' first | exact trivial | refine And.intro ?_ ?_ | rfl); first | done | fail) rfl) ?_
        · show 2 - (i + 1) < 2 - i; omega
        · exact ⟨hws, by omega, by omega, by omega⟩
    · have hi' : i = 2 := by omega
      subst hi'
      rw [Nat.sub_self, wLoop] at hw
      simp only at hw
      by_cases hv : v < ((128 : Nat) : Int) ∨ 1114111 < v ∨ (55296 ≤ v ∧ v ≤ 57343) ∨ v = 65533
      · rw [if_pos hv] at hw
        repeat' first | refine wr (by omega) ?_ | refine ln ?_ | refine stp lay_ok rfl ?_ | refine fin ?_ | refine n_thn ?_ | refine n_blk ?_ | refine e_thn ?_ | refine e_hit ?_ | refine e_miss rfl ?_ | refine r_thn ?_ | refine r_blk ?_ | refine e_rr ?_ | refine r_rr ?_ | refine e_cr ?_ | refine r_cr ?_ | refine .seq ?_ | refine reg ?_ | refine .block ?_ | refine .skip ?_ | refine .ret ?_ | refine .exit ?_ | refine cndT rfl ?_ | refine cndF rfl ?_ | refine c_dec rfl (fun hc => ?_) (fun hc => ?_) | refine c_ndec rfl (fun hc => ?_) (fun hc => ?_) | refine cnd rfl (fun hc => ?_) (fun hc => ?_) | refine gd rfl rfl rfl (fun hg => ?_) (fun hg => ?_) | refine gn rfl rfl rfl (fun hg => ?_) (fun hg => ?_)
        all_goals first
          | (exfalso; omega)
          | (refine f_r [] rfl trivial rfl ⟨?_, rfl⟩; rw [hw]; rfl)
      · rw [if_neg hv] at hw
        repeat' first | refine wr (by omega) ?_ | refine ln ?_ | refine stp lay_ok rfl ?_ | refine fin ?_ | refine n_thn ?_ | refine n_blk ?_ | refine e_thn ?_ | refine e_hit ?_ | refine e_miss rfl ?_ | refine r_thn ?_ | refine r_blk ?_ | refine e_rr ?_ | refine r_rr ?_ | refine e_cr ?_ | refine r_cr ?_ | refine .seq ?_ | refine reg ?_ | refine .block ?_ | refine .skip ?_ | refine .ret ?_ | refine .exit ?_ | refine cndT rfl ?_ | refine cndF rfl ?_ | refine c_dec rfl (fun hc => ?_) (fun hc => ?_) | refine c_ndec rfl (fun hc => ?_) (fun hc => ?_) | refine cnd rfl (fun hc => ?_) (fun hc => ?_) | refine gd rfl rfl rfl (fun hg => ?_) (fun hg => ?_) | refine gn rfl rfl rfl (fun hg => ?_) (fun hg => ?_)
        all_goals first
          | (exfalso; omega)
          | (refine f_r [] rfl trivial rfl ⟨?_, rfl⟩; rw [hw]; rfl)
  rw [if_neg h2] at hw
  by_cases h3 : 224 ≤ a.toNat ∧ a.toNat < 240
  · rw [if_pos h3] at hw
    repeat' first | refine wr (by omega) ?_ | refine ln ?_ | refine stp lay_ok rfl ?_ | refine fin ?_ | refine n_thn ?_ | refine n_blk ?_ | refine e_thn ?_ | refine e_hit ?_ | refine e_miss rfl ?_ | refine r_thn ?_ | refine r_blk ?_ | refine e_rr ?_ | refine r_rr ?_ | refine e_cr ?_ | refine r_cr ?_ | refine .seq ?_ | refine reg ?_ | refine .block ?_ | refine .skip ?_ | refine .ret ?_ | refine .exit ?_ | refine cndT rfl ?_ | refine cndF rfl ?_ | refine c_dec rfl (fun hc => ?_) (fun hc => ?_) | refine c_ndec rfl (fun hc => ?_) (fun hc => ?_) | refine cnd rfl (fun hc => ?_) (fun hc => ?_) | ((first | refine o_none rfl ?_ | refine o_none_ ?_ | refine o_yes rfl rfl rfl ?_ | refine o_yes_ rfl rfl ?_); first | refine st_indexStr a lay_ok rfl rfl rfl rfl (by omega) ha ?_) | refine gd rfl rfl rfl (fun hg => ?_) (fun hg => ?_) | refine gn rfl rfl rfl (fun hg => ?_) (fun hg => ?_)
    all_goals first
      | (exfalso; omega)
      | (refine f_r [] rfl trivial rfl ⟨?_, rfl⟩; rw [hw, wEnd, if_pos (by omega)]; rfl)
      | skip
    have hsz : ¬ s.size < p + 3 := by omega
    rw [wEnd, if_neg hsz] at hw
    generalize hK : wLoop s p (3 - 1) 1 ((a.toNat : Int) - 224) = K at hw
    refine lpR (fun (i, v) => K = wLoop s p (3 - i) i v ∧ (i = 1 ∧ v < 32 ∨ i = 2 ∧ v < 2048 ∨ i = 3 ∧ v < 131072 ∨ i = 4 ∧ v < 8388608) ∧ 0 ≤ v ∧ i ≤ 3) (fun (i, v) => 3 - i) (fun (i, v) => [(9, I i), (8, .st (.int .i64 v))]) (fun (i, v) => []) ((1, (a.toNat : Int) - 224)) [0, 1, 6, 7] [] [] rfl rfl rfl (.of [] (by (repeat' first | exact trivial | refine And.intro ?_ ?_ | rfl); first | done | fail) (by (repeat' first | exact trivial | refine And.intro ?_ ?_ | rfl); first | done | fail) rfl) ?_ ?_
    · exact ⟨hK.symm, by omega, by omega, by decide⟩
    rintro ⟨i, v⟩ ⟨g1, g2, g3, g4⟩
    refine nrm rfl rfl ?_
    rw [g1] at hw
    by_cases hi : i < 3
    · have hx := get_some (show p + i < s.size by omega)
      have hxl := (s.get! (p + i)).toNat_lt
      have hx' : s[((p : Int) + (i : Int)).toNat]? = some (s.get! (p + i)) := by rw [← hx]; congr 1
      rw [show 3 - i = (3 - (i + 1)) + 1 by omega, wLoop] at hw
      have hws := g1
      rw [show 3 - i = (3 - (i + 1)) + 1 by omega, wLoop] at hws
      generalize s.get! (p + i) = x at *
      by_cases hxx : x.toNat < 128 ∨ 191 < x.toNat
      · rw [if_pos hxx] at hw
        repeat' first | refine wr (by omega) ?_ | refine ln ?_ | refine stp lay_ok rfl ?_ | refine fin ?_ | refine n_thn ?_ | refine n_blk ?_ | refine e_thn ?_ | refine e_hit ?_ | refine e_miss rfl ?_ | refine r_thn ?_ | refine r_blk ?_ | refine e_rr ?_ | refine r_rr ?_ | refine e_cr ?_ | refine r_cr ?_ | refine .seq ?_ | refine reg ?_ | refine .block ?_ | refine .skip ?_ | refine .ret ?_ | refine .exit ?_ | refine cndT rfl ?_ | refine cndF rfl ?_ | refine c_dec rfl (fun hc => ?_) (fun hc => ?_) | refine c_ndec rfl (fun hc => ?_) (fun hc => ?_) | refine cnd rfl (fun hc => ?_) (fun hc => ?_) | ((first | refine o_none rfl ?_ | refine o_none_ ?_ | refine o_yes rfl rfl rfl ?_ | refine o_yes_ rfl rfl ?_); first | refine st_indexStr x lay_ok rfl rfl rfl rfl (by omega) hx' ?_) | refine gd rfl rfl rfl (fun hg => ?_) (fun hg => ?_) | refine gn rfl rfl rfl (fun hg => ?_) (fun hg => ?_)
        all_goals first
          | (exfalso; omega)
          | (refine f_r [] rfl trivial rfl ⟨?_, rfl⟩; rw [hw]; rfl)
      · rw [if_neg hxx] at hw hws
        repeat' first | refine wr (by omega) ?_ | refine ln ?_ | refine stp lay_ok rfl ?_ | refine fin ?_ | refine n_thn ?_ | refine n_blk ?_ | refine e_thn ?_ | refine e_hit ?_ | refine e_miss rfl ?_ | refine r_thn ?_ | refine r_blk ?_ | refine e_rr ?_ | refine r_rr ?_ | refine e_cr ?_ | refine r_cr ?_ | refine .seq ?_ | refine reg ?_ | refine .block ?_ | refine .skip ?_ | refine .ret ?_ | refine .exit ?_ | refine cndT rfl ?_ | refine cndF rfl ?_ | refine c_dec rfl (fun hc => ?_) (fun hc => ?_) | refine c_ndec rfl (fun hc => ?_) (fun hc => ?_) | refine cnd rfl (fun hc => ?_) (fun hc => ?_) | ((first | refine o_none rfl ?_ | refine o_none_ ?_ | refine o_yes rfl rfl rfl ?_ | refine o_yes_ rfl rfl ?_); first | refine st_indexStr x lay_ok rfl rfl rfl rfl (by omega) hx' ?_) | refine gd rfl rfl rfl (fun hg => ?_) (fun hg => ?_) | refine gn rfl rfl rfl (fun hg => ?_) (fun hg => ?_)
        all_goals first
          | (exfalso; omega)
          | skip
        refine n_rr ((i + 1, v * 64 + (x.toNat : Int) - 128)) ?_ (.of [] (by (repeat' first | exact trivial | refine And.intro ?_ ?_ | rfl); first | done | fail) (by (repeat' first | exact trivial | refine And.intro ?_ ?_ | rfl); first | done | fail) rfl) ?_
        · show 3 - (i + 1) < 3 - i; omega
        · exact ⟨hws, by omega, by omega, by omega⟩
    · have hi' : i = 3 := by omega
      subst hi'
      rw [Nat.sub_self, wLoop] at hw
      simp only at hw
      by_cases hv : v < ((2048 : Nat) : Int) ∨ 1114111 < v ∨ (55296 ≤ v ∧ v ≤ 57343) ∨ v = 65533
      · rw [if_pos hv] at hw
        repeat' first | refine wr (by omega) ?_ | refine ln ?_ | refine stp lay_ok rfl ?_ | refine fin ?_ | refine n_thn ?_ | refine n_blk ?_ | refine e_thn ?_ | refine e_hit ?_ | refine e_miss rfl ?_ | refine r_thn ?_ | refine r_blk ?_ | refine e_rr ?_ | refine r_rr ?_ | refine e_cr ?_ | refine r_cr ?_ | refine .seq ?_ | refine reg ?_ | refine .block ?_ | refine .skip ?_ | refine .ret ?_ | refine .exit ?_ | refine cndT rfl ?_ | refine cndF rfl ?_ | refine c_dec rfl (fun hc => ?_) (fun hc => ?_) | refine c_ndec rfl (fun hc => ?_) (fun hc => ?_) | refine cnd rfl (fun hc => ?_) (fun hc => ?_) | refine gd rfl rfl rfl (fun hg => ?_) (fun hg => ?_) | refine gn rfl rfl rfl (fun hg => ?_) (fun hg => ?_)
        all_goals first
          | (exfalso; omega)
          | (refine f_r [] rfl trivial rfl ⟨?_, rfl⟩; rw [hw]; rfl)
      · rw [if_neg hv] at hw
        repeat' first | refine wr (by omega) ?_ | refine ln ?_ | refine stp lay_ok rfl ?_ | refine fin ?_ | refine n_thn ?_ | refine n_blk ?_ | refine e_thn ?_ | refine e_hit ?_ | refine e_miss rfl ?_ | refine r_thn ?_ | refine r_blk ?_ | refine e_rr ?_ | refine r_rr ?_ | refine e_cr ?_ | refine r_cr ?_ | refine .seq ?_ | refine reg ?_ | refine .block ?_ | refine .skip ?_ | refine .ret ?_ | refine .exit ?_ | refine cndT rfl ?_ | refine cndF rfl ?_ | refine c_dec rfl (fun hc => ?_) (fun hc => ?_) | refine c_ndec rfl (fun hc => ?_) (fun hc => ?_) | refine cnd rfl (fun hc => ?_) (fun hc => ?_) | refine gd rfl rfl rfl (fun hg => ?_) (fun hg => ?_) | refine gn rfl rfl rfl (fun hg => ?_) (fun hg => ?_)
        all_goals first
          | (exfalso; omega)
          | (refine f_r [] rfl trivial rfl ⟨?_, rfl⟩; rw [hw]; rfl)
  rw [if_neg h3] at hw
  by_cases h4 : 240 ≤ a.toNat ∧ a.toNat < 248
  · rw [if_pos h4] at hw
    repeat' first | refine wr (by omega) ?_ | refine ln ?_ | refine stp lay_ok rfl ?_ | refine fin ?_ | refine n_thn ?_ | refine n_blk ?_ | refine e_thn ?_ | refine e_hit ?_ | refine e_miss rfl ?_ | refine r_thn ?_ | refine r_blk ?_ | refine e_rr ?_ | refine r_rr ?_ | refine e_cr ?_ | refine r_cr ?_ | refine .seq ?_ | refine reg ?_ | refine .block ?_ | refine .skip ?_ | refine .ret ?_ | refine .exit ?_ | refine cndT rfl ?_ | refine cndF rfl ?_ | refine c_dec rfl (fun hc => ?_) (fun hc => ?_) | refine c_ndec rfl (fun hc => ?_) (fun hc => ?_) | refine cnd rfl (fun hc => ?_) (fun hc => ?_) | ((first | refine o_none rfl ?_ | refine o_none_ ?_ | refine o_yes rfl rfl rfl ?_ | refine o_yes_ rfl rfl ?_); first | refine st_indexStr a lay_ok rfl rfl rfl rfl (by omega) ha ?_) | refine gd rfl rfl rfl (fun hg => ?_) (fun hg => ?_) | refine gn rfl rfl rfl (fun hg => ?_) (fun hg => ?_)
    all_goals first
      | (exfalso; omega)
      | (refine f_r [] rfl trivial rfl ⟨?_, rfl⟩; rw [hw, wEnd, if_pos (by omega)]; rfl)
      | skip
    have hsz : ¬ s.size < p + 4 := by omega
    rw [wEnd, if_neg hsz] at hw
    generalize hK : wLoop s p (4 - 1) 1 ((a.toNat : Int) - 240) = K at hw
    refine lpR (fun (i, v) => K = wLoop s p (4 - i) i v ∧ (i = 1 ∧ v < 32 ∨ i = 2 ∧ v < 2048 ∨ i = 3 ∧ v < 131072 ∨ i = 4 ∧ v < 8388608) ∧ 0 ≤ v ∧ i ≤ 4) (fun (i, v) => 4 - i) (fun (i, v) => [(9, I i), (8, .st (.int .i64 v))]) (fun (i, v) => []) ((1, (a.toNat : Int) - 240)) [0, 1, 6, 7] [] [] rfl rfl rfl (.of [] (by (repeat' first | exact trivial | refine And.intro ?_ ?_ | rfl); first | done | fail) (by (repeat' first | exact trivial | refine And.intro ?_ ?_ | rfl); first | done | fail) rfl) ?_ ?_
    · exact ⟨hK.symm, by omega, by omega, by decide⟩
    rintro ⟨i, v⟩ ⟨g1, g2, g3, g4⟩
    refine nrm rfl rfl ?_
    rw [g1] at hw
    by_cases hi : i < 4
    · have hx := get_some (show p + i < s.size by omega)
      have hxl := (s.get! (p + i)).toNat_lt
      have hx' : s[((p : Int) + (i : Int)).toNat]? = some (s.get! (p + i)) := by rw [← hx]; congr 1
      rw [show 4 - i = (4 - (i + 1)) + 1 by omega, wLoop] at hw
      have hws := g1
      rw [show 4 - i = (4 - (i + 1)) + 1 by omega, wLoop] at hws
      generalize s.get! (p + i) = x at *
      by_cases hxx : x.toNat < 128 ∨ 191 < x.toNat
      · rw [if_pos hxx] at hw
        repeat' first | refine wr (by omega) ?_ | refine ln ?_ | refine stp lay_ok rfl ?_ | refine fin ?_ | refine n_thn ?_ | refine n_blk ?_ | refine e_thn ?_ | refine e_hit ?_ | refine e_miss rfl ?_ | refine r_thn ?_ | refine r_blk ?_ | refine e_rr ?_ | refine r_rr ?_ | refine e_cr ?_ | refine r_cr ?_ | refine .seq ?_ | refine reg ?_ | refine .block ?_ | refine .skip ?_ | refine .ret ?_ | refine .exit ?_ | refine cndT rfl ?_ | refine cndF rfl ?_ | refine c_dec rfl (fun hc => ?_) (fun hc => ?_) | refine c_ndec rfl (fun hc => ?_) (fun hc => ?_) | refine cnd rfl (fun hc => ?_) (fun hc => ?_) | ((first | refine o_none rfl ?_ | refine o_none_ ?_ | refine o_yes rfl rfl rfl ?_ | refine o_yes_ rfl rfl ?_); first | refine st_indexStr x lay_ok rfl rfl rfl rfl (by omega) hx' ?_) | refine gd rfl rfl rfl (fun hg => ?_) (fun hg => ?_) | refine gn rfl rfl rfl (fun hg => ?_) (fun hg => ?_)
        all_goals first
          | (exfalso; omega)
          | (refine f_r [] rfl trivial rfl ⟨?_, rfl⟩; rw [hw]; rfl)
      · rw [if_neg hxx] at hw hws
        repeat' first | refine wr (by omega) ?_ | refine ln ?_ | refine stp lay_ok rfl ?_ | refine fin ?_ | refine n_thn ?_ | refine n_blk ?_ | refine e_thn ?_ | refine e_hit ?_ | refine e_miss rfl ?_ | refine r_thn ?_ | refine r_blk ?_ | refine e_rr ?_ | refine r_rr ?_ | refine e_cr ?_ | refine r_cr ?_ | refine .seq ?_ | refine reg ?_ | refine .block ?_ | refine .skip ?_ | refine .ret ?_ | refine .exit ?_ | refine cndT rfl ?_ | refine cndF rfl ?_ | refine c_dec rfl (fun hc => ?_) (fun hc => ?_) | refine c_ndec rfl (fun hc => ?_) (fun hc => ?_) | refine cnd rfl (fun hc => ?_) (fun hc => ?_) | ((first | refine o_none rfl ?_ | refine o_none_ ?_ | refine o_yes rfl rfl rfl ?_ | refine o_yes_ rfl rfl ?_); first | refine st_indexStr x lay_ok rfl rfl rfl rfl (by omega) hx' ?_) | refine gd rfl rfl rfl (fun hg => ?_) (fun hg => ?_) | refine gn rfl rfl rfl (fun hg => ?_) (fun hg => ?_)
        all_goals first
          | (exfalso; omega)
          | skip
        refine n_rr ((i + 1, v * 64 + (x.toNat : Int) - 128)) ?_ (.of [] (by (repeat' first | exact trivial | refine And.intro ?_ ?_ | rfl); first | done | fail) (by (repeat' first | exact trivial | refine And.intro ?_ ?_ | rfl); first | done | fail) rfl) ?_
        · show 4 - (i + 1) < 4 - i; omega
        · exact ⟨hws, by omega, by omega, by omega⟩
    · have hi' : i = 4 := by omega
      subst hi'
      rw [Nat.sub_self, wLoop] at hw
      simp only at hw
      by_cases hv : v < ((65536 : Nat) : Int) ∨ 1114111 < v ∨ (55296 ≤ v ∧ v ≤ 57343) ∨ v = 65533
      · rw [if_pos hv] at hw
        repeat' first | refine wr (by omega) ?_ | refine ln ?_ | refine stp lay_ok rfl ?_ | refine fin ?_ | refine n_thn ?_ | refine n_blk ?_ | refine e_thn ?_ | refine e_hit ?_ | refine e_miss rfl ?_ | refine r_thn ?_ | refine r_blk ?_ | refine e_rr ?_ | refine r_rr ?_ | refine e_cr ?_ | refine r_cr ?_ | refine .seq ?_ | refine reg ?_ | refine .block ?_ | refine .skip ?_ | refine .ret ?_ | refine .exit ?_ | refine cndT rfl ?_ | refine cndF rfl ?_ | refine c_dec rfl (fun hc => ?_) (fun hc => ?_) | refine c_ndec rfl (fun hc => ?_) (fun hc => ?_) | refine cnd rfl (fun hc => ?_) (fun hc => ?_) | refine gd rfl rfl rfl (fun hg => ?_) (fun hg => ?_) | refine gn rfl rfl rfl (fun hg => ?_) (fun hg => ?_)
        all_goals first
          | (exfalso; omega)
          | (refine f_r [] rfl trivial rfl ⟨?_, rfl⟩; rw [hw]; rfl)
      · rw [if_neg hv] at hw
        repeat' first | refine wr (by omega) ?_ | refine ln ?_ | refine stp lay_ok rfl ?_ | refine fin ?_ | refine n_thn ?_ | refine n_blk ?_ | refine e_thn ?_ | refine e_hit ?_ | refine e_miss rfl ?_ | refine r_thn ?_ | refine r_blk ?_ | refine e_rr ?_ | refine r_rr ?_ | refine e_cr ?_ | refine r_cr ?_ | refine .seq ?_ | refine reg ?_ | refine .block ?_ | refine .skip ?_ | refine .ret ?_ | refine .exit ?_ | refine cndT rfl ?_ | refine cndF rfl ?_ | refine c_dec rfl (fun hc => ?_) (fun hc => ?_) | refine c_ndec rfl (fun hc => ?_) (fun hc => ?_) | refine cnd rfl (fun hc => ?_) (fun hc => ?_) | refine gd rfl rfl rfl (fun hg => ?_) (fun hg => ?_) | refine gn rfl rfl rfl (fun hg => ?_) (fun hg => ?_)
        all_goals first
          | (exfalso; omega)
          | (refine f_r [] rfl trivial rfl ⟨?_, rfl⟩; rw [hw]; rfl)
  rw [if_neg h4] at hw
  repeat' first | refine wr (by omega) ?_ | refine ln ?_ | refine stp lay_ok rfl ?_ | refine fin ?_ | refine n_thn ?_ | refine n_blk ?_ | refine e_thn ?_ | refine e_hit ?_ | refine e_miss rfl ?_ | refine r_thn ?_ | refine r_blk ?_ | refine e_rr ?_ | refine r_rr ?_ | refine e_cr ?_ | refine r_cr ?_ | refine .seq ?_ | refine reg ?_ | refine .block ?_ | refine .skip ?_ | refine .ret ?_ | refine .exit ?_ | refine cndT rfl ?_ | refine cndF rfl ?_ | refine c_dec rfl (fun hc => ?_) (fun hc => ?_) | refine c_ndec rfl (fun hc => ?_) (fun hc => ?_) | refine cnd rfl (fun hc => ?_) (fun hc => ?_) | ((first | refine o_none rfl ?_ | refine o_none_ ?_ | refine o_yes rfl rfl rfl ?_ | refine o_yes_ rfl rfl ?_); first | refine st_indexStr a lay_ok rfl rfl rfl rfl (by omega) ha ?_) | refine gd rfl rfl rfl (fun hg => ?_) (fun hg => ?_) | refine gn rfl rfl rfl (fun hg => ?_) (fun hg => ?_)
  all_goals first
    | (exfalso; omega)
    | (refine f_r [] rfl trivial rfl ⟨?_, rfl⟩; rw [hw]; rfl)
end Go.Proofs.YtmekcbbieacioaaGreatDoorFn
namespace Go.Proofs.YtmekcbbieacioaaGreatDoorFn
open Go.Proofs.YtmekcbbieacioaaGreatDoorAl Go.Proofs.Tryz
/-! ### a character's bytes, read in two ways -/
def plainB (c : Nat) : Bool := decide (97 ≤ c ∧ c ≤ 122) || decide (48 ≤ c ∧ c ≤ 57) || decide (c = 95) || decide (c = 45) || decide (c = 46)
def okW (s : ByteArray) (p : Nat) : Bool := decide (1 < widthR s p) || (decide (widthR s p = 1) && plainB (s.get! p).toNat)
theorem mayR_hi {c : Nat} (h : 128 ≤ c) : mayR c = decide (c ≠ 65533) := by
  rw [Bool.eq_iff_iff]; simp only [mayR, Bool.or_eq_true, decide_eq_true_eq]; omega
theorem mayR_lo {c : Nat} (h : c < 128) : mayR c = plainB c := by
  rw [Bool.eq_iff_iff]; simp only [mayR, plainB, Bool.or_eq_true, decide_eq_true_eq]; omega
theorem dec_eq (s : ByteArray) (p : Nat) : Utf8.decode s p =
    if (s.get! p).toNat < 128 then ((s.get! p).toNat, 1)
    else if (s.get! p).toNat / 32 = 6 ∧ p + 1 < s.size ∧ (s.get! (p + 1)).toNat / 64 = 2 then
      if 128 ≤ ((s.get! p).toNat % 32) * 64 + (s.get! (p + 1)).toNat % 64 then (((s.get! p).toNat % 32) * 64 + (s.get! (p + 1)).toNat % 64, 2) else (65533, 1)
    else if (s.get! p).toNat / 16 = 14 ∧ (p + 1 < s.size ∧ (s.get! (p + 1)).toNat / 64 = 2) ∧ p + 2 < s.size ∧ (s.get! (p + 2)).toNat / 64 = 2 then
      if 2048 ≤ ((s.get! p).toNat % 16) * 4096 + ((s.get! (p + 1)).toNat % 64) * 64 + (s.get! (p + 2)).toNat % 64 ∧ Utf8.valid (((s.get! p).toNat % 16) * 4096 + ((s.get! (p + 1)).toNat % 64) * 64 + (s.get! (p + 2)).toNat % 64 : Nat) = true then (((s.get! p).toNat % 16) * 4096 + ((s.get! (p + 1)).toNat % 64) * 64 + (s.get! (p + 2)).toNat % 64, 3) else (65533, 1)
    else if (s.get! p).toNat / 8 = 30 ∧ (p + 1 < s.size ∧ (s.get! (p + 1)).toNat / 64 = 2) ∧ (p + 2 < s.size ∧ (s.get! (p + 2)).toNat / 64 = 2) ∧ p + 3 < s.size ∧ (s.get! (p + 3)).toNat / 64 = 2 then
      if 65536 ≤ ((s.get! p).toNat % 8) * 262144 + ((s.get! (p + 1)).toNat % 64) * 4096 + ((s.get! (p + 2)).toNat % 64) * 64 + (s.get! (p + 3)).toNat % 64 ∧ Utf8.valid (((s.get! p).toNat % 8) * 262144 + ((s.get! (p + 1)).toNat % 64) * 4096 + ((s.get! (p + 2)).toNat % 64) * 64 + (s.get! (p + 3)).toNat % 64 : Nat) = true then (((s.get! p).toNat % 8) * 262144 + ((s.get! (p + 1)).toNat % 64) * 4096 + ((s.get! (p + 2)).toNat % 64) * 64 + (s.get! (p + 3)).toNat % 64, 4) else (65533, 1)
    else (65533, 1) := by
  unfold Utf8.decode
  simp only [Bool.and_eq_true, decide_eq_true_eq, beq_iff_eq, Nat.add_zero, ge_iff_le, and_assoc]
  rfl
theorem valid_iff (c : Nat) : Utf8.valid (c : Int) = true ↔ c < 55296 ∨ (57344 ≤ c ∧ c ≤ 1114111) := by
  simp only [Utf8.valid, Bool.or_eq_true, Bool.and_eq_true, decide_eq_true_eq]; omega
theorem wid_law (s : ByteArray) (p : Nat) (hp : p < s.size) :
    (mayR (Utf8.decode s p).1 = true ∧ okW s p = true ∧ widthR s p = (Utf8.decode s p).2) ∨ (mayR (Utf8.decode s p).1 = false ∧ okW s p = false) := by
  have hd := dec_eq s p
  simp only [valid_iff] at hd
  have hw : widthR s p = if (s.get! p).toNat < 128 then 1
    else if 192 ≤ (s.get! p).toNat ∧ (s.get! p).toNat < 224 then wEnd s p 2 128 (((s.get! p).toNat : Int) - 192)
    else if 224 ≤ (s.get! p).toNat ∧ (s.get! p).toNat < 240 then wEnd s p 3 2048 (((s.get! p).toNat : Int) - 224)
    else if 240 ≤ (s.get! p).toNat ∧ (s.get! p).toNat < 248 then wEnd s p 4 65536 (((s.get! p).toNat : Int) - 240)
    else 0 := rfl
  have ho : okW s p = (decide (1 < widthR s p) || (decide (widthR s p = 1) && plainB (s.get! p).toNat)) := rfl
  have e2 : ∀ v, wEnd s p 2 128 v = if s.size < p + 2 then 0 else match wLoop s p 1 1 v with
    | none => 0
    | some v => if v < ((128 : Nat) : Int) ∨ 1114111 < v ∨ (55296 ≤ v ∧ v ≤ 57343) ∨ v = 65533 then 0 else 2 := fun v => rfl
  have e3 : ∀ v, wEnd s p 3 2048 v = if s.size < p + 3 then 0 else match wLoop s p 2 1 v with
    | none => 0
    | some v => if v < ((2048 : Nat) : Int) ∨ 1114111 < v ∨ (55296 ≤ v ∧ v ≤ 57343) ∨ v = 65533 then 0 else 3 := fun v => rfl
  have e4 : ∀ v, wEnd s p 4 65536 v = if s.size < p + 4 then 0 else match wLoop s p 3 1 v with
    | none => 0
    | some v => if v < ((65536 : Nat) : Int) ∨ 1114111 < v ∨ (55296 ≤ v ∧ v ≤ 57343) ∨ v = 65533 then 0 else 4 := fun v => rfl
  simp only [wLoop] at e2 e3 e4
  simp only [e2, e3, e4] at hw
  clear e2 e3 e4
  have b0 := (s.get! p).toNat_lt
  have b1 := (s.get! (p + 1)).toNat_lt
  have b2 := (s.get! (p + 2)).toNat_lt
  have b3 := (s.get! (p + 3)).toNat_lt
  simp only [show p + (1 + 1) = p + 2 from rfl, show p + (1 + 1 + 1) = p + 3 from rfl] at hw
  generalize (s.get! p).toNat = x0 at *
  generalize (s.get! (p + 1)).toNat = x1 at *
  generalize (s.get! (p + 2)).toNat = x2 at *
  generalize (s.get! (p + 3)).toNat = x3 at *
  generalize Utf8.decode s p = D at *
  generalize widthR s p = W at *
  generalize okW s p = O at *
  have hm : mayR 65533 = false := by decide
  by_cases h1 : x0 < 128
  · rw [if_pos h1] at hd hw
    subst hd; subst hw; subst ho
    simp only [mayR_lo h1]
    cases plainB x0 <;> simp
  rw [if_neg h1] at hd hw
  by_cases h2 : 192 ≤ x0 ∧ x0 < 224
  · rw [if_pos h2] at hw
    rw [if_neg (show ¬ (x0 / 16 = 14 ∧ _) by omega), if_neg (show ¬ (x0 / 8 = 30 ∧ _) by omega)] at hd
    by_cases hs : s.size < p + 2
    · rw [if_neg (by omega)] at hd
      rw [if_pos hs] at hw
      subst hd; subst hw; subst ho; right; exact ⟨hm, by simp⟩
    · rw [if_neg hs] at hw
      by_cases hx : x1 < 128 ∨ 191 < x1
      · rw [if_neg (by omega)] at hd
        rw [if_pos hx] at hw
        subst hd; subst hw; subst ho; right; exact ⟨hm, by simp⟩
      · rw [if_pos (by omega)] at hd
        rw [if_neg hx] at hw
        simp only at hw
        by_cases hv : 128 ≤ x0 % 32 * 64 + x1 % 64
        · rw [if_pos hv] at hd
          rw [if_neg (by omega)] at hw
          subst hd; subst hw; subst ho; left
          refine ⟨?_, by simp, rfl⟩
          rw [mayR_hi hv, decide_eq_true_eq]; omega
        · rw [if_neg hv] at hd
          rw [if_pos (by omega)] at hw
          subst hd; subst hw; subst ho; right; exact ⟨hm, by simp⟩
  rw [if_neg h2] at hw
  rw [if_neg (show ¬ (x0 / 32 = 6 ∧ _) by omega)] at hd
  by_cases h3 : 224 ≤ x0 ∧ x0 < 240
  · rw [if_pos h3] at hw
    rw [if_neg (show ¬ (x0 / 8 = 30 ∧ _) by omega)] at hd
    by_cases hs : s.size < p + 3
    · rw [if_neg (by omega)] at hd
      rw [if_pos hs] at hw
      subst hd; subst hw; subst ho; right; exact ⟨hm, by simp⟩
    · rw [if_neg hs] at hw
      by_cases hx : x1 < 128 ∨ 191 < x1
      · rw [if_neg (by omega)] at hd
        rw [if_pos hx] at hw
        subst hd; subst hw; subst ho; right; exact ⟨hm, by simp⟩
      rw [if_neg hx] at hw
      by_cases hy : x2 < 128 ∨ 191 < x2
      · rw [if_neg (by omega)] at hd
        rw [if_pos hy] at hw
        subst hd; subst hw; subst ho; right; exact ⟨hm, by simp⟩
      · rw [if_pos (by omega)] at hd
        rw [if_neg hy] at hw
        simp only at hw
        by_cases hv : 2048 ≤ x0 % 16 * 4096 + x1 % 64 * 64 + x2 % 64 ∧ (x0 % 16 * 4096 + x1 % 64 * 64 + x2 % 64 < 55296 ∨ 57344 ≤ x0 % 16 * 4096 + x1 % 64 * 64 + x2 % 64 ∧ x0 % 16 * 4096 + x1 % 64 * 64 + x2 % 64 ≤ 1114111)
        · rw [if_pos hv] at hd
          by_cases hf : x0 % 16 * 4096 + x1 % 64 * 64 + x2 % 64 = 65533
          · rw [if_pos (by omega)] at hw
            subst hd; subst hw; subst ho; right
            exact ⟨by rw [hf]; exact hm, by simp⟩
          · rw [if_neg (by omega)] at hw
            subst hd; subst hw; subst ho; left
            refine ⟨?_, by simp, rfl⟩
            rw [mayR_hi (by omega), decide_eq_true_eq]; exact hf
        · rw [if_neg hv] at hd
          rw [if_pos (by omega)] at hw
          subst hd; subst hw; subst ho; right; exact ⟨hm, by simp⟩
  rw [if_neg h3] at hw
  rw [if_neg (show ¬ (x0 / 16 = 14 ∧ _) by omega)] at hd
  by_cases h4 : 240 ≤ x0 ∧ x0 < 248
  · rw [if_pos h4] at hw
    by_cases hs : s.size < p + 4
    · rw [if_neg (by omega)] at hd
      rw [if_pos hs] at hw
      subst hd; subst hw; subst ho; right; exact ⟨hm, by simp⟩
    · rw [if_neg hs] at hw
      by_cases hx : x1 < 128 ∨ 191 < x1
      · rw [if_neg (by omega)] at hd
        rw [if_pos hx] at hw
        subst hd; subst hw; subst ho; right; exact ⟨hm, by simp⟩
      rw [if_neg hx] at hw
      by_cases hy : x2 < 128 ∨ 191 < x2
      · rw [if_neg (by omega)] at hd
        rw [if_pos hy] at hw
        subst hd; subst hw; subst ho; right; exact ⟨hm, by simp⟩
      rw [if_neg hy] at hw
      by_cases hz : x3 < 128 ∨ 191 < x3
      · rw [if_neg (by omega)] at hd
        rw [if_pos hz] at hw
        subst hd; subst hw; subst ho; right; exact ⟨hm, by simp⟩
      · rw [if_pos (by omega)] at hd
        rw [if_neg hz] at hw
        simp only at hw
        by_cases hv : 65536 ≤ x0 % 8 * 262144 + x1 % 64 * 4096 + x2 % 64 * 64 + x3 % 64 ∧ (x0 % 8 * 262144 + x1 % 64 * 4096 + x2 % 64 * 64 + x3 % 64 < 55296 ∨ 57344 ≤ x0 % 8 * 262144 + x1 % 64 * 4096 + x2 % 64 * 64 + x3 % 64 ∧ x0 % 8 * 262144 + x1 % 64 * 4096 + x2 % 64 * 64 + x3 % 64 ≤ 1114111)
        · rw [if_pos hv] at hd
          rw [if_neg (by omega)] at hw
          subst hd; subst hw; subst ho; left
          refine ⟨?_, by simp, rfl⟩
          rw [mayR_hi (by omega), decide_eq_true_eq]; omega
        · rw [if_neg hv] at hd
          rw [if_pos (by omega)] at hw
          subst hd; subst hw; subst ho; right; exact ⟨hm, by simp⟩
  · rw [if_neg h4] at hw
    rw [if_neg (by omega)] at hd
    subst hd; subst hw; subst ho; right; exact ⟨hm, by simp⟩
end Go.Proofs.YtmekcbbieacioaaGreatDoorFn
namespace Go.Proofs.YtmekcbbieacioaaGreatDoorFn
open Go.Proofs.YtmekcbbieacioaaGreatDoorAl Go.Proofs.Tryz
attribute [local irreducible] IntKind.wrap CodeOk OpsL OpG ACalls thn inBlk rndR cutR WkR Wk fnR DW ExtOk partsOf
theorem b62 : HasBody prog 62 := ⟨f62, func62, Option.some_ne_none _, by decide⟩
theorem b61 : HasBody prog 61 := ⟨f61, func61, Option.some_ne_none _, by decide⟩
theorem b36 : HasBody prog 36 := ⟨f36, func36, Option.some_ne_none _, by decide⟩
theorem b45 : HasBody prog 45 := ⟨f45, func45, Option.some_ne_none _, by decide⟩
set_option maxRecDepth 4000 in
theorem plain_ok (c : UInt8) : ACalls prog 105 0 [.st (.int .u8 (c.toNat : Int))] [] fun r h => r = B (plainB c.toNat) ∧ h = [] := by
  refine fnC lay_ok func105 rfl rfl rfl rfl rfl ?_
  repeat' first | refine wr (by omega) ?_ | refine ln ?_ | refine stp lay_ok rfl ?_ | refine fin ?_ | refine n_thn ?_ | refine n_blk ?_ | refine e_thn ?_ | refine e_hit ?_ | refine e_miss rfl ?_ | refine r_thn ?_ | refine r_blk ?_ | refine e_rr ?_ | refine r_rr ?_ | refine e_cr ?_ | refine r_cr ?_ | refine .seq ?_ | refine reg ?_ | refine .block ?_ | refine .skip ?_ | refine .ret ?_ | refine .exit ?_ | refine cndT rfl ?_ | refine cndF rfl ?_ | refine c_dec rfl (fun hc => ?_) (fun hc => ?_) | refine c_ndec rfl (fun hc => ?_) (fun hc => ?_) | refine cnd rfl (fun hc => ?_) (fun hc => ?_) | refine gd rfl rfl rfl (fun hg => ?_) (fun hg => ?_) | refine gn rfl rfl rfl (fun hg => ?_) (fun hg => ?_)
  all_goals
    refine f_r [] rfl trivial rfl ⟨?_, rfl⟩
    simp only [retOf, B, AV.st.injEq, SV.bool.injEq, plainB]
    first
      | (symm; simp; omega)
      | (rw [Bool.eq_iff_iff]; simp; omega)
set_option maxHeartbeats 4000000 in
set_option maxRecDepth 4000 in
theorem refPart_ok (s : ByteArray) (hs : s.size ≤ 4000000000) : ACalls prog 88 0 [Sx s] [] fun r h => r = B (partOk s) ∧ h = [] := by
  refine fnC lay_ok func88 rfl rfl rfl rfl rfl ?_
  repeat' first | refine wr (by omega) ?_ | refine ln ?_ | refine stp lay_ok rfl ?_ | refine fin ?_ | refine n_thn ?_ | refine n_blk ?_ | refine e_thn ?_ | refine e_hit ?_ | refine e_miss rfl ?_ | refine r_thn ?_ | refine r_blk ?_ | refine e_rr ?_ | refine r_rr ?_ | refine e_cr ?_ | refine r_cr ?_ | refine .seq ?_ | refine reg ?_ | refine .block ?_ | refine .skip ?_ | refine .ret ?_ | refine .exit ?_ | refine cndT rfl ?_ | refine cndF rfl ?_ | refine c_dec rfl (fun hc => ?_) (fun hc => ?_) | refine c_ndec rfl (fun hc => ?_) (fun hc => ?_) | refine cnd rfl (fun hc => ?_) (fun hc => ?_) | refine gd rfl rfl rfl (fun hg => ?_) (fun hg => ?_) | refine gn rfl rfl rfl (fun hg => ?_) (fun hg => ?_)
  refine lpR (fun (p, n, f) => n + f = s.size + 1 ∧ s.size + 1 ≤ p + f ∧ n ≤ p ∧ p ≤ s.size ∧ runs s (s.size + 1) 0 = (runs s f p).map (· + n)) (fun (p, n, f) => f) (fun (p, n, f) => [(3, I (n : Int)), (4, I (p : Int))]) (fun (p, n, f) => []) ((0, 0, s.size + 1)) [0] [] [] rfl rfl rfl (.of [] (by (repeat' first | exact trivial | refine And.intro ?_ ?_ | rfl); first | done | fail) (by (repeat' first | exact trivial | refine And.intro ?_ ?_ | rfl); first | done | fail) rfl) ?_ ?_
  · refine ⟨by omega, by omega, Nat.le_refl _, Nat.zero_le _, ?_⟩
    simp
  · rintro ⟨p, n, f⟩ ⟨hf, hpf, hnp, hps, hr⟩
    refine nrm rfl rfl ?_
    by_cases hp : p < s.size
    · obtain ⟨f', rfl⟩ : ∃ f', f = f' + 1 := ⟨f - 1, by omega⟩
      have hw := width_ok s p hs hp
      have hrun : runs s (f' + 1) p = if mayR (Utf8.decode s p).1 then (runs s f' (p + (Utf8.decode s p).2)).map (· + 1) else none := by rw [runs, if_pos hp]
      have hx := get_some hp
      have hpl := plain_ok (s.get! p)
      have hl := wid_law s p hp
      have hle : p + widthR s p ≤ s.size := by
        have : ∀ n l v, wEnd s p n l v = 0 ∨ p + wEnd s p n l v ≤ s.size := by
          intro n l v
          unfold wEnd
          split
          · exact .inl rfl
          · split
            · exact .inl rfl
            · split
              · exact .inl rfl
              · right; omega
        unfold widthR
        split
        · omega
        split
        · rcases this 2 128 (((s.get! p).toNat : Int) - 192) with h | h <;> omega
        split
        · rcases this 3 2048 (((s.get! p).toNat : Int) - 224) with h | h <;> omega
        split
        · rcases this 4 65536 (((s.get! p).toNat : Int) - 240) with h | h <;> omega
        · omega
      have ho : okW s p = (decide (1 < widthR s p) || (decide (widthR s p = 1) && plainB (s.get! p).toNat)) := rfl
      have hw1 := decode_pos s p
      generalize okW s p = O at *
      generalize widthR s p = w at *
      generalize s.get! p = x at *
      generalize (Utf8.decode s p).1 = c at *
      generalize (Utf8.decode s p).2 = w' at *
      rcases hl with ⟨h1, rfl, rfl⟩ | ⟨h1, rfl⟩
      · rw [h1, if_pos rfl] at hrun
        cases hb : plainB x.toNat <;> rw [hb] at hpl ho
        all_goals
          have ho2 : 1 < w ∨ (w = 1 ∧ plainB x.toNat = true) := by
            rw [hb]; simpa using ho
          repeat' first | refine wr (by omega) ?_ | refine ln ?_ | refine stp lay_ok rfl ?_ | refine fin ?_ | refine n_thn ?_ | refine n_blk ?_ | refine e_thn ?_ | refine e_hit ?_ | refine e_miss rfl ?_ | refine r_thn ?_ | refine r_blk ?_ | refine e_rr ?_ | refine r_rr ?_ | refine e_cr ?_ | refine r_cr ?_ | refine .seq ?_ | refine reg ?_ | refine .block ?_ | refine .skip ?_ | refine .ret ?_ | refine .exit ?_ | refine cndT rfl ?_ | refine cndF rfl ?_ | refine c_dec rfl (fun hc => ?_) (fun hc => ?_) | refine c_ndec rfl (fun hc => ?_) (fun hc => ?_) | refine cnd rfl (fun hc => ?_) (fun hc => ?_) | ((first | refine o_none rfl ?_ | refine o_none_ ?_ | refine o_yes rfl rfl rfl ?_ | refine o_yes_ rfl rfl ?_); first | refine st_pure (hw) b104 rfl rfl rfl rfl ?_ | refine st_indexStr x lay_ok rfl rfl rfl rfl (by omega) hx ?_ | refine st_pure (hpl) b105 rfl rfl rfl rfl ?_) | refine gd rfl rfl rfl (fun hg => ?_) (fun hg => ?_) | refine gn rfl rfl rfl (fun hg => ?_) (fun hg => ?_)
          all_goals first
            | (exfalso; omega)
            | (exfalso; rw [hb] at ho2; simp at ho2; omega)
            | (refine n_rr ((p + w, n + 1, f')) ?_ (.of [] (by (repeat' first | exact trivial | refine And.intro ?_ ?_ | rfl); first | done | fail) (by (repeat' first | exact trivial | refine And.intro ?_ ?_ | rfl); first | done | fail) rfl) ?_
               · exact Nat.lt_succ_self _
               · refine ⟨by omega, by omega, by omega, by omega, ?_⟩
                 rw [hr, hrun]
                 cases runs s f' (p + w) with
                 | none => rfl
                 | some k => simp only [Option.map_some]; congr 1; omega)
      · have hrun2 : runs s (f' + 1) p = none := by rw [hrun, h1, if_neg (by simp)]
        have hpo : partOk s = false := by unfold partOk; rw [hr, hrun2]; rfl
        cases hb : plainB x.toNat <;> rw [hb] at hpl ho
        all_goals
          have ho2 : ¬ 1 < w ∧ ¬ (w = 1 ∧ plainB x.toNat = true) := by
            rw [hb]
            have := ho.symm
            simp only [Bool.or_eq_false_iff, Bool.and_eq_false_iff, decide_eq_false_iff_not] at this
            refine ⟨this.1, fun h => ?_⟩
            rcases this.2 with h3 | h3
            · exact h3 h.1
            · first
              | (cases h3; done)
              | (exact absurd h.2 (by decide))
              | simp_all
          rw [hb] at ho2
          repeat' first | refine wr (by omega) ?_ | refine ln ?_ | refine stp lay_ok rfl ?_ | refine fin ?_ | refine n_thn ?_ | refine n_blk ?_ | refine e_thn ?_ | refine e_hit ?_ | refine e_miss rfl ?_ | refine r_thn ?_ | refine r_blk ?_ | refine e_rr ?_ | refine r_rr ?_ | refine e_cr ?_ | refine r_cr ?_ | refine .seq ?_ | refine reg ?_ | refine .block ?_ | refine .skip ?_ | refine .ret ?_ | refine .exit ?_ | refine cndT rfl ?_ | refine cndF rfl ?_ | refine c_dec rfl (fun hc => ?_) (fun hc => ?_) | refine c_ndec rfl (fun hc => ?_) (fun hc => ?_) | refine cnd rfl (fun hc => ?_) (fun hc => ?_) | ((first | refine o_none rfl ?_ | refine o_none_ ?_ | refine o_yes rfl rfl rfl ?_ | refine o_yes_ rfl rfl ?_); first | refine st_pure (hw) b104 rfl rfl rfl rfl ?_ | refine st_indexStr x lay_ok rfl rfl rfl rfl (by omega) hx ?_ | refine st_pure (hpl) b105 rfl rfl rfl rfl ?_) | refine gd rfl rfl rfl (fun hg => ?_) (fun hg => ?_) | refine gn rfl rfl rfl (fun hg => ?_) (fun hg => ?_)
          all_goals first
            | (exfalso; omega)
            | (refine f_r [] rfl trivial rfl ⟨?_, rfl⟩; rw [hpo]; rfl)
            | (exfalso; simp at ho2; omega)
    · have hpe : p = s.size := by omega
      have hend : partOk s = (decide (1 ≤ n ∧ n ≤ 16) && decide (s ≠ ⟨#[46]⟩) && decide (s ≠ ⟨#[46, 46]⟩)) := by
        have : runs s f p = some 0 := by
          cases f with
          | zero => rfl
          | succ f => rw [runs, if_neg hp]
        unfold partOk
        rw [hr, this]
        simp only [Option.map_some, Nat.zero_add]
      repeat' first | refine wr (by omega) ?_ | refine ln ?_ | refine stp lay_ok rfl ?_ | refine fin ?_ | refine n_thn ?_ | refine n_blk ?_ | refine e_thn ?_ | refine e_hit ?_ | refine e_miss rfl ?_ | refine r_thn ?_ | refine r_blk ?_ | refine e_rr ?_ | refine r_rr ?_ | refine e_cr ?_ | refine r_cr ?_ | refine .seq ?_ | refine reg ?_ | refine .block ?_ | refine .skip ?_ | refine .ret ?_ | refine .exit ?_ | refine cndT rfl ?_ | refine cndF rfl ?_ | refine c_dec rfl (fun hc => ?_) (fun hc => ?_) | refine c_ndec rfl (fun hc => ?_) (fun hc => ?_) | refine cnd rfl (fun hc => ?_) (fun hc => ?_) | refine gd rfl rfl rfl (fun hg => ?_) (fun hg => ?_) | refine gn rfl rfl rfl (fun hg => ?_) (fun hg => ?_)
      all_goals first
        | (exfalso; omega)
        | (refine f_r [] rfl trivial rfl ⟨?_, rfl⟩
           rw [hend]
           simp only [retOf, B, AV.st.injEq, SV.bool.injEq]
           first
             | (rw [decide_eq_true (p := 1 ≤ n ∧ n ≤ 16) (by omega), decide_eq_true (p := s ≠ ⟨#[46]⟩) (by assumption)]; rfl)
             | (rw [decide_eq_true (p := 1 ≤ n ∧ n ≤ 16) (by omega), decide_eq_false (p := s ≠ ⟨#[46]⟩) (by assumption)]; rfl)
             | (rw [decide_eq_false (p := 1 ≤ n ∧ n ≤ 16) (by omega)]; rfl))
end Go.Proofs.YtmekcbbieacioaaGreatDoorFn
namespace Go.Proofs.YtmekcbbieacioaaGreatDoorFn
open Go.Proofs.YtmekcbbieacioaaGreatDoorAl Go.Proofs.Tryz
attribute [local irreducible] IntKind.wrap CodeOk OpsL OpG ACalls thn inBlk rndR cutR WkR Wk fnR DW ExtOk partsOf
theorem spl_step : ∀ (l : List UInt8) (m : Nat), (∀ j, j < m → l[j]? ≠ some 47) → l[m]? = some 47 → spl l = l.take m :: spl (l.drop (m + 1))
  | [], m, _, h => by simp at h
  | b :: r, 0, _, h => by
    simp at h; subst h
    simp [spl]
  | b :: r, m + 1, h1, h => by
    have hb : b ≠ 47 := by
      have := h1 0 (by omega); simpa using this
    have ih := spl_step r m (fun j hj => by have := h1 (j + 1) (by omega); simpa using this) (by simpa using h)
    simp only [spl, hb, if_false, ih, List.take_succ_cons, List.drop_succ_cons]
theorem spl_end : ∀ (l : List UInt8), (∀ j : Nat, l[j]? ≠ some 47) → spl l = [l]
  | [], _ => rfl
  | b :: r, h => by
    have hb : b ≠ 47 := by have := h 0; simpa using this
    have ih := spl_end r (fun j => by have := h (j + 1); simpa using this)
    simp only [spl, hb, if_false, ih]
theorem data_get (s : ByteArray) (j : Nat) : s.data.toList[j]? = s[j]? := by
  by_cases h : j < s.size
  · rw [getElem?_pos s j h, List.getElem?_eq_getElem (by rw [Array.length_toList]; exact h)]
    simp; rfl
  · rw [getElem?_neg s j h, List.getElem?_eq_none (by rw [Array.length_toList]; show s.size ≤ j; omega)]
theorem ext_drop (s : ByteArray) (a : Nat) : (s.extract a s.size).data.toList = s.data.toList.drop a := by
  rw [ext_list, List.take_of_length_le (by rw [Array.length_toList]; exact Nat.le_refl _)]
theorem partsOf_step {s : ByteArray} {a i : Nat} (hai : a ≤ i) (hn : ∀ j, a ≤ j → j < i → s[j]? ≠ some 47) (h : s[i]? = some 47) :
    partsOf (s.extract a s.size) = s.extract a i :: partsOf (s.extract (i + 1) s.size) := by
  unfold partsOf
  rw [ext_drop, ext_drop]
  have h1 := spl_step (s.data.toList.drop a) (i - a) (fun j hj => by
    rw [List.getElem?_drop, data_get]; exact hn _ (by omega) (by omega)) (by
    rw [List.getElem?_drop, data_get, show a + (i - a) = i by omega]; exact h)
  rw [h1, List.map_cons, List.drop_drop, show a + (i - a + 1) = i + 1 by omega]
  congr 1
  have := ext_list s a i
  rw [List.drop_take] at this
  rw [← this, Array.toArray_toList]
theorem partsOf_end {s : ByteArray} {a : Nat} (hn : ∀ j, a ≤ j → j < s.size → s[j]? ≠ some 47) : partsOf (s.extract a s.size) = [s.extract a s.size] := by
  have h1 := spl_end (s.extract a s.size).data.toList (fun j => by
    rw [ext_drop, List.getElem?_drop, data_get]
    by_cases h : a + j < s.size
    · exact hn _ (by omega) h
    · rw [getElem?_neg s _ h]; simp)
  unfold partsOf
  rw [h1, List.map_cons, List.map_nil, Array.toArray_toList]
set_option maxHeartbeats 4000000 in
set_option maxRecDepth 4000 in
theorem refSplit_ok (s : ByteArray) (hs : s.size ≤ 4000000000 - 1) : ACalls prog 62 0 [Sx s] [] fun r h => r = .st (.sl 1 ((partsOf s).map rowS)) ∧ h = [] := by
  refine fnC lay_ok func62 rfl rfl rfl rfl rfl ?_
  repeat' first | refine wr (by omega) ?_ | refine ln ?_ | refine stp lay_ok rfl ?_ | refine fin ?_ | refine n_thn ?_ | refine n_blk ?_ | refine e_thn ?_ | refine e_hit ?_ | refine e_miss rfl ?_ | refine r_thn ?_ | refine r_blk ?_ | refine e_rr ?_ | refine r_rr ?_ | refine e_cr ?_ | refine r_cr ?_ | refine .seq ?_ | refine reg ?_ | refine .block ?_ | refine .skip ?_ | refine .ret ?_ | refine .exit ?_ | refine cndT rfl ?_ | refine cndF rfl ?_ | refine c_dec rfl (fun hc => ?_) (fun hc => ?_) | refine c_ndec rfl (fun hc => ?_) (fun hc => ?_) | refine cnd rfl (fun hc => ?_) (fun hc => ?_) | refine gd rfl rfl rfl (fun hg => ?_) (fun hg => ?_) | refine gn rfl rfl rfl (fun hg => ?_) (fun hg => ?_)
  refine CodeOk.wk (Wk.nilT 1 3 rfl rfl) (Nat.le_succ _) ?_
  refine nrm rfl rfl ?_
  refine lpR (fun (out, a, i) => (i ≤ s.size ∧ a ≤ i ∧ out.length ≤ a ∧ partsOf s = out ++ partsOf (s.extract a s.size) ∧ ∀ j, a ≤ j → j < i → s[j]? ≠ some 47) ∨ (i = s.size + 1 ∧ partsOf s = out)) (fun (out, a, i) => s.size + 1 - i) (fun (out, a, i) => [(3, .lsl 1 1 0 (out.map rowS).length), (4, I (a : Int)), (5, I (i : Int))]) (fun (out, a, i) => [(1, .arr 1 (out.map rowS))]) (([], 0, 0)) [0] [] [0] rfl rfl rfl (.of [0] (by (repeat' first | exact trivial | refine And.intro ?_ ?_ | rfl); first | done | fail) (by (repeat' first | exact trivial | refine And.intro ?_ ?_ | rfl); first | done | fail) rfl) ?_ ?_
  · left
    refine ⟨Nat.zero_le _, Nat.le_refl _, Nat.le_refl _, ?_, fun j h1 h2 => by omega⟩
    rw [List.nil_append, ByteArray.extract_zero_size]
  rintro ⟨out, a, i⟩ hinv
  refine nrm rfl rfl ?_
  have hm : (List.map rowS out).length = out.length := List.length_map _
  have hr : ∀ x : ByteArray, List.map rowS out ++ [[SV.str x]] = List.map rowS (out ++ [x]) := fun x => by rw [List.map_append]; rfl
  rcases hinv with ⟨h1, h2, h3, h4, h5⟩ | ⟨h1, h2⟩
  · by_cases hi : i < s.size
    · have hx := get_some hi
      generalize s.get! i = x at *
      by_cases h47 : x = 47
      · subst h47
        have hp := partsOf_step h2 h5 hx
        repeat' first | refine wr (by omega) ?_ | refine ln ?_ | refine stp lay_ok rfl ?_ | refine fin ?_ | refine n_thn ?_ | refine n_blk ?_ | refine e_thn ?_ | refine e_hit ?_ | refine e_miss rfl ?_ | refine r_thn ?_ | refine r_blk ?_ | refine e_rr ?_ | refine r_rr ?_ | refine e_cr ?_ | refine r_cr ?_ | refine .seq ?_ | refine reg ?_ | refine .block ?_ | refine .skip ?_ | refine .ret ?_ | refine .exit ?_ | refine cndT rfl ?_ | refine cndF rfl ?_ | refine c_dec rfl (fun hc => ?_) (fun hc => ?_) | refine c_ndec rfl (fun hc => ?_) (fun hc => ?_) | refine cnd rfl (fun hc => ?_) (fun hc => ?_) | ((first | refine o_none rfl ?_ | refine o_none_ ?_ | refine o_yes rfl rfl rfl ?_ | refine o_yes_ rfl rfl ?_); first | refine st_indexStr 47 lay_ok rfl rfl rfl rfl (by omega) hx ?_ | refine st_subS a i lay_ok rfl rfl rfl ⟨_, _, rfl, rfl⟩ ⟨_, _, rfl, rfl⟩ h2 (by omega) ?_ | refine st_append lay_ok rfl rfl rfl rfl rfl rfl rfl rfl (.lsl rfl rfl) .sl rfl (one_s (s.extract a i)) (by simp only [List.length_cons, List.length_nil]; omega) (by simp only [List.length_cons, List.length_nil]; omega) ?_) | refine gd rfl rfl rfl (fun hg => ?_) (fun hg => ?_) | refine gn rfl rfl rfl (fun hg => ?_) (fun hg => ?_)
        all_goals first
          | (exfalso; omega)
          | (exfalso; simp_all; done)
          | skip
        rw [hr]
        refine n_rr ((out ++ [s.extract a i], i + 1, i + 1)) ?_ (.of [2] (by (repeat' first | exact trivial | refine And.intro ?_ ?_ | rfl); first | done | fail) (by (repeat' first | exact trivial | refine And.intro ?_ ?_ | rfl); first | done | fail) rfl) ?_
        · show s.size + 1 - (i + 1) < s.size + 1 - i; omega
        · left
          exact ⟨hi, Nat.le_refl _, by simp; omega, by rw [h4, hp]; simp, fun j g1 g2 => by omega⟩
      · have hxn : x.toNat ≠ 47 := fun e => h47 (UInt8.toNat.inj (by rw [e]; rfl))
        repeat' first | refine wr (by omega) ?_ | refine ln ?_ | refine stp lay_ok rfl ?_ | refine fin ?_ | refine n_thn ?_ | refine n_blk ?_ | refine e_thn ?_ | refine e_hit ?_ | refine e_miss rfl ?_ | refine r_thn ?_ | refine r_blk ?_ | refine e_rr ?_ | refine r_rr ?_ | refine e_cr ?_ | refine r_cr ?_ | refine .seq ?_ | refine reg ?_ | refine .block ?_ | refine .skip ?_ | refine .ret ?_ | refine .exit ?_ | refine cndT rfl ?_ | refine cndF rfl ?_ | refine c_dec rfl (fun hc => ?_) (fun hc => ?_) | refine c_ndec rfl (fun hc => ?_) (fun hc => ?_) | refine cnd rfl (fun hc => ?_) (fun hc => ?_) | ((first | refine o_none rfl ?_ | refine o_none_ ?_ | refine o_yes rfl rfl rfl ?_ | refine o_yes_ rfl rfl ?_); first | refine st_indexStr x lay_ok rfl rfl rfl rfl (by omega) hx ?_) | refine gd rfl rfl rfl (fun hg => ?_) (fun hg => ?_) | refine gn rfl rfl rfl (fun hg => ?_) (fun hg => ?_)
        all_goals first
          | (exfalso; omega)
          | skip
        refine n_rr ((out, a, i + 1)) ?_ (.of [1] (by (repeat' first | exact trivial | refine And.intro ?_ ?_ | rfl); first | done | fail) (by (repeat' first | exact trivial | refine And.intro ?_ ?_ | rfl); first | done | fail) rfl) ?_
        · show s.size + 1 - (i + 1) < s.size + 1 - i; omega
        · left
          refine ⟨hi, by omega, h3, h4, fun j g1 g2 => ?_⟩
          by_cases hj : j = i
          · subst hj; rw [hx]; intro e; exact h47 (Option.some.inj e)
          · exact h5 j g1 (by omega)
    · have hie : i = s.size := by omega
      subst hie
      have hp := partsOf_end h5
      repeat' first | refine wr (by omega) ?_ | refine ln ?_ | refine stp lay_ok rfl ?_ | refine fin ?_ | refine n_thn ?_ | refine n_blk ?_ | refine e_thn ?_ | refine e_hit ?_ | refine e_miss rfl ?_ | refine r_thn ?_ | refine r_blk ?_ | refine e_rr ?_ | refine r_rr ?_ | refine e_cr ?_ | refine r_cr ?_ | refine .seq ?_ | refine reg ?_ | refine .block ?_ | refine .skip ?_ | refine .ret ?_ | refine .exit ?_ | refine cndT rfl ?_ | refine cndF rfl ?_ | refine c_dec rfl (fun hc => ?_) (fun hc => ?_) | refine c_ndec rfl (fun hc => ?_) (fun hc => ?_) | refine cnd rfl (fun hc => ?_) (fun hc => ?_) | ((first | refine o_none rfl ?_ | refine o_none_ ?_ | refine o_yes rfl rfl rfl ?_ | refine o_yes_ rfl rfl ?_); first | refine st_subS a s.size lay_ok rfl rfl rfl ⟨_, _, rfl, rfl⟩ ⟨_, _, rfl, rfl⟩ h2 (Nat.le_refl _) ?_ | refine st_append lay_ok rfl rfl rfl rfl rfl rfl rfl rfl (.lsl rfl rfl) .sl rfl (one_s (s.extract a s.size)) (by simp only [List.length_cons, List.length_nil]; omega) (by simp only [List.length_cons, List.length_nil]; omega) ?_) | refine gd rfl rfl rfl (fun hg => ?_) (fun hg => ?_) | refine gn rfl rfl rfl (fun hg => ?_) (fun hg => ?_)
      all_goals first
        | (exfalso; omega)
        | skip
      rw [hr]
      refine n_rr ((out ++ [s.extract a s.size], s.size + 1, s.size + 1)) ?_ (.of [2] (by (repeat' first | exact trivial | refine And.intro ?_ ?_ | rfl); first | done | fail) (by (repeat' first | exact trivial | refine And.intro ?_ ?_ | rfl); first | done | fail) rfl) ?_
      · show s.size + 1 - (s.size + 1) < s.size + 1 - s.size; omega
      · right
        exact ⟨rfl, by rw [h4, hp]⟩
  · subst h1
    repeat' first | refine wr (by omega) ?_ | refine ln ?_ | refine stp lay_ok rfl ?_ | refine fin ?_ | refine n_thn ?_ | refine n_blk ?_ | refine e_thn ?_ | refine e_hit ?_ | refine e_miss rfl ?_ | refine r_thn ?_ | refine r_blk ?_ | refine e_rr ?_ | refine r_rr ?_ | refine e_cr ?_ | refine r_cr ?_ | refine .seq ?_ | refine reg ?_ | refine .block ?_ | refine .skip ?_ | refine .ret ?_ | refine .exit ?_ | refine cndT rfl ?_ | refine cndF rfl ?_ | refine c_dec rfl (fun hc => ?_) (fun hc => ?_) | refine c_ndec rfl (fun hc => ?_) (fun hc => ?_) | refine cnd rfl (fun hc => ?_) (fun hc => ?_) | refine gd rfl rfl rfl (fun hg => ?_) (fun hg => ?_) | refine gn rfl rfl rfl (fun hg => ?_) (fun hg => ?_)
    all_goals first
      | (exfalso; omega)
      | skip
    refine f_end (n0 := 0) (t'' := [(2, .st (.sl 1 (out.map rowS)))]) (h'' := []) (Wk.then (Wk.frz 1 [2] rfl rfl rfl (by (repeat' first | exact trivial | refine And.intro ?_ ?_ | rfl); first | done | fail) (by (repeat' first | exact trivial | refine And.intro ?_ ?_ | rfl); first | done | fail) rfl rfl) (WkR.of [] (by (repeat' first | exact trivial | refine And.intro ?_ ?_ | rfl); first | done | fail) (by (repeat' first | exact trivial | refine And.intro ?_ ?_ | rfl); first | done | fail) rfl)) rfl rfl ⟨?_, rfl⟩
    rw [h2]; rfl
end Go.Proofs.YtmekcbbieacioaaGreatDoorFn
namespace Go.Proofs.YtmekcbbieacioaaGreatDoorFn
open Go.Proofs.YtmekcbbieacioaaGreatDoorAl Go.Proofs.Tryz
attribute [local irreducible] IntKind.wrap CodeOk OpsL OpG ACalls thn inBlk rndR cutR WkR Wk fnR DW ExtOk partsOf
def partsB (l : List ByteArray) : Bool := decide (1 ≤ l.length ∧ l.length ≤ 8) && l.all partOk
theorem refParts_ok (l : List ByteArray) (hl : l.length ≤ 4000000000) (hs : ∀ s ∈ l, s.size ≤ 4000000000) : ACalls prog 61 0 [.st (.sl 1 (l.map rowS))] [] fun r h => r = B (partsB l) ∧ h = [] := by
  have hm : (List.map rowS l).length = l.length := List.length_map _
  have hpb : partsB l = (decide (1 ≤ l.length ∧ l.length ≤ 8) && l.all partOk) := rfl
  generalize partsB l = W at *
  refine fnC lay_ok func61 rfl rfl rfl rfl rfl ?_
  repeat' first | refine wr (by omega) ?_ | refine ln ?_ | refine stp lay_ok rfl ?_ | refine fin ?_ | refine n_thn ?_ | refine n_blk ?_ | refine e_thn ?_ | refine e_hit ?_ | refine e_miss rfl ?_ | refine r_thn ?_ | refine r_blk ?_ | refine e_rr ?_ | refine r_rr ?_ | refine e_cr ?_ | refine r_cr ?_ | refine .seq ?_ | refine reg ?_ | refine .block ?_ | refine .skip ?_ | refine .ret ?_ | refine .exit ?_ | refine cndT rfl ?_ | refine cndF rfl ?_ | refine c_dec rfl (fun hc => ?_) (fun hc => ?_) | refine c_ndec rfl (fun hc => ?_) (fun hc => ?_) | refine cnd rfl (fun hc => ?_) (fun hc => ?_) | refine gd rfl rfl rfl (fun hg => ?_) (fun hg => ?_) | refine gn rfl rfl rfl (fun hg => ?_) (fun hg => ?_) | refine dwr (by omega) ?_ | refine dwl ?_ | refine dws lay_ok rfl rfl rfl rfl rfl rfl rfl ?_ | refine dwu lay_ok rfl rfl rfl rfl rfl rfl rfl rfl rfl ?_ | refine dw_end ?_ | refine dw_skip rfl rfl rfl ?_ | refine dwn lay_ok rfl rfl rfl rfl rfl ?_ | refine dw_dec rfl rfl rfl (fun hg => ?_) (fun hg => ?_) | refine dw_ndec rfl rfl rfl (fun hg => ?_) (fun hg => ?_)
  · refine f_r [] rfl trivial rfl ⟨?_, rfl⟩
    rw [hpb, decide_eq_false (by omega)]; rfl
  · refine f_r [] rfl trivial rfl ⟨?_, rfl⟩
    rw [hpb, decide_eq_false (by omega)]; rfl
  · rw [decide_eq_true (by omega), Bool.true_and] at hpb
    refine lpR (fun k => k ≤ l.length ∧ (l.take k).all partOk = true) (fun k => l.length - k) (fun k => [(3, I k)]) (fun k => []) (0) [0] [] [] rfl rfl rfl (.of [] (by (repeat' first | exact trivial | refine And.intro ?_ ?_ | rfl); first | done | fail) (by (repeat' first | exact trivial | refine And.intro ?_ ?_ | rfl); first | done | fail) rfl) ?_ ?_
    · exact ⟨Nat.zero_le _, rfl⟩
    rintro k ⟨h1, h2⟩
    refine nrm rfl rfl ?_
    repeat' first | refine wr (by omega) ?_ | refine ln ?_ | refine stp lay_ok rfl ?_ | refine fin ?_ | refine n_thn ?_ | refine n_blk ?_ | refine e_thn ?_ | refine e_hit ?_ | refine e_miss rfl ?_ | refine r_thn ?_ | refine r_blk ?_ | refine e_rr ?_ | refine r_rr ?_ | refine e_cr ?_ | refine r_cr ?_ | refine .seq ?_ | refine reg ?_ | refine .block ?_ | refine .skip ?_ | refine .ret ?_ | refine .exit ?_ | refine cndT rfl ?_ | refine cndF rfl ?_ | refine c_dec rfl (fun hc => ?_) (fun hc => ?_) | refine c_ndec rfl (fun hc => ?_) (fun hc => ?_) | refine cnd rfl (fun hc => ?_) (fun hc => ?_) | refine gd rfl rfl rfl (fun hg => ?_) (fun hg => ?_) | refine gn rfl rfl rfl (fun hg => ?_) (fun hg => ?_) | refine dwr (by omega) ?_ | refine dwl ?_ | refine dws lay_ok rfl rfl rfl rfl rfl rfl rfl ?_ | refine dwu lay_ok rfl rfl rfl rfl rfl rfl rfl rfl rfl ?_ | refine dw_end ?_ | refine dw_skip rfl rfl rfl ?_ | refine dwn lay_ok rfl rfl rfl rfl rfl ?_ | refine dw_dec rfl rfl rfl (fun hg => ?_) (fun hg => ?_) | refine dw_ndec rfl rfl rfl (fun hg => ?_) (fun hg => ?_)
    · have hk : k < l.length := by omega
      have hat := at_rowS hk
      have hp := refPart_ok l[k] (hs _ (List.getElem_mem hk))
      have ha := all_take (p := partOk) hk
      have hna := all_not (p := partOk) hk
      generalize l[k] = x at *
      cases hb : partOk x <;> rw [hb] at hp ha hna
      · repeat' first | refine wr (by omega) ?_ | refine ln ?_ | refine stp lay_ok rfl ?_ | refine fin ?_ | refine n_thn ?_ | refine n_blk ?_ | refine e_thn ?_ | refine e_hit ?_ | refine e_miss rfl ?_ | refine r_thn ?_ | refine r_blk ?_ | refine e_rr ?_ | refine r_rr ?_ | refine e_cr ?_ | refine r_cr ?_ | refine .seq ?_ | refine reg ?_ | refine .block ?_ | refine .skip ?_ | refine .ret ?_ | refine .exit ?_ | refine cndT rfl ?_ | refine cndF rfl ?_ | refine c_dec rfl (fun hc => ?_) (fun hc => ?_) | refine c_ndec rfl (fun hc => ?_) (fun hc => ?_) | refine cnd rfl (fun hc => ?_) (fun hc => ?_) | ((first | refine o_none rfl ?_ | refine o_none_ ?_ | refine o_yes rfl rfl rfl ?_ | refine o_yes_ rfl rfl ?_); first | refine st_index (rowS x) lay_ok rfl rfl rfl rfl (by omega) hat ?_ | refine st_pure (hp) b88 rfl rfl rfl rfl ?_) | refine gd rfl rfl rfl (fun hg => ?_) (fun hg => ?_) | refine gn rfl rfl rfl (fun hg => ?_) (fun hg => ?_) | refine dwr (by omega) ?_ | refine dwl ?_ | refine dws lay_ok rfl rfl rfl rfl rfl rfl rfl ?_ | refine dwu lay_ok rfl rfl rfl rfl rfl rfl rfl rfl rfl ?_ | refine dw_end ?_ | refine dw_skip rfl rfl rfl ?_ | refine dwn lay_ok rfl rfl rfl rfl rfl ?_ | refine dwb rfl rfl rfl rfl rfl (by (first | refine st_index (rowS x) lay_ok rfl rfl rfl rfl (by omega) hat ?_ | refine st_pure (hp) b88 rfl rfl rfl rfl ?_); exact fin rfl) rfl rfl ?_ | refine dwg rfl rfl rfl rfl rfl (by (first | refine st_index (rowS x) lay_ok rfl rfl rfl rfl (by omega) hat ?_ | refine st_pure (hp) b88 rfl rfl rfl rfl ?_); exact fin rfl) rfl rfl rfl rfl rfl ?_ | refine dw_dec rfl rfl rfl (fun hg => ?_) (fun hg => ?_) | refine dw_ndec rfl rfl rfl (fun hg => ?_) (fun hg => ?_)
        refine f_r [] rfl trivial rfl ⟨?_, rfl⟩
        rw [hpb, hna rfl]; rfl
      · repeat' first | refine wr (by omega) ?_ | refine ln ?_ | refine stp lay_ok rfl ?_ | refine fin ?_ | refine n_thn ?_ | refine n_blk ?_ | refine e_thn ?_ | refine e_hit ?_ | refine e_miss rfl ?_ | refine r_thn ?_ | refine r_blk ?_ | refine e_rr ?_ | refine r_rr ?_ | refine e_cr ?_ | refine r_cr ?_ | refine .seq ?_ | refine reg ?_ | refine .block ?_ | refine .skip ?_ | refine .ret ?_ | refine .exit ?_ | refine cndT rfl ?_ | refine cndF rfl ?_ | refine c_dec rfl (fun hc => ?_) (fun hc => ?_) | refine c_ndec rfl (fun hc => ?_) (fun hc => ?_) | refine cnd rfl (fun hc => ?_) (fun hc => ?_) | ((first | refine o_none rfl ?_ | refine o_none_ ?_ | refine o_yes rfl rfl rfl ?_ | refine o_yes_ rfl rfl ?_); first | refine st_index (rowS x) lay_ok rfl rfl rfl rfl (by omega) hat ?_ | refine st_pure (hp) b88 rfl rfl rfl rfl ?_) | refine gd rfl rfl rfl (fun hg => ?_) (fun hg => ?_) | refine gn rfl rfl rfl (fun hg => ?_) (fun hg => ?_) | refine dwr (by omega) ?_ | refine dwl ?_ | refine dws lay_ok rfl rfl rfl rfl rfl rfl rfl ?_ | refine dwu lay_ok rfl rfl rfl rfl rfl rfl rfl rfl rfl ?_ | refine dw_end ?_ | refine dw_skip rfl rfl rfl ?_ | refine dwn lay_ok rfl rfl rfl rfl rfl ?_ | refine dwb rfl rfl rfl rfl rfl (by (first | refine st_index (rowS x) lay_ok rfl rfl rfl rfl (by omega) hat ?_ | refine st_pure (hp) b88 rfl rfl rfl rfl ?_); exact fin rfl) rfl rfl ?_ | refine dwg rfl rfl rfl rfl rfl (by (first | refine st_index (rowS x) lay_ok rfl rfl rfl rfl (by omega) hat ?_ | refine st_pure (hp) b88 rfl rfl rfl rfl ?_); exact fin rfl) rfl rfl rfl rfl rfl ?_ | refine dw_dec rfl rfl rfl (fun hg => ?_) (fun hg => ?_) | refine dw_ndec rfl rfl rfl (fun hg => ?_) (fun hg => ?_)
        refine n_rr (k + 1) ?_ (.of [] (by (repeat' first | exact trivial | refine And.intro ?_ ?_ | rfl); first | done | fail) (by (repeat' first | exact trivial | refine And.intro ?_ ?_ | rfl); first | done | fail) rfl) ?_
        · omega
        · exact ⟨hk, by rw [ha, h2]; rfl⟩
    · have hk : k = l.length := by omega
      subst hk
      rw [List.take_length] at h2
      refine f_r [] rfl trivial rfl ⟨?_, rfl⟩
      rw [hpb, h2]; rfl
theorem parts_le (s : ByteArray) : (partsOf s).length ≤ s.size + 1 := by
  rw [parts_len]
  have := List.count_le_length (a := (47 : UInt8)) (l := s.data.toList)
  rw [Array.length_toList] at this
  have e : s.data.size = s.size := rfl
  omega
theorem parts_pos1 (s : ByteArray) : 1 ≤ (partsOf s).length := by rw [parts_len]; omega
theorem partsB_path (s : ByteArray) : partsB (partsOf s) = pathOk s := by
  have := parts_pos1 s
  unfold partsB pathOk
  congr 1
  rw [Bool.eq_iff_iff, decide_eq_true_eq, decide_eq_true_eq]; omega
theorem refPartsOf_ok (s : ByteArray) (hs : s.size ≤ 4000000000 - 1) : ACalls prog 61 0 [.st (.sl 1 ((partsOf s).map rowS))] [] fun r h => r = B (pathOk s) ∧ h = [] := by
  have := parts_le s
  have h2 := refParts_ok (partsOf s) (by omega) (fun x hx => by have := parts_size s x hx; omega)
  rw [partsB_path] at h2
  exact h2
theorem refPath_ok (s : ByteArray) (hs : s.size ≤ 4000000000 - 1) : ACalls prog 36 0 [Sx s] [] fun r h => r = B (pathOk s) ∧ h = [] := by
  have h1 := refSplit_ok s hs
  have h2 := refPartsOf_ok s hs
  refine fnC lay_ok func36 rfl rfl rfl rfl rfl ?_
  repeat' first | refine wr (by omega) ?_ | refine ln ?_ | refine stp lay_ok rfl ?_ | refine fin ?_ | refine n_thn ?_ | refine n_blk ?_ | refine e_thn ?_ | refine e_hit ?_ | refine e_miss rfl ?_ | refine r_thn ?_ | refine r_blk ?_ | refine e_rr ?_ | refine r_rr ?_ | refine e_cr ?_ | refine r_cr ?_ | refine .seq ?_ | refine reg ?_ | refine .block ?_ | refine .skip ?_ | refine .ret ?_ | refine .exit ?_ | refine cndT rfl ?_ | refine cndF rfl ?_ | refine c_dec rfl (fun hc => ?_) (fun hc => ?_) | refine c_ndec rfl (fun hc => ?_) (fun hc => ?_) | refine cnd rfl (fun hc => ?_) (fun hc => ?_) | ((first | refine o_none rfl ?_ | refine o_none_ ?_ | refine o_yes rfl rfl rfl ?_ | refine o_yes_ rfl rfl ?_); first | refine st_pure (h1) b62 rfl rfl rfl rfl ?_ | refine st_pure (h2) b61 rfl rfl rfl rfl ?_) | refine gd rfl rfl rfl (fun hg => ?_) (fun hg => ?_) | refine gn rfl rfl rfl (fun hg => ?_) (fun hg => ?_) | refine dwr (by omega) ?_ | refine dwl ?_ | refine dws lay_ok rfl rfl rfl rfl rfl rfl rfl ?_ | refine dwu lay_ok rfl rfl rfl rfl rfl rfl rfl rfl rfl ?_ | refine dw_end ?_ | refine dw_skip rfl rfl rfl ?_ | refine dwn lay_ok rfl rfl rfl rfl rfl ?_ | refine dwb rfl rfl rfl rfl rfl (by (first | refine st_pure (h1) b62 rfl rfl rfl rfl ?_ | refine st_pure (h2) b61 rfl rfl rfl rfl ?_); exact fin rfl) rfl rfl ?_ | refine dwg rfl rfl rfl rfl rfl (by (first | refine st_pure (h1) b62 rfl rfl rfl rfl ?_ | refine st_pure (h2) b61 rfl rfl rfl rfl ?_); exact fin rfl) rfl rfl rfl rfl rfl ?_ | refine dw_dec rfl rfl rfl (fun hg => ?_) (fun hg => ?_) | refine dw_ndec rfl rfl rfl (fun hg => ?_) (fun hg => ?_)
  refine f_r [] rfl trivial rfl ⟨?_, rfl⟩; rfl
/-! ### under: by parts, and by the text ahead -/
def joi : List (List UInt8) → List UInt8
  | [] => []
  | [x] => x
  | x :: y :: r => x ++ 47 :: joi (y :: r)
theorem joi_spl : ∀ l : List UInt8, joi (spl l) = l
  | [] => rfl
  | b :: r => by
    have ih := joi_spl r
    have hne := spl_ne r
    by_cases hb : b = 47
    · subst hb
      simp only [spl, if_true]
      cases h : spl r with
      | nil => exact absurd h hne
      | cons x xs =>
        rw [h] at ih
        simp only [joi, List.nil_append, ih]
    · simp only [spl, hb, if_false]
      cases h : spl r with
      | nil => exact absurd h hne
      | cons x xs =>
        rw [h] at ih
        cases xs with
        | nil => simp only [joi] at ih ⊢; rw [ih]
        | cons y ys => simp only [joi, List.cons_append] at ih ⊢; rw [ih]
theorem spl_app : ∀ (a b : List UInt8), spl (a ++ 47 :: b) = spl a ++ spl b
  | [], b => by simp [spl]
  | x :: a, b => by
    have ih := spl_app a b
    have hne := spl_ne a
    by_cases hx : x = 47
    · subst hx; simp only [List.cons_append, spl, if_true, ih]
    · simp only [List.cons_append, spl, hx, if_false, ih]
      cases h : spl a with
      | nil => exact absurd h hne
      | cons y ys => rfl
theorem joi_app : ∀ (a b : List (List UInt8)), a ≠ [] → b ≠ [] → joi (a ++ b) = joi a ++ 47 :: joi b
  | [], b, h, _ => absurd rfl h
  | [x], b, _, hb => by
    cases b with
    | nil => exact absurd rfl hb
    | cons y r => rfl
  | x :: y :: r, b, _, hb => by
    have ih := joi_app (y :: r) b (by simp) hb
    simp only [List.cons_append, joi] at ih ⊢
    rw [ih, List.append_assoc]; rfl
theorem pre_list (d s : ByteArray) : ((d ++ slash).size ≤ s.size ∧ s.extract 0 (d ++ slash).size = d ++ slash) ↔ ∃ t, s.data.toList = d.data.toList ++ 47 :: t := by
  have hds : (d ++ slash).data.toList = d.data.toList ++ [47] := by simp [ByteArray.data_append]
  have hsz : (d ++ slash).size = d.data.toList.length + 1 := by
    rw [ByteArray.size_append, Array.length_toList]; rfl
  have hss : s.size = s.data.toList.length := by rw [Array.length_toList]; rfl
  constructor
  · rintro ⟨h1, h2⟩
    have h3 := congrArg (fun b : ByteArray => b.data.toList) h2
    rw [ext_list, List.drop_zero, hds] at h3
    refine ⟨s.data.toList.drop (d ++ slash).size, ?_⟩
    conv => lhs; rw [← List.take_append_drop (d ++ slash).size s.data.toList, h3]
    simp
  · rintro ⟨t, h⟩
    refine ⟨by rw [hsz, hss, h]; simp, ?_⟩
    apply ByteArray.ext
    apply Array.toList_inj.1
    rw [ext_list, List.drop_zero, hds, h, hsz, show d.data.toList ++ 47 :: t = (d.data.toList ++ [47]) ++ t by simp]
    exact List.take_left' (by simp)
theorem under_law (d s : ByteArray) : (∃ t, s.data.toList = d.data.toList ++ 47 :: t) ↔ (partsOf d).length < (partsOf s).length ∧ partsOf d = (partsOf s).take (partsOf d).length := by
  unfold partsOf
  rw [List.length_map, List.length_map, ← List.map_take]
  have hinj : ∀ a b : List (List UInt8), a.map (fun l => (⟨l.toArray⟩ : ByteArray)) = b.map (fun l => (⟨l.toArray⟩ : ByteArray)) → a = b := by
    intro a b h
    have := congrArg (List.map fun b : ByteArray => b.data.toList) h
    simpa [List.map_map, Function.comp_def] using this
  constructor
  · rintro ⟨t, h⟩
    rw [h, spl_app]
    have hne := spl_ne t
    have hpos : 0 < (spl t).length := List.length_pos_iff.2 hne
    refine ⟨by rw [List.length_append]; omega, ?_⟩
    rw [List.take_left']; rfl
  · rintro ⟨h1, h2⟩
    have h3 := hinj _ _ h2
    have h4 : spl s.data.toList = spl d.data.toList ++ (spl s.data.toList).drop (spl d.data.toList).length := by
      conv => lhs; rw [← List.take_append_drop (spl d.data.toList).length (spl s.data.toList), ← h3]
    have h5 : (spl s.data.toList).drop (spl d.data.toList).length ≠ [] := by
      intro e
      have := List.drop_eq_nil_iff.1 e; omega
    refine ⟨joi ((spl s.data.toList).drop (spl d.data.toList).length), ?_⟩
    conv => lhs; rw [← joi_spl s.data.toList, h4]
    rw [joi_app _ _ (spl_ne _) h5, joi_spl]
def underP (d s : ByteArray) : Bool := pathOk d && pathOk s && decide ((partsOf d).length < (partsOf s).length) && decide (partsOf d = (partsOf s).take (partsOf d).length)
theorem underP_eq (d s : ByteArray) : underP d s = under d s := by
  unfold underP under
  rw [Bool.and_assoc]
  congr 1
  rw [Bool.eq_iff_iff, Bool.and_eq_true, decide_eq_true_eq, decide_eq_true_eq, decide_eq_true_eq, pre_list, under_law]
set_option maxRecDepth 4000 in
theorem refUnder_ok (d s : ByteArray) (hd : d.size ≤ 4000000000 - 1) (hs : s.size ≤ 4000000000 - 1) : ACalls prog 45 0 [Sx d, Sx s] [] fun r h => r = B (under d s) ∧ h = [] := by
  rw [← underP_eq]
  have h1 := refSplit_ok d hd
  have h2 := refSplit_ok s hs
  have h3 := refPartsOf_ok d hd
  have h4 := refPartsOf_ok s hs
  have l1 := parts_le d
  have l2 := parts_le s
  have hu : underP d s = (pathOk d && pathOk s && decide ((partsOf d).length < (partsOf s).length) && decide (partsOf d = (partsOf s).take (partsOf d).length)) := rfl
  generalize underP d s = W at *
  generalize partsOf d = a at *
  generalize partsOf s = b at *
  have hma : (List.map rowS a).length = a.length := List.length_map _
  have hmb : (List.map rowS b).length = b.length := List.length_map _
  refine fnC lay_ok func45 rfl rfl rfl rfl rfl ?_
  cases hpd : pathOk d <;> rw [hpd] at h3 hu
  · repeat' first | refine wr (by omega) ?_ | refine ln ?_ | refine stp lay_ok rfl ?_ | refine fin ?_ | refine n_thn ?_ | refine n_blk ?_ | refine e_thn ?_ | refine e_hit ?_ | refine e_miss rfl ?_ | refine r_thn ?_ | refine r_blk ?_ | refine e_rr ?_ | refine r_rr ?_ | refine e_cr ?_ | refine r_cr ?_ | refine .seq ?_ | refine reg ?_ | refine .block ?_ | refine .skip ?_ | refine .ret ?_ | refine .exit ?_ | refine cndT rfl ?_ | refine cndF rfl ?_ | refine c_dec rfl (fun hc => ?_) (fun hc => ?_) | refine c_ndec rfl (fun hc => ?_) (fun hc => ?_) | refine cnd rfl (fun hc => ?_) (fun hc => ?_) | ((first | refine o_none rfl ?_ | refine o_none_ ?_ | refine o_yes rfl rfl rfl ?_ | refine o_yes_ rfl rfl ?_); first | refine st_pure (h1) b62 rfl rfl rfl rfl ?_ | refine st_pure (h2) b62 rfl rfl rfl rfl ?_ | refine st_pure (h3) b61 rfl rfl rfl rfl ?_) | refine gd rfl rfl rfl (fun hg => ?_) (fun hg => ?_) | refine gn rfl rfl rfl (fun hg => ?_) (fun hg => ?_) | refine dwr (by omega) ?_ | refine dwl ?_ | refine dws lay_ok rfl rfl rfl rfl rfl rfl rfl ?_ | refine dwu lay_ok rfl rfl rfl rfl rfl rfl rfl rfl rfl ?_ | refine dw_end ?_ | refine dw_skip rfl rfl rfl ?_ | refine dwn lay_ok rfl rfl rfl rfl rfl ?_ | refine dwb rfl rfl rfl rfl rfl (by (first | refine st_pure (h1) b62 rfl rfl rfl rfl ?_ | refine st_pure (h2) b62 rfl rfl rfl rfl ?_ | refine st_pure (h3) b61 rfl rfl rfl rfl ?_); exact fin rfl) rfl rfl ?_ | refine dwg rfl rfl rfl rfl rfl (by (first | refine st_pure (h1) b62 rfl rfl rfl rfl ?_ | refine st_pure (h2) b62 rfl rfl rfl rfl ?_ | refine st_pure (h3) b61 rfl rfl rfl rfl ?_); exact fin rfl) rfl rfl rfl rfl rfl ?_ | refine dw_dec rfl rfl rfl (fun hg => ?_) (fun hg => ?_) | refine dw_ndec rfl rfl rfl (fun hg => ?_) (fun hg => ?_)
    refine f_r [] rfl trivial rfl ⟨?_, rfl⟩; rw [hu]; rfl
  cases hps : pathOk s <;> rw [hps] at h4 hu
  · repeat' first | refine wr (by omega) ?_ | refine ln ?_ | refine stp lay_ok rfl ?_ | refine fin ?_ | refine n_thn ?_ | refine n_blk ?_ | refine e_thn ?_ | refine e_hit ?_ | refine e_miss rfl ?_ | refine r_thn ?_ | refine r_blk ?_ | refine e_rr ?_ | refine r_rr ?_ | refine e_cr ?_ | refine r_cr ?_ | refine .seq ?_ | refine reg ?_ | refine .block ?_ | refine .skip ?_ | refine .ret ?_ | refine .exit ?_ | refine cndT rfl ?_ | refine cndF rfl ?_ | refine c_dec rfl (fun hc => ?_) (fun hc => ?_) | refine c_ndec rfl (fun hc => ?_) (fun hc => ?_) | refine cnd rfl (fun hc => ?_) (fun hc => ?_) | ((first | refine o_none rfl ?_ | refine o_none_ ?_ | refine o_yes rfl rfl rfl ?_ | refine o_yes_ rfl rfl ?_); first | refine st_pure (h1) b62 rfl rfl rfl rfl ?_ | refine st_pure (h2) b62 rfl rfl rfl rfl ?_ | refine st_pure (h3) b61 rfl rfl rfl rfl ?_ | refine st_pure (h4) b61 rfl rfl rfl rfl ?_) | refine gd rfl rfl rfl (fun hg => ?_) (fun hg => ?_) | refine gn rfl rfl rfl (fun hg => ?_) (fun hg => ?_) | refine dwr (by omega) ?_ | refine dwl ?_ | refine dws lay_ok rfl rfl rfl rfl rfl rfl rfl ?_ | refine dwu lay_ok rfl rfl rfl rfl rfl rfl rfl rfl rfl ?_ | refine dw_end ?_ | refine dw_skip rfl rfl rfl ?_ | refine dwn lay_ok rfl rfl rfl rfl rfl ?_ | refine dwb rfl rfl rfl rfl rfl (by (first | refine st_pure (h1) b62 rfl rfl rfl rfl ?_ | refine st_pure (h2) b62 rfl rfl rfl rfl ?_ | refine st_pure (h3) b61 rfl rfl rfl rfl ?_ | refine st_pure (h4) b61 rfl rfl rfl rfl ?_); exact fin rfl) rfl rfl ?_ | refine dwg rfl rfl rfl rfl rfl (by (first | refine st_pure (h1) b62 rfl rfl rfl rfl ?_ | refine st_pure (h2) b62 rfl rfl rfl rfl ?_ | refine st_pure (h3) b61 rfl rfl rfl rfl ?_ | refine st_pure (h4) b61 rfl rfl rfl rfl ?_); exact fin rfl) rfl rfl rfl rfl rfl ?_ | refine dw_dec rfl rfl rfl (fun hg => ?_) (fun hg => ?_) | refine dw_ndec rfl rfl rfl (fun hg => ?_) (fun hg => ?_)
    refine f_r [] rfl trivial rfl ⟨?_, rfl⟩; rw [hu]; rfl
  simp only [Bool.true_and] at hu
  repeat' first | refine wr (by omega) ?_ | refine ln ?_ | refine stp lay_ok rfl ?_ | refine fin ?_ | refine n_thn ?_ | refine n_blk ?_ | refine e_thn ?_ | refine e_hit ?_ | refine e_miss rfl ?_ | refine r_thn ?_ | refine r_blk ?_ | refine e_rr ?_ | refine r_rr ?_ | refine e_cr ?_ | refine r_cr ?_ | refine .seq ?_ | refine reg ?_ | refine .block ?_ | refine .skip ?_ | refine .ret ?_ | refine .exit ?_ | refine cndT rfl ?_ | refine cndF rfl ?_ | refine c_dec rfl (fun hc => ?_) (fun hc => ?_) | refine c_ndec rfl (fun hc => ?_) (fun hc => ?_) | refine cnd rfl (fun hc => ?_) (fun hc => ?_) | ((first | refine o_none rfl ?_ | refine o_none_ ?_ | refine o_yes rfl rfl rfl ?_ | refine o_yes_ rfl rfl ?_); first | refine st_pure (h1) b62 rfl rfl rfl rfl ?_ | refine st_pure (h2) b62 rfl rfl rfl rfl ?_ | refine st_pure (h3) b61 rfl rfl rfl rfl ?_ | refine st_pure (h4) b61 rfl rfl rfl rfl ?_) | refine gd rfl rfl rfl (fun hg => ?_) (fun hg => ?_) | refine gn rfl rfl rfl (fun hg => ?_) (fun hg => ?_) | refine dwr (by omega) ?_ | refine dwl ?_ | refine dws lay_ok rfl rfl rfl rfl rfl rfl rfl ?_ | refine dwu lay_ok rfl rfl rfl rfl rfl rfl rfl rfl rfl ?_ | refine dw_end ?_ | refine dw_skip rfl rfl rfl ?_ | refine dwn lay_ok rfl rfl rfl rfl rfl ?_ | refine dwb rfl rfl rfl rfl rfl (by (first | refine st_pure (h1) b62 rfl rfl rfl rfl ?_ | refine st_pure (h2) b62 rfl rfl rfl rfl ?_ | refine st_pure (h3) b61 rfl rfl rfl rfl ?_ | refine st_pure (h4) b61 rfl rfl rfl rfl ?_); exact fin rfl) rfl rfl ?_ | refine dwg rfl rfl rfl rfl rfl (by (first | refine st_pure (h1) b62 rfl rfl rfl rfl ?_ | refine st_pure (h2) b62 rfl rfl rfl rfl ?_ | refine st_pure (h3) b61 rfl rfl rfl rfl ?_ | refine st_pure (h4) b61 rfl rfl rfl rfl ?_); exact fin rfl) rfl rfl rfl rfl rfl ?_ | refine dw_dec rfl rfl rfl (fun hg => ?_) (fun hg => ?_) | refine dw_ndec rfl rfl rfl (fun hg => ?_) (fun hg => ?_)
  · refine f_r [] rfl trivial rfl ⟨?_, rfl⟩; rw [hu, decide_eq_false (by omega)]; rfl
  · rw [decide_eq_true (by omega), Bool.true_and] at hu
    refine lpR (fun k => k ≤ a.length ∧ ∀ j (h1 : j < a.length) (h2 : j < b.length), j < k → a[j] = b[j]) (fun k => a.length - k) (fun k => [(7, I k)]) (fun k => []) (0) [5, 6] [] [] rfl rfl rfl (.of [] (by (repeat' first | exact trivial | refine And.intro ?_ ?_ | rfl); first | done | fail) (by (repeat' first | exact trivial | refine And.intro ?_ ?_ | rfl); first | done | fail) rfl) ?_ ?_
    · exact ⟨Nat.zero_le _, fun j h1 h2 h3 => by omega⟩
    rintro k ⟨hk, hall⟩
    refine nrm rfl rfl ?_
    repeat' first | refine wr (by omega) ?_ | refine ln ?_ | refine stp lay_ok rfl ?_ | refine fin ?_ | refine n_thn ?_ | refine n_blk ?_ | refine e_thn ?_ | refine e_hit ?_ | refine e_miss rfl ?_ | refine r_thn ?_ | refine r_blk ?_ | refine e_rr ?_ | refine r_rr ?_ | refine e_cr ?_ | refine r_cr ?_ | refine .seq ?_ | refine reg ?_ | refine .block ?_ | refine .skip ?_ | refine .ret ?_ | refine .exit ?_ | refine cndT rfl ?_ | refine cndF rfl ?_ | refine c_dec rfl (fun hc => ?_) (fun hc => ?_) | refine c_ndec rfl (fun hc => ?_) (fun hc => ?_) | refine cnd rfl (fun hc => ?_) (fun hc => ?_) | refine gd rfl rfl rfl (fun hg => ?_) (fun hg => ?_) | refine gn rfl rfl rfl (fun hg => ?_) (fun hg => ?_) | refine dwr (by omega) ?_ | refine dwl ?_ | refine dws lay_ok rfl rfl rfl rfl rfl rfl rfl ?_ | refine dwu lay_ok rfl rfl rfl rfl rfl rfl rfl rfl rfl ?_ | refine dw_end ?_ | refine dw_skip rfl rfl rfl ?_ | refine dwn lay_ok rfl rfl rfl rfl rfl ?_ | refine dw_dec rfl rfl rfl (fun hg => ?_) (fun hg => ?_) | refine dw_ndec rfl rfl rfl (fun hg => ?_) (fun hg => ?_)
    · have hka : k < a.length := by omega
      have hkb : k < b.length := by omega
      have hat := at_rowS hka
      have hbt := at_rowS hkb
      refine dreg [(0, [], [34, 37, 38, 39, 40]), (1, [], [33, 37, 38, 39, 40]), (2, [0, 1], [37, 38, 39, 40]), (3, [0, 1, 2], [37, 38, 39, 40]), (4, [], [33, 34, 35, 36, 38]), (5, [], [33, 34, 35, 36, 37]), (6, [4, 5], [33, 34, 35, 36]), (7, [4, 5, 6], [33, 34, 35, 36]), (8, [0, 1, 2, 3, 4, 5, 6, 7], [])] mixed (by kernel_rfl) ?_
      repeat' first | refine wr (by omega) ?_ | refine ln ?_ | refine stp lay_ok rfl ?_ | refine fin ?_ | refine n_thn ?_ | refine n_blk ?_ | refine e_thn ?_ | refine e_hit ?_ | refine e_miss rfl ?_ | refine r_thn ?_ | refine r_blk ?_ | refine e_rr ?_ | refine r_rr ?_ | refine e_cr ?_ | refine r_cr ?_ | refine .seq ?_ | refine reg ?_ | refine .block ?_ | refine .skip ?_ | refine .ret ?_ | refine .exit ?_ | refine cndT rfl ?_ | refine cndF rfl ?_ | refine c_dec rfl (fun hc => ?_) (fun hc => ?_) | refine c_ndec rfl (fun hc => ?_) (fun hc => ?_) | refine cnd rfl (fun hc => ?_) (fun hc => ?_) | ((first | refine o_none rfl ?_ | refine o_none_ ?_ | refine o_yes rfl rfl rfl ?_ | refine o_yes_ rfl rfl ?_); first | refine st_index (rowS a[k]) lay_ok rfl rfl rfl rfl (by omega) hat ?_ | refine st_index (rowS b[k]) lay_ok rfl rfl rfl rfl (by omega) hbt ?_) | refine gd rfl rfl rfl (fun hg => ?_) (fun hg => ?_) | refine gn rfl rfl rfl (fun hg => ?_) (fun hg => ?_) | refine dwr (by omega) ?_ | refine dwl ?_ | refine dws lay_ok rfl rfl rfl rfl rfl rfl rfl ?_ | refine dwu lay_ok rfl rfl rfl rfl rfl rfl rfl rfl rfl ?_ | refine dw_end ?_ | refine dw_skip rfl rfl rfl ?_ | refine dwn lay_ok rfl rfl rfl rfl rfl ?_ | refine dwb rfl rfl rfl rfl rfl (by (first | refine st_index (rowS a[k]) lay_ok rfl rfl rfl rfl (by omega) hat ?_ | refine st_index (rowS b[k]) lay_ok rfl rfl rfl rfl (by omega) hbt ?_); exact fin rfl) rfl rfl ?_ | refine dwg rfl rfl rfl rfl rfl (by (first | refine st_index (rowS a[k]) lay_ok rfl rfl rfl rfl (by omega) hat ?_ | refine st_index (rowS b[k]) lay_ok rfl rfl rfl rfl (by omega) hbt ?_); exact fin rfl) rfl rfl rfl rfl rfl ?_ | refine dw_dec rfl rfl rfl (fun hg => ?_) (fun hg => ?_) | refine dw_ndec rfl rfl rfl (fun hg => ?_) (fun hg => ?_)
      · refine f_r [] rfl trivial rfl ⟨?_, rfl⟩
        rw [hu, decide_eq_false (fun e => hc (by
          have e2 := congrArg (fun l => l[k]?) e
          simp only [List.getElem?_take, hka, if_true] at e2
          rw [List.getElem?_eq_getElem hka, List.getElem?_eq_getElem hkb] at e2
          exact Option.some.inj e2))]; rfl
      · refine n_rr (k + 1) ?_ (.of [] (by (repeat' first | exact trivial | refine And.intro ?_ ?_ | rfl); first | done | fail) (by (repeat' first | exact trivial | refine And.intro ?_ ?_ | rfl); first | done | fail) rfl) ?_
        · omega
        · refine ⟨hka, fun j h1 h2 h3 => ?_⟩
          by_cases hj : j = k
          · subst hj; exact Decidable.not_not.1 hc
          · exact hall j h1 h2 (by omega)
    · refine f_r [] rfl trivial rfl ⟨?_, rfl⟩
      rw [hu, decide_eq_true (List.ext_getElem (by rw [List.length_take]; omega) fun j h1 h2 => by
        rw [List.getElem_take]; exact hall j h1 (by rw [List.length_take] at h2; omega) (by omega))]; rfl
end Go.Proofs.YtmekcbbieacioaaGreatDoorFn
namespace Go.Proofs.YtmekcbbieacioaaGreatDoorFn
open Go.Proofs.YtmekcbbieacioaaGreatDoorAl Go.Proofs.Tryz
/-! ### under, by the text -/
theorem partOk_nil : partOk ⟨#[]⟩ = false := by
  unfold partOk runs
  rfl
theorem pathOk_spl (s : ByteArray) : pathOk s = (decide ((spl s.data.toList).length ≤ 8) && (spl s.data.toList).all fun l => partOk ⟨l.toArray⟩) := by
  unfold pathOk partsOf
  rw [List.length_map, List.all_map]; rfl
/-- The law's own words. -/
def textU (d p : ByteArray) : Prop := p.size > d.size + 1 ∧ p.extract 0 (d.size + 1) = d ++ slash
instance (d p : ByteArray) : Decidable (textU d p) := inferInstanceAs (Decidable (_ ∧ _))
theorem cat_size (d : ByteArray) : (d ++ slash).size = d.size + 1 := by rw [ByteArray.size_append]; rfl
theorem textU_iff {d p : ByteArray} (hp : pathOk p = true) : textU d p ↔ under d p = true := by
  have hpre := pre_list d p
  rw [cat_size] at hpre
  have hu : under d p = true ↔ pathOk d = true ∧ ∃ t, p.data.toList = d.data.toList ++ 47 :: t := by
    unfold under
    rw [hp, Bool.and_true, Bool.and_eq_true, decide_eq_true_eq, cat_size, hpre]
  rw [hu]
  have hps := hp
  rw [pathOk_spl, Bool.and_eq_true, decide_eq_true_eq] at hps
  constructor
  · rintro ⟨h1, h2⟩
    obtain ⟨t, ht⟩ := hpre.1 ⟨by omega, h2⟩
    refine ⟨?_, t, ht⟩
    rw [ht, spl_app, List.length_append, List.all_append, Bool.and_eq_true] at hps
    rw [pathOk_spl, Bool.and_eq_true, decide_eq_true_eq]
    exact ⟨by omega, hps.2.1⟩
  · rintro ⟨h1, t, ht⟩
    obtain ⟨h3, h4⟩ := hpre.2 ⟨t, ht⟩
    refine ⟨?_, h4⟩
    rcases Nat.lt_or_ge (d.size + 1) p.size with h | h
    · exact h
    · exfalso
      have hsz : p.data.toList.length = d.data.toList.length + 1 := by
        rw [Array.length_toList, Array.length_toList]
        show p.size = d.size + 1
        omega
      rw [ht, List.length_append, List.length_cons] at hsz
      have htn : t = [] := List.length_eq_zero_iff.1 (by omega)
      subst htn
      rw [ht, spl_app, List.all_append, Bool.and_eq_true] at hps
      have := hps.2.2
      simp only [spl, List.all_cons, List.all_nil, Bool.and_true] at this
      rw [partOk_nil] at this
      cases this
theorem tree_path {l : List EV} (hb : badFrom l l.length 0 = none) (i : Nat) (hi : i < l.length) : pathOk l[i].path = true := by
  have h := badFrom_none l l.length 0 hb i (Nat.zero_le _) (by omega) hi
  unfold entryC at h
  cases hp : pathOk l[i].path with
  | true => rfl
  | false => rw [hp] at h; cases h
theorem tree_whole {l : List EV} (hb : badFrom l l.length 0 = none) (i : Nat) (hi : i < l.length) : wholeB l[i] = true := by
  have h := badFrom_none l l.length 0 hb i (Nat.zero_le _) (by omega) hi
  unfold entryC at h
  rw [if_pos (tree_path hb i hi)] at h
  have key : ∀ (X W : Bool), (if X = true then some (4 : Int) else if W = true then none else some 1) = none → W = true := by
    intro X W h; cases X <;> cases W <;> simp at h ⊢
  exact key _ _ h
/-- Where a path's entry is, in a tree. -/
theorem find_at {l : List EV} (hb : badFrom l l.length 0 = none) (i : Nat) (hi : i < l.length) : loE l l[i].path = i := by
  refine loE_eq (by omega) (fun q hq hqi => ?_) (fun q hq hiq => ?_)
  · rw [cmS_lt]; exact tree_sorted hb q i hqi hi
  · rw [cmS_lt]
    intro h
    by_cases hiq' : i = q
    · subst hiq'
      rw [strLt_iff] at h
      exact List.lt_irrefl _ h
    · have h2 := tree_sorted hb i q (by omega) hq
      rw [strLt_iff] at h h2
      exact List.lt_irrefl _ (List.lt_trans h h2)
theorem findR_hit {l : List EV} (h32 : ¬ 32 < l.length) (hb : badFrom l l.length 0 = none) (i : Nat) (hi : i < l.length) : findR l l[i].path = .tuple [.st (.agg (rowE l[i])), nilE] := by
  unfold findR
  rw [if_neg h32, hb]
  simp only
  rw [find_at hb i hi, List.getElem?_eq_getElem hi]
  simp
theorem findR_miss {l : List EV} {t : ByteArray} (h32 : ¬ 32 < l.length) (hb : badFrom l l.length 0 = none) (h : ∀ e ∈ l, e.path ≠ t) : findR l t = .tuple [.st (.agg zE), errE 3] := by
  unfold findR
  rw [if_neg h32, hb]
  simp only
  split
  · rename_i e he
    rw [if_neg (h e (List.mem_of_getElem? he))]
  · rfl
theorem badFrom_nat (l : List EV) : ∀ f i {k : Nat} {n : Int}, badFrom l f i = some (k, n) → n = 2 ∨ n = 4 ∨ n = 1
  | 0, i, k, n, h => by simp [badFrom] at h
  | f + 1, i, k, n, h => by
    simp only [badFrom] at h
    split at h
    · cases h
    · split at h
      · rename_i e he hx
        cases h
        unfold entryC at hx
        have key : ∀ (P X W : Bool) (m : Int), (if P = true then (if X = true then some (4 : Int) else if W = true then none else some 1) else some 2) = some m → m = 2 ∨ m = 4 ∨ m = 1 := by
          intro P X W m h; cases P <;> cases X <;> cases W <;> simp at h <;> omega
        exact key _ _ _ _ hx
      · exact badFrom_nat l f (i + 1) h
end Go.Proofs.YtmekcbbieacioaaGreatDoorFn
namespace Go.Proofs.YtmekcbbieacioaaGreatDoorFn
open Go.Proofs.YtmekcbbieacioaaGreatDoorAl Go.Proofs.Tryz
attribute [local irreducible] IntKind.wrap CodeOk OpsL OpG ACalls thn inBlk rndR cutR WkR Wk fnR DW ExtOk partsOf
/-! ### a tree's files -/
def backF (e : EV) : FV := ⟨e.path, joinB e.keys⟩
def lostB (cs : List ByteArray) (e : EV) : Bool := e.keys.any fun k => !memB k cs
def lostAt (cs : List ByteArray) : List EV → Nat → Option Nat
  | [], _ => none
  | e :: r, i => if lostB cs e = true then some i else lostAt cs r (i + 1)
theorem lostAt_step (cs : List ByteArray) {l : List EV} {k : Nat} (h : k < l.length) : lostAt cs (l.drop k) k = if lostB cs l[k] = true then some k else lostAt cs (l.drop (k + 1)) (k + 1) := by
  rw [List.drop_eq_getElem_cons h]; rfl
theorem memB_take {cs : List ByteArray} {k : Nat} (h : k < cs.length) (x : ByteArray) : memB x (cs.take (k + 1)) = (memB x (cs.take k) || decide (x = cs[k])) := by
  unfold memB
  rw [List.take_succ_eq_append_getElem h, List.any_append]; simp
theorem join_tot (ks : List ByteArray) : (joinB ks).size = tot ks := by
  rw [joinB_size]
  induction ks with
  | nil => rfl
  | cons k r ih =>
    rw [List.flatMap_cons, List.length_append, ih]
    simp only [tot]
    congr 1
theorem whole_join {e : EV} (h : wholeB e = true) : (joinB e.keys).size ≤ 1024 := by
  rw [join_tot]
  unfold wholeB at h
  simp only [Bool.and_eq_true, decide_eq_true_eq] at h
  omega
def restR (l : List EV) (cs : List ByteArray) : AV := if 32 < l.length then .tuple [.st .nilsl, errE 7] else match badFrom l l.length 0 with
  | some (i, n) => .tuple [.st .nilsl, spotE i n]
  | none => match lostAt cs l 0 with
    | some i => .tuple [.st .nilsl, spotE i 3]
    | none => .tuple [.st (.sl 2 ((l.map backF).map rowF)), nilE]
set_option maxHeartbeats 8000000 in
set_option maxRecDepth 4000 in
theorem restore_ok (l : List EV) (cs : List ByteArray) (hl : l.length ≤ 4000000000) (hp : ∀ e ∈ l, e.path.size ≤ 4000000000 - 1) (hk : ∀ e ∈ l, e.keys.length ≤ 4000000000) (hcs : cs.length ≤ 4000000000) :
    ACalls prog 23 0 [.st (.sl 3 (l.map rowE)), .st (.sl 1 (cs.map rowS))] [] fun r h => r = restR l cs ∧ h = [] := by
  have hck := treeCheck_ok l hl hp hk
  have hm : (List.map rowE l).length = l.length := List.length_map _
  have hmc : (List.map rowS cs).length = cs.length := List.length_map _
  unfold restR
  unfold treeC at hck
  refine fnC lay_ok func23 rfl rfl rfl rfl rfl ?_
  by_cases h32 : 32 < l.length
  · rw [if_pos h32] at hck ⊢
    repeat' first | refine wr (by omega) ?_ | refine ln ?_ | refine stp lay_ok rfl ?_ | refine fin ?_ | refine n_thn ?_ | refine n_blk ?_ | refine e_thn ?_ | refine e_hit ?_ | refine e_miss rfl ?_ | refine r_thn ?_ | refine r_blk ?_ | refine e_rr ?_ | refine r_rr ?_ | refine e_cr ?_ | refine r_cr ?_ | refine .seq ?_ | refine reg ?_ | refine .block ?_ | refine .skip ?_ | refine .ret ?_ | refine .exit ?_ | refine cndT rfl ?_ | refine cndF rfl ?_ | refine c_dec rfl (fun hc => ?_) (fun hc => ?_) | refine c_ndec rfl (fun hc => ?_) (fun hc => ?_) | refine cnd rfl (fun hc => ?_) (fun hc => ?_) | ((first | refine o_none rfl ?_ | refine o_none_ ?_ | refine o_yes rfl rfl rfl ?_ | refine o_yes_ rfl rfl ?_); first | refine st_pure (hck) b17 rfl rfl rfl rfl ?_) | refine gd rfl rfl rfl (fun hg => ?_) (fun hg => ?_) | refine gn rfl rfl rfl (fun hg => ?_) (fun hg => ?_) | refine dwr (by omega) ?_ | refine dwl ?_ | refine dws lay_ok rfl rfl rfl rfl rfl rfl rfl ?_ | refine dwu lay_ok rfl rfl rfl rfl rfl rfl rfl rfl rfl ?_ | refine dw_end ?_ | refine dw_skip rfl rfl rfl ?_ | refine dwn lay_ok rfl rfl rfl rfl rfl ?_ | refine dwb rfl rfl rfl rfl rfl (by (first | refine st_pure (hck) b17 rfl rfl rfl rfl ?_); exact fin rfl) rfl rfl ?_ | refine dwg rfl rfl rfl rfl rfl (by (first | refine st_pure (hck) b17 rfl rfl rfl rfl ?_); exact fin rfl) rfl rfl rfl rfl rfl ?_ | refine dw_dec rfl rfl rfl (fun hg => ?_) (fun hg => ?_) | refine dw_ndec rfl rfl rfl (fun hg => ?_) (fun hg => ?_)
    refine f_r [] rfl trivial rfl ⟨?_, rfl⟩
    rfl
  rw [if_neg h32] at hck ⊢
  cases hb : badFrom l l.length 0 with
  | some x =>
    obtain ⟨i, n⟩ := x
    rw [hb] at hck
    simp only at hck ⊢
    repeat' first | refine wr (by omega) ?_ | refine ln ?_ | refine stp lay_ok rfl ?_ | refine fin ?_ | refine n_thn ?_ | refine n_blk ?_ | refine e_thn ?_ | refine e_hit ?_ | refine e_miss rfl ?_ | refine r_thn ?_ | refine r_blk ?_ | refine e_rr ?_ | refine r_rr ?_ | refine e_cr ?_ | refine r_cr ?_ | refine .seq ?_ | refine reg ?_ | refine .block ?_ | refine .skip ?_ | refine .ret ?_ | refine .exit ?_ | refine cndT rfl ?_ | refine cndF rfl ?_ | refine c_dec rfl (fun hc => ?_) (fun hc => ?_) | refine c_ndec rfl (fun hc => ?_) (fun hc => ?_) | refine cnd rfl (fun hc => ?_) (fun hc => ?_) | ((first | refine o_none rfl ?_ | refine o_none_ ?_ | refine o_yes rfl rfl rfl ?_ | refine o_yes_ rfl rfl ?_); first | refine st_pure (hck) b17 rfl rfl rfl rfl ?_) | refine gd rfl rfl rfl (fun hg => ?_) (fun hg => ?_) | refine gn rfl rfl rfl (fun hg => ?_) (fun hg => ?_) | refine dwr (by omega) ?_ | refine dwl ?_ | refine dws lay_ok rfl rfl rfl rfl rfl rfl rfl ?_ | refine dwu lay_ok rfl rfl rfl rfl rfl rfl rfl rfl rfl ?_ | refine dw_end ?_ | refine dw_skip rfl rfl rfl ?_ | refine dwn lay_ok rfl rfl rfl rfl rfl ?_ | refine dwb rfl rfl rfl rfl rfl (by (first | refine st_pure (hck) b17 rfl rfl rfl rfl ?_); exact fin rfl) rfl rfl ?_ | refine dwg rfl rfl rfl rfl rfl (by (first | refine st_pure (hck) b17 rfl rfl rfl rfl ?_); exact fin rfl) rfl rfl rfl rfl rfl ?_ | refine dw_dec rfl rfl rfl (fun hg => ?_) (fun hg => ?_) | refine dw_ndec rfl rfl rfl (fun hg => ?_) (fun hg => ?_)
    refine f_r [] rfl trivial rfl ⟨?_, rfl⟩
    rfl
  | none =>
    rw [hb] at hck
    simp only at hck ⊢
    repeat' first | refine wr (by omega) ?_ | refine ln ?_ | refine stp lay_ok rfl ?_ | refine fin ?_ | refine n_thn ?_ | refine n_blk ?_ | refine e_thn ?_ | refine e_hit ?_ | refine e_miss rfl ?_ | refine r_thn ?_ | refine r_blk ?_ | refine e_rr ?_ | refine r_rr ?_ | refine e_cr ?_ | refine r_cr ?_ | refine .seq ?_ | refine reg ?_ | refine .block ?_ | refine .skip ?_ | refine .ret ?_ | refine .exit ?_ | refine cndT rfl ?_ | refine cndF rfl ?_ | refine c_dec rfl (fun hc => ?_) (fun hc => ?_) | refine c_ndec rfl (fun hc => ?_) (fun hc => ?_) | refine cnd rfl (fun hc => ?_) (fun hc => ?_) | ((first | refine o_none rfl ?_ | refine o_none_ ?_ | refine o_yes rfl rfl rfl ?_ | refine o_yes_ rfl rfl ?_); first | refine st_pure (hck) b17 rfl rfl rfl rfl ?_ | refine st_makeMap ?_) | refine gd rfl rfl rfl (fun hg => ?_) (fun hg => ?_) | refine gn rfl rfl rfl (fun hg => ?_) (fun hg => ?_) | refine dwr (by omega) ?_ | refine dwl ?_ | refine dws lay_ok rfl rfl rfl rfl rfl rfl rfl ?_ | refine dwu lay_ok rfl rfl rfl rfl rfl rfl rfl rfl rfl ?_ | refine dw_end ?_ | refine dw_skip rfl rfl rfl ?_ | refine dwn lay_ok rfl rfl rfl rfl rfl ?_ | refine dwb rfl rfl rfl rfl rfl (by (first | refine st_pure (hck) b17 rfl rfl rfl rfl ?_ | refine st_makeMap ?_); exact fin rfl) rfl rfl ?_ | refine dwg rfl rfl rfl rfl rfl (by (first | refine st_pure (hck) b17 rfl rfl rfl rfl ?_ | refine st_makeMap ?_); exact fin rfl) rfl rfl rfl rfl rfl ?_ | refine dw_dec rfl rfl rfl (fun hg => ?_) (fun hg => ?_) | refine dw_ndec rfl rfl rfl (fun hg => ?_) (fun hg => ?_)
    refine lpR (fun (k, S) => k ≤ cs.length ∧ ∀ x, memB x S = memB x (cs.take k)) (fun (k, S) => cs.length - k) (fun (k, S) => [(21, I k)]) (fun (k, S) => [(0, .map (S.map ent))]) ((0, [])) [0, 7, 19, 20] [0] [] rfl rfl rfl (.of [] (by (repeat' first | exact trivial | refine And.intro ?_ ?_ | rfl); first | done | fail) (by (repeat' first | exact trivial | refine And.intro ?_ ?_ | rfl); first | done | fail) rfl) ?_ ?_
    · exact ⟨Nat.zero_le _, fun x => rfl⟩
    rintro ⟨k, S⟩ ⟨g1, g2⟩
    refine nrm rfl rfl ?_
    by_cases hkc : k < cs.length
    · have hat := at_rowS hkc
      have htk := fun x => memB_take hkc x
      have hput := mput_ent cs[k] S
      have hkind := kind_ent S
      generalize cs[k] = c at *
      repeat' first | refine wr (by omega) ?_ | refine ln ?_ | refine stp lay_ok rfl ?_ | refine fin ?_ | refine n_thn ?_ | refine n_blk ?_ | refine e_thn ?_ | refine e_hit ?_ | refine e_miss rfl ?_ | refine r_thn ?_ | refine r_blk ?_ | refine e_rr ?_ | refine r_rr ?_ | refine e_cr ?_ | refine r_cr ?_ | refine .seq ?_ | refine reg ?_ | refine .block ?_ | refine .skip ?_ | refine .ret ?_ | refine .exit ?_ | refine cndT rfl ?_ | refine cndF rfl ?_ | refine c_dec rfl (fun hc => ?_) (fun hc => ?_) | refine c_ndec rfl (fun hc => ?_) (fun hc => ?_) | refine cnd rfl (fun hc => ?_) (fun hc => ?_) | ((first | refine o_none rfl ?_ | refine o_none_ ?_ | refine o_yes rfl rfl rfl ?_ | refine o_yes_ rfl rfl ?_); first | refine st_index (rowS c) lay_ok rfl rfl rfl rfl (by omega) hat ?_ | refine st_mapUpdate lay_ok rfl rfl rfl rfl rfl rfl rfl rfl rfl rfl hkind ?_) | refine gd rfl rfl rfl (fun hg => ?_) (fun hg => ?_) | refine gn rfl rfl rfl (fun hg => ?_) (fun hg => ?_) | refine dwr (by omega) ?_ | refine dwl ?_ | refine dws lay_ok rfl rfl rfl rfl rfl rfl rfl ?_ | refine dwu lay_ok rfl rfl rfl rfl rfl rfl rfl rfl rfl ?_ | refine dw_end ?_ | refine dw_skip rfl rfl rfl ?_ | refine dwn lay_ok rfl rfl rfl rfl rfl ?_ | refine dwb rfl rfl rfl rfl rfl (by (first | refine st_index (rowS c) lay_ok rfl rfl rfl rfl (by omega) hat ?_ | refine st_mapUpdate lay_ok rfl rfl rfl rfl rfl rfl rfl rfl rfl rfl hkind ?_); exact fin rfl) rfl rfl ?_ | refine dwg rfl rfl rfl rfl rfl (by (first | refine st_index (rowS c) lay_ok rfl rfl rfl rfl (by omega) hat ?_ | refine st_mapUpdate lay_ok rfl rfl rfl rfl rfl rfl rfl rfl rfl rfl hkind ?_); exact fin rfl) rfl rfl rfl rfl rfl ?_ | refine dw_dec rfl rfl rfl (fun hg => ?_) (fun hg => ?_) | refine dw_ndec rfl rfl rfl (fun hg => ?_) (fun hg => ?_)
      all_goals first
        | (exfalso; omega)
        | skip
      refine n_rr ((k + 1, addS S c)) ?_ (.of [] (by (repeat' first | exact trivial | refine And.intro ?_ ?_ | rfl | (rw [← hput]; rfl)); first | done | fail) (by (repeat' first | exact trivial | refine And.intro ?_ ?_ | rfl | (rw [← hput]; rfl)); first | done | fail) rfl) ?_
      · show cs.length - (k + 1) < cs.length - k; omega
      · exact ⟨hkc, fun x => by rw [mem_addS, g2 x, htk x]⟩
    have hke : k = cs.length := by omega
    subst hke
    rw [List.take_length] at g2
    have hlost : ∀ e : EV, (e.keys.any fun k => !memB k S) = lostB cs e := fun e => by
      unfold lostB
      congr 1
      funext k
      rw [g2 k]
    repeat' first | refine wr (by omega) ?_ | refine ln ?_ | refine stp lay_ok rfl ?_ | refine fin ?_ | refine n_thn ?_ | refine n_blk ?_ | refine e_thn ?_ | refine e_hit ?_ | refine e_miss rfl ?_ | refine r_thn ?_ | refine r_blk ?_ | refine e_rr ?_ | refine r_rr ?_ | refine e_cr ?_ | refine r_cr ?_ | refine .seq ?_ | refine reg ?_ | refine .block ?_ | refine .skip ?_ | refine .ret ?_ | refine .exit ?_ | refine cndT rfl ?_ | refine cndF rfl ?_ | refine c_dec rfl (fun hc => ?_) (fun hc => ?_) | refine c_ndec rfl (fun hc => ?_) (fun hc => ?_) | refine cnd rfl (fun hc => ?_) (fun hc => ?_) | refine gd rfl rfl rfl (fun hg => ?_) (fun hg => ?_) | refine gn rfl rfl rfl (fun hg => ?_) (fun hg => ?_) | refine dwr (by omega) ?_ | refine dwl ?_ | refine dws lay_ok rfl rfl rfl rfl rfl rfl rfl ?_ | refine dwu lay_ok rfl rfl rfl rfl rfl rfl rfl rfl rfl ?_ | refine dw_end ?_ | refine dw_skip rfl rfl rfl ?_ | refine dwn lay_ok rfl rfl rfl rfl rfl ?_ | refine dw_dec rfl rfl rfl (fun hg => ?_) (fun hg => ?_) | refine dw_ndec rfl rfl rfl (fun hg => ?_) (fun hg => ?_)
    all_goals first
      | (exfalso; omega)
      | skip
    refine CodeOk.wk (Wk.nilT 2 10 rfl rfl) (Nat.le_succ _) ?_
    refine nrm rfl rfl ?_
    refine lpR (fun (k, out) => k ≤ l.length ∧ out = (l.take k).map backF ∧ lostAt cs l 0 = lostAt cs (l.drop k) k) (fun (k, out) => l.length - k) (fun (k, out) => [(30, I k), (10, .lsl 3 2 0 (out.map rowF).length)]) (fun (k, out) => [(3, .arr 2 (out.map rowF))]) ((0, [])) [7, 28, 29] [] [2] rfl rfl rfl (.of [2] (by (repeat' first | exact trivial | refine And.intro ?_ ?_ | rfl); first | done | fail) (by (repeat' first | exact trivial | refine And.intro ?_ ?_ | rfl); first | done | fail) rfl) ?_ ?_
    · exact ⟨Nat.zero_le _, rfl, rfl⟩
    rintro ⟨k, out⟩ ⟨q1, q2, q3⟩
    refine nrm rfl rfl ?_
    have hmo : (List.map rowF out).length = out.length := List.length_map _
    have hol : out.length = k := by rw [q2]; simp; omega
    by_cases hk' : k < l.length
    case neg =>
      have hke : k = l.length := by omega
      subst hke
      rw [List.take_length] at q2
      rw [List.drop_length] at q3
      rw [q3, lostAt, ← q2]
      repeat' first | refine wr (by omega) ?_ | refine ln ?_ | refine stp lay_ok rfl ?_ | refine fin ?_ | refine n_thn ?_ | refine n_blk ?_ | refine e_thn ?_ | refine e_hit ?_ | refine e_miss rfl ?_ | refine r_thn ?_ | refine r_blk ?_ | refine e_rr ?_ | refine r_rr ?_ | refine e_cr ?_ | refine r_cr ?_ | refine .seq ?_ | refine reg ?_ | refine .block ?_ | refine .skip ?_ | refine .ret ?_ | refine .exit ?_ | refine cndT rfl ?_ | refine cndF rfl ?_ | refine c_dec rfl (fun hc => ?_) (fun hc => ?_) | refine c_ndec rfl (fun hc => ?_) (fun hc => ?_) | refine cnd rfl (fun hc => ?_) (fun hc => ?_) | refine gd rfl rfl rfl (fun hg => ?_) (fun hg => ?_) | refine gn rfl rfl rfl (fun hg => ?_) (fun hg => ?_) | refine dwr (by omega) ?_ | refine dwl ?_ | refine dws lay_ok rfl rfl rfl rfl rfl rfl rfl ?_ | refine dwu lay_ok rfl rfl rfl rfl rfl rfl rfl rfl rfl ?_ | refine dw_end ?_ | refine dw_skip rfl rfl rfl ?_ | refine dwn lay_ok rfl rfl rfl rfl rfl ?_ | refine dw_dec rfl rfl rfl (fun hg => ?_) (fun hg => ?_) | refine dw_ndec rfl rfl rfl (fun hg => ?_) (fun hg => ?_)
      all_goals first
        | (exfalso; omega)
        | skip
      refine f_end (n0 := 0) (t'' := [(4, .st (.sl 2 (out.map rowF))), (5, nilE)]) (h'' := []) (Wk.then (Wk.frz 3 [4, 5] rfl rfl rfl (by (repeat' first | exact trivial | refine And.intro ?_ ?_ | rfl); first | done | fail) (by (repeat' first | exact trivial | refine And.intro ?_ ?_ | rfl); first | done | fail) rfl rfl) (WkR.of [] (by (repeat' first | exact trivial | refine And.intro ?_ ?_ | rfl); first | done | fail) (by (repeat' first | exact trivial | refine And.intro ?_ ?_ | rfl); first | done | fail) rfl)) rfl rfl ⟨?_, rfl⟩
      rfl
    have hat := at_rowE hk'
    have hst := lostAt_step cs hk'
    rw [← q3] at hst
    have hkl := hk _ (List.getElem_mem hk')
    have hcon := conR_ok S l[k].keys hkl
    rw [hlost] at hcon
    have hwh := whole_join (tree_whole hb k hk')
    have hj := cJoin_ok l[k].keys (by omega) (by omega)
    have htk : (l.take (k + 1)).map backF = out ++ [backF l[k]] := by
      rw [q2, List.take_succ_eq_append_getElem hk', List.map_append]; rfl
    generalize l[k] = e at *
    obtain ⟨p, z, ks⟩ := e
    simp only at hcon hj hwh
    have hr : List.map rowF out ++ [[SV.str p, SV.str (joinB ks)]] = List.map rowF (out ++ [backF ⟨p, z, ks⟩]) := by rw [List.map_append]; rfl
    have hone : ∀ row ∈ [[SV.str p, SV.str (joinB ks)]], ∀ y ∈ row, SV.one y = true := by
      intro row hrow y hy
      simp only [List.mem_singleton] at hrow
      subst hrow
      simp only [List.mem_cons, List.not_mem_nil, or_false] at hy
      rcases hy with rfl | rfl <;> rfl
    cases hlo : lostB cs ⟨p, z, ks⟩ <;> rw [hlo] at hcon hst
    · rw [if_neg (by simp)] at hst
      repeat' first | refine wr (by omega) ?_ | refine ln ?_ | refine stp lay_ok rfl ?_ | refine fin ?_ | refine n_thn ?_ | refine n_blk ?_ | refine e_thn ?_ | refine e_hit ?_ | refine e_miss rfl ?_ | refine r_thn ?_ | refine r_blk ?_ | refine e_rr ?_ | refine r_rr ?_ | refine e_cr ?_ | refine r_cr ?_ | refine .seq ?_ | refine reg ?_ | refine .block ?_ | refine .skip ?_ | refine .ret ?_ | refine .exit ?_ | refine cndT rfl ?_ | refine cndF rfl ?_ | refine c_dec rfl (fun hc => ?_) (fun hc => ?_) | refine c_ndec rfl (fun hc => ?_) (fun hc => ?_) | refine cnd rfl (fun hc => ?_) (fun hc => ?_) | ((first | refine o_none rfl ?_ | refine o_none_ ?_ | refine o_yes rfl rfl rfl ?_ | refine o_yes_ rfl rfl ?_); first | refine st_index (rowE ⟨p, z, ks⟩) lay_ok rfl rfl rfl rfl (by omega) hat ?_ | refine st_callK [1,0] (hcon) b47 rfl rfl rfl rfl rfl (by (repeat' first | exact trivial | refine And.intro ?_ ?_ | rfl); first | done | fail) ?_) | refine gd rfl rfl rfl (fun hg => ?_) (fun hg => ?_) | refine gn rfl rfl rfl (fun hg => ?_) (fun hg => ?_) | refine dwr (by omega) ?_ | refine dwl ?_ | refine dws lay_ok rfl rfl rfl rfl rfl rfl rfl ?_ | refine dwu lay_ok rfl rfl rfl rfl rfl rfl rfl rfl rfl ?_ | refine dw_end ?_ | refine dw_skip rfl rfl rfl ?_ | refine dwn lay_ok rfl rfl rfl rfl rfl ?_ | refine dwb rfl rfl rfl rfl rfl (by (first | refine st_index (rowE ⟨p, z, ks⟩) lay_ok rfl rfl rfl rfl (by omega) hat ?_ | refine st_callK [1,0] (hcon) b47 rfl rfl rfl rfl rfl (by (repeat' first | exact trivial | refine And.intro ?_ ?_ | rfl); first | done | fail) ?_); exact fin rfl) rfl rfl ?_ | refine dwg rfl rfl rfl rfl rfl (by (first | refine st_index (rowE ⟨p, z, ks⟩) lay_ok rfl rfl rfl rfl (by omega) hat ?_ | refine st_callK [1,0] (hcon) b47 rfl rfl rfl rfl rfl (by (repeat' first | exact trivial | refine And.intro ?_ ?_ | rfl); first | done | fail) ?_); exact fin rfl) rfl rfl rfl rfl rfl ?_ | refine dw_dec rfl rfl rfl (fun hg => ?_) (fun hg => ?_) | refine dw_ndec rfl rfl rfl (fun hg => ?_) (fun hg => ?_)
      all_goals first
        | (exfalso; omega)
        | skip
      refine dreg [(0, [], [45, 46, 47, 48, 49, 50, 51]), (1, [], [44, 47, 48, 49]), (2, [1], [44, 47, 48, 49]), (3, [], [44, 45, 46]), (4, [3], [44, 45, 46]), (5, [3, 4], [44, 45, 46]), (6, [1, 2, 3, 4, 5], [44]), (7, [1, 2, 3, 4, 5, 6], [44]), (8, [0, 1, 2, 3, 4, 5, 6, 7], []), (9, [0, 1, 2, 3, 4, 5, 6, 7, 8], [])] mixed (by kernel_rfl) ?_
      repeat' first | refine wr (by omega) ?_ | refine ln ?_ | refine stp lay_ok rfl ?_ | refine fin ?_ | refine n_thn ?_ | refine n_blk ?_ | refine e_thn ?_ | refine e_hit ?_ | refine e_miss rfl ?_ | refine r_thn ?_ | refine r_blk ?_ | refine e_rr ?_ | refine r_rr ?_ | refine e_cr ?_ | refine r_cr ?_ | refine .seq ?_ | refine reg ?_ | refine .block ?_ | refine .skip ?_ | refine .ret ?_ | refine .exit ?_ | refine cndT rfl ?_ | refine cndF rfl ?_ | refine c_dec rfl (fun hc => ?_) (fun hc => ?_) | refine c_ndec rfl (fun hc => ?_) (fun hc => ?_) | refine cnd rfl (fun hc => ?_) (fun hc => ?_) | ((first | refine o_none rfl ?_ | refine o_none_ ?_ | refine o_yes rfl rfl rfl ?_ | refine o_yes_ rfl rfl ?_); first | refine st_pure (hj) b49 rfl rfl rfl rfl ?_ | refine st_append lay_ok rfl rfl rfl rfl rfl rfl rfl rfl (.lsl rfl rfl) (.sl (rows := [[SV.str p, SV.str (joinB ks)]])) rfl hone (by simp only [List.length_cons, List.length_nil]; omega) (by simp only [List.length_cons, List.length_nil]; omega) ?_) | refine gd rfl rfl rfl (fun hg => ?_) (fun hg => ?_) | refine gn rfl rfl rfl (fun hg => ?_) (fun hg => ?_) | refine dwr (by omega) ?_ | refine dwl ?_ | refine dws lay_ok rfl rfl rfl rfl rfl rfl rfl ?_ | refine dwu lay_ok rfl rfl rfl rfl rfl rfl rfl rfl rfl ?_ | refine dw_end ?_ | refine dw_skip rfl rfl rfl ?_ | refine dwn lay_ok rfl rfl rfl rfl rfl ?_ | refine dwb rfl rfl rfl rfl rfl (by (first | refine st_pure (hj) b49 rfl rfl rfl rfl ?_ | refine st_append lay_ok rfl rfl rfl rfl rfl rfl rfl rfl (.lsl rfl rfl) (.sl (rows := [[SV.str p, SV.str (joinB ks)]])) rfl hone (by simp only [List.length_cons, List.length_nil]; omega) (by simp only [List.length_cons, List.length_nil]; omega) ?_); exact fin rfl) rfl rfl ?_ | refine dwg rfl rfl rfl rfl rfl (by (first | refine st_pure (hj) b49 rfl rfl rfl rfl ?_ | refine st_append lay_ok rfl rfl rfl rfl rfl rfl rfl rfl (.lsl rfl rfl) (.sl (rows := [[SV.str p, SV.str (joinB ks)]])) rfl hone (by simp only [List.length_cons, List.length_nil]; omega) (by simp only [List.length_cons, List.length_nil]; omega) ?_); exact fin rfl) rfl rfl rfl rfl rfl ?_ | refine dw_dec rfl rfl rfl (fun hg => ?_) (fun hg => ?_) | refine dw_ndec rfl rfl rfl (fun hg => ?_) (fun hg => ?_)
      rw [hr]
      refine n_rr ((k + 1, out ++ [backF ⟨p, z, ks⟩])) ?_ (.of [5] (by (repeat' first | exact trivial | refine And.intro ?_ ?_ | rfl | exact congrArg (fun z : Int => some (AV.st (.int .i64 z))) (show (k : Int) + 1 = ((k + 1 : Nat) : Int) by omega)); first | done | fail) (by (repeat' first | exact trivial | refine And.intro ?_ ?_ | rfl | exact congrArg (fun z : Int => some (AV.st (.int .i64 z))) (show (k : Int) + 1 = ((k + 1 : Nat) : Int) by omega)); first | done | fail) rfl) ?_
      · show l.length - (k + 1) < l.length - k; omega
      · exact ⟨hk', htk.symm, hst⟩
    · rw [if_pos rfl] at hst
      rw [hst]
      repeat' first | refine o_frb 5 [.int .i64 k, .iface 49 (.int .i64 3)] rfl rfl rfl (by (repeat' first | exact trivial | refine And.intro ?_ ?_ | rfl); first | done | fail) (by (repeat' first | exact trivial | refine And.intro ?_ ?_ | rfl); first | done | fail) rfl rfl ?_ | refine wr (by omega) ?_ | refine ln ?_ | refine stp lay_ok rfl ?_ | refine fin ?_ | refine n_thn ?_ | refine n_blk ?_ | refine e_thn ?_ | refine e_hit ?_ | refine e_miss rfl ?_ | refine r_thn ?_ | refine r_blk ?_ | refine e_rr ?_ | refine r_rr ?_ | refine e_cr ?_ | refine r_cr ?_ | refine .seq ?_ | refine reg ?_ | refine .block ?_ | refine .skip ?_ | refine .ret ?_ | refine .exit ?_ | refine cndT rfl ?_ | refine cndF rfl ?_ | refine c_dec rfl (fun hc => ?_) (fun hc => ?_) | refine c_ndec rfl (fun hc => ?_) (fun hc => ?_) | refine cnd rfl (fun hc => ?_) (fun hc => ?_) | ((first | refine o_none rfl ?_ | refine o_none_ ?_ | refine o_yes rfl rfl rfl ?_ | refine o_yes_ rfl rfl ?_); first | refine st_index (rowE ⟨p, z, ks⟩) lay_ok rfl rfl rfl rfl (by omega) hat ?_ | refine st_callK [1,0] (hcon) b47 rfl rfl rfl rfl rfl (by (repeat' first | exact trivial | refine And.intro ?_ ?_ | rfl); first | done | fail) ?_) | refine gd rfl rfl rfl (fun hg => ?_) (fun hg => ?_) | refine gn rfl rfl rfl (fun hg => ?_) (fun hg => ?_) | refine dwr (by omega) ?_ | refine dwl ?_ | refine dws lay_ok rfl rfl rfl rfl rfl rfl rfl ?_ | refine dwu lay_ok rfl rfl rfl rfl rfl rfl rfl rfl rfl ?_ | refine dw_end ?_ | refine dw_skip rfl rfl rfl ?_ | refine dwn lay_ok rfl rfl rfl rfl rfl ?_ | refine dwb rfl rfl rfl rfl rfl (by (first | refine st_index (rowE ⟨p, z, ks⟩) lay_ok rfl rfl rfl rfl (by omega) hat ?_ | refine st_callK [1,0] (hcon) b47 rfl rfl rfl rfl rfl (by (repeat' first | exact trivial | refine And.intro ?_ ?_ | rfl); first | done | fail) ?_); exact fin rfl) rfl rfl ?_ | refine dwg rfl rfl rfl rfl rfl (by (first | refine st_index (rowE ⟨p, z, ks⟩) lay_ok rfl rfl rfl rfl (by omega) hat ?_ | refine st_callK [1,0] (hcon) b47 rfl rfl rfl rfl rfl (by (repeat' first | exact trivial | refine And.intro ?_ ?_ | rfl); first | done | fail) ?_); exact fin rfl) rfl rfl rfl rfl rfl ?_ | refine dw_dec rfl rfl rfl (fun hg => ?_) (fun hg => ?_) | refine dw_ndec rfl rfl rfl (fun hg => ?_) (fun hg => ?_)
      all_goals first
        | (exfalso; omega)
        | skip
      refine f_r [] rfl trivial rfl ⟨?_, rfl⟩
      rfl
end Go.Proofs.YtmekcbbieacioaaGreatDoorFn
namespace Go.Proofs.YtmekcbbieacioaaGreatDoorFn
open Go.Proofs.YtmekcbbieacioaaGreatDoorAl Go.Proofs.Tryz
attribute [local irreducible] IntKind.wrap CodeOk OpsL OpG ACalls thn inBlk rndR cutR WkR Wk fnR DW ExtOk partsOf
theorem b46 : HasBody prog 46 := ⟨f46, func46, Option.some_ne_none _, by decide⟩
theorem b20 : HasBody prog 20 := ⟨f20, func20, Option.some_ne_none _, by decide⟩
set_option maxRecDepth 4000 in
theorem refWhole_ok (e : EV) (hk : e.keys.length ≤ 4000000000) : ACalls prog 46 0 [.st (.agg (rowE e))] [] fun r h => r = B (wholeB e) ∧ h = [] := by
  obtain ⟨p, z, l⟩ := e
  have hm : (List.map rowS l).length = l.length := List.length_map _
  simp only [rowE, wholeB] at hk ⊢
  refine fnC lay_ok func46 rfl rfl rfl rfl rfl ?_
  repeat' first | refine o_frb 0 [.str p, .int .i64 z, .sl 1 (l.map rowS)] rfl rfl rfl (by (repeat' first | exact trivial | refine And.intro ?_ ?_ | rfl); first | done | fail) (by (repeat' first | exact trivial | refine And.intro ?_ ?_ | rfl); first | done | fail) rfl rfl ?_ | refine wr (by omega) ?_ | refine ln ?_ | refine stp lay_ok rfl ?_ | refine fin ?_ | refine n_thn ?_ | refine n_blk ?_ | refine e_thn ?_ | refine e_hit ?_ | refine e_miss rfl ?_ | refine r_thn ?_ | refine r_blk ?_ | refine e_rr ?_ | refine r_rr ?_ | refine e_cr ?_ | refine r_cr ?_ | refine .seq ?_ | refine reg ?_ | refine .block ?_ | refine .skip ?_ | refine .ret ?_ | refine .exit ?_ | refine cndT rfl ?_ | refine cndF rfl ?_ | refine c_dec rfl (fun hc => ?_) (fun hc => ?_) | refine c_ndec rfl (fun hc => ?_) (fun hc => ?_) | refine cnd rfl (fun hc => ?_) (fun hc => ?_) | refine gd rfl rfl rfl (fun hg => ?_) (fun hg => ?_) | refine gn rfl rfl rfl (fun hg => ?_) (fun hg => ?_) | refine dwr (by omega) ?_ | refine dwl ?_ | refine dws lay_ok rfl rfl rfl rfl rfl rfl rfl ?_ | refine dwu lay_ok rfl rfl rfl rfl rfl rfl rfl rfl rfl ?_ | refine dw_end ?_ | refine dw_skip rfl rfl rfl ?_ | refine dwn lay_ok rfl rfl rfl rfl rfl ?_ | refine dw_dec rfl rfl rfl (fun hg => ?_) (fun hg => ?_) | refine dw_ndec rfl rfl rfl (fun hg => ?_) (fun hg => ?_)
  refine lpR (fun k => k ≤ l.length ∧ (l.take k).all keyOk = true ∧ tot (l.take k) ≤ 64 * k) (fun k => l.length - k) (fun k => [(4, I k), (3, I (tot (l.take k)))]) (fun k => []) (0) [1] [] [] rfl rfl rfl (.of [] (by (repeat' first | exact trivial | refine And.intro ?_ ?_ | rfl); first | done | fail) (by (repeat' first | exact trivial | refine And.intro ?_ ?_ | rfl); first | done | fail) rfl) ?_ ?_
  · exact ⟨Nat.zero_le _, rfl, by simp [tot]⟩
  rintro k ⟨h1, h2, h3⟩
  refine nrm rfl rfl ?_
  by_cases hk' : k < l.length
  · have hat := at_rowS hk'
    have ht := tot_take hk'
    have ha := all_take (p := keyOk) hk'
    generalize hx : l[k] = x at *
    repeat' first | refine wr (by omega) ?_ | refine ln ?_ | refine stp lay_ok rfl ?_ | refine fin ?_ | refine n_thn ?_ | refine n_blk ?_ | refine e_thn ?_ | refine e_hit ?_ | refine e_miss rfl ?_ | refine r_thn ?_ | refine r_blk ?_ | refine e_rr ?_ | refine r_rr ?_ | refine e_cr ?_ | refine r_cr ?_ | refine .seq ?_ | refine reg ?_ | refine .block ?_ | refine .skip ?_ | refine .ret ?_ | refine .exit ?_ | refine cndT rfl ?_ | refine cndF rfl ?_ | refine c_dec rfl (fun hc => ?_) (fun hc => ?_) | refine c_ndec rfl (fun hc => ?_) (fun hc => ?_) | refine cnd rfl (fun hc => ?_) (fun hc => ?_) | ((first | refine o_none rfl ?_ | refine o_none_ ?_ | refine o_yes rfl rfl rfl ?_ | refine o_yes_ rfl rfl ?_); first | refine st_index (rowS x) lay_ok rfl rfl rfl rfl (by omega) hat ?_) | refine gd rfl rfl rfl (fun hg => ?_) (fun hg => ?_) | refine gn rfl rfl rfl (fun hg => ?_) (fun hg => ?_) | refine dwr (by omega) ?_ | refine dwl ?_ | refine dws lay_ok rfl rfl rfl rfl rfl rfl rfl ?_ | refine dwu lay_ok rfl rfl rfl rfl rfl rfl rfl rfl rfl ?_ | refine dw_end ?_ | refine dw_skip rfl rfl rfl ?_ | refine dwn lay_ok rfl rfl rfl rfl rfl ?_ | refine dwb rfl rfl rfl rfl rfl (by (first | refine st_index (rowS x) lay_ok rfl rfl rfl rfl (by omega) hat ?_); exact fin rfl) rfl rfl ?_ | refine dwg rfl rfl rfl rfl rfl (by (first | refine st_index (rowS x) lay_ok rfl rfl rfl rfl (by omega) hat ?_); exact fin rfl) rfl rfl rfl rfl rfl ?_ | refine dw_dec rfl rfl rfl (fun hg => ?_) (fun hg => ?_) | refine dw_ndec rfl rfl rfl (fun hg => ?_) (fun hg => ?_)
    all_goals first
      | (exfalso; omega)
      | (refine f_r [] rfl trivial rfl ⟨?_, rfl⟩
         have : l.all keyOk = false := all_not hk' (by rw [hx]; simp [keyOk]; omega)
         rw [this]; rfl)
      | (refine n_rr (k + 1) ?_ (.of [] (by (repeat' first | exact trivial | refine And.intro ?_ ?_ | rfl | rw [ht]; push_cast; rfl); first | done | fail) (by (repeat' first | exact trivial | refine And.intro ?_ ?_ | rfl | rw [ht]; push_cast; rfl); first | done | fail) rfl) ?_
         · omega
         · refine ⟨hk', ?_, by omega⟩
           rw [ha, h2]; simp [keyOk]; omega)
  · have hk2 : k = l.length := by omega
    subst hk2
    rw [List.take_length] at *
    rw [h2]
    repeat' first | refine wr (by omega) ?_ | refine ln ?_ | refine stp lay_ok rfl ?_ | refine fin ?_ | refine n_thn ?_ | refine n_blk ?_ | refine e_thn ?_ | refine e_hit ?_ | refine e_miss rfl ?_ | refine r_thn ?_ | refine r_blk ?_ | refine e_rr ?_ | refine r_rr ?_ | refine e_cr ?_ | refine r_cr ?_ | refine .seq ?_ | refine reg ?_ | refine .block ?_ | refine .skip ?_ | refine .ret ?_ | refine .exit ?_ | refine cndT rfl ?_ | refine cndF rfl ?_ | refine c_dec rfl (fun hc => ?_) (fun hc => ?_) | refine c_ndec rfl (fun hc => ?_) (fun hc => ?_) | refine cnd rfl (fun hc => ?_) (fun hc => ?_) | refine gd rfl rfl rfl (fun hg => ?_) (fun hg => ?_) | refine gn rfl rfl rfl (fun hg => ?_) (fun hg => ?_) | refine dwr (by omega) ?_ | refine dwl ?_ | refine dws lay_ok rfl rfl rfl rfl rfl rfl rfl ?_ | refine dwu lay_ok rfl rfl rfl rfl rfl rfl rfl rfl rfl ?_ | refine dw_end ?_ | refine dw_skip rfl rfl rfl ?_ | refine dwn lay_ok rfl rfl rfl rfl rfl ?_ | refine dw_dec rfl rfl rfl (fun hg => ?_) (fun hg => ?_) | refine dw_ndec rfl rfl rfl (fun hg => ?_) (fun hg => ?_)
    all_goals first
      | (exfalso; omega)
      | (refine f_r [] rfl trivial rfl ⟨?_, rfl⟩
         simp only [retOf, B, AV.st.injEq, SV.bool.injEq]
         rw [Bool.eq_iff_iff]; simp; omega)
/-- What the reference's check tells. -/
def checkP (l : List EV) : Int × Int := if 32 < l.length then (7, -1) else match badFrom l l.length 0 with
  | none => (0, -1)
  | some (i, n) => (n, i)
def aheadB (l : List EV) (i : Nat) (p : ByteArray) : Bool := decide (0 < i) && (match l[i - 1]? with | some x => !strLt x.path p | none => false)
theorem entryC_eq (l : List EV) (i : Nat) (e : EV) : entryC l i e = if pathOk e.path then (if (aheadB l i e.path || (l.take i).any (fun x => under x.path e.path)) = true then some 4 else if wholeB e then none else some 1) else some 2 := rfl
set_option maxHeartbeats 8000000 in
set_option maxRecDepth 4000 in
theorem refCheck_ok (l : List EV) (hl : l.length ≤ 4000000000) (hp : ∀ e ∈ l, e.path.size ≤ 4000000000 - 1) (hk : ∀ e ∈ l, e.keys.length ≤ 4000000000) :
    ACalls prog 20 0 [.st (.sl 3 (l.map rowE))] [] fun r h => r = .tuple [I (checkP l).1, I (checkP l).2] ∧ h = [] := by
  have hm : (List.map rowE l).length = l.length := List.length_map _
  refine fnC lay_ok func20 rfl rfl rfl rfl rfl ?_
  repeat' first | refine wr (by omega) ?_ | refine ln ?_ | refine stp lay_ok rfl ?_ | refine fin ?_ | refine n_thn ?_ | refine n_blk ?_ | refine e_thn ?_ | refine e_hit ?_ | refine e_miss rfl ?_ | refine r_thn ?_ | refine r_blk ?_ | refine e_rr ?_ | refine r_rr ?_ | refine e_cr ?_ | refine r_cr ?_ | refine .seq ?_ | refine reg ?_ | refine .block ?_ | refine .skip ?_ | refine .ret ?_ | refine .exit ?_ | refine cndT rfl ?_ | refine cndF rfl ?_ | refine c_dec rfl (fun hc => ?_) (fun hc => ?_) | refine c_ndec rfl (fun hc => ?_) (fun hc => ?_) | refine cnd rfl (fun hc => ?_) (fun hc => ?_) | refine gd rfl rfl rfl (fun hg => ?_) (fun hg => ?_) | refine gn rfl rfl rfl (fun hg => ?_) (fun hg => ?_) | refine dwr (by omega) ?_ | refine dwl ?_ | refine dws lay_ok rfl rfl rfl rfl rfl rfl rfl ?_ | refine dwu lay_ok rfl rfl rfl rfl rfl rfl rfl rfl rfl ?_ | refine dw_end ?_ | refine dw_skip rfl rfl rfl ?_ | refine dwn lay_ok rfl rfl rfl rfl rfl ?_ | refine dw_dec rfl rfl rfl (fun hg => ?_) (fun hg => ?_) | refine dw_ndec rfl rfl rfl (fun hg => ?_) (fun hg => ?_)
  · refine f_r [] rfl trivial rfl ⟨?_, rfl⟩
    have : 32 < l.length := by omega
    simp only [checkP, this, if_true]; rfl
  have h32 : ¬ 32 < l.length := by omega
  have hcp : checkP l = match badFrom l l.length 0 with
    | none => (0, -1)
    | some (i, n) => (n, i) := by rw [checkP, if_neg h32]
  generalize checkP l = CP at *
  refine lpR (fun k => k ≤ l.length ∧ badFrom l l.length 0 = badFrom l (l.length - k) k) (fun k => l.length - k) (fun k => [(4, I k)]) (fun k => []) (0) [0] [] [] rfl rfl rfl (.of [] (by (repeat' first | exact trivial | refine And.intro ?_ ?_ | rfl); first | done | fail) (by (repeat' first | exact trivial | refine And.intro ?_ ?_ | rfl); first | done | fail) rfl) ?_ ?_
  · exact ⟨Nat.zero_le _, rfl⟩
  rintro i ⟨h1, h2⟩
  refine nrm rfl rfl ?_
  rw [h2] at hcp
  by_cases hi : i < l.length
  case neg =>
    have : i = l.length := by omega
    subst this
    rw [Nat.sub_self] at hcp
    simp only [badFrom] at hcp
    repeat' first | refine wr (by omega) ?_ | refine ln ?_ | refine stp lay_ok rfl ?_ | refine fin ?_ | refine n_thn ?_ | refine n_blk ?_ | refine e_thn ?_ | refine e_hit ?_ | refine e_miss rfl ?_ | refine r_thn ?_ | refine r_blk ?_ | refine e_rr ?_ | refine r_rr ?_ | refine e_cr ?_ | refine r_cr ?_ | refine .seq ?_ | refine reg ?_ | refine .block ?_ | refine .skip ?_ | refine .ret ?_ | refine .exit ?_ | refine cndT rfl ?_ | refine cndF rfl ?_ | refine c_dec rfl (fun hc => ?_) (fun hc => ?_) | refine c_ndec rfl (fun hc => ?_) (fun hc => ?_) | refine cnd rfl (fun hc => ?_) (fun hc => ?_) | refine gd rfl rfl rfl (fun hg => ?_) (fun hg => ?_) | refine gn rfl rfl rfl (fun hg => ?_) (fun hg => ?_) | refine dwr (by omega) ?_ | refine dwl ?_ | refine dws lay_ok rfl rfl rfl rfl rfl rfl rfl ?_ | refine dwu lay_ok rfl rfl rfl rfl rfl rfl rfl rfl rfl ?_ | refine dw_end ?_ | refine dw_skip rfl rfl rfl ?_ | refine dwn lay_ok rfl rfl rfl rfl rfl ?_ | refine dw_dec rfl rfl rfl (fun hg => ?_) (fun hg => ?_) | refine dw_ndec rfl rfl rfl (fun hg => ?_) (fun hg => ?_)
    · exfalso; omega
    · refine f_r [] rfl trivial rfl ⟨?_, rfl⟩
      rw [hcp]; rfl
  have hat := at_rowE hi
  have hb := badFrom_step l i hi
  have hpl := hp _ (List.getElem_mem hi)
  have hpath := refPath_ok l[i].path hpl
  have hwh := refWhole_ok l[i] (hk _ (List.getElem_mem hi))
  have hec := entryC_eq l i l[i]
  have hah : aheadB l i l[i].path = (decide (0 < i) && (match l[i - 1]? with | some x => !strLt x.path l[i].path | none => false)) := rfl
  have hund : ∀ (j : Nat) (hj : j < i), ACalls prog 45 0 [Sx (l[j]'(by omega)).path, Sx l[i].path] [] fun r h => r = B (under (l[j]'(by omega)).path l[i].path) ∧ h = [] := fun j hj =>
    refUnder_ok _ _ (hp _ (List.getElem_mem _)) hpl
  generalize hx : l[i] = x at *
  obtain ⟨p, z, ks⟩ := x
  simp only at *
  cases hpo : pathOk p <;> rw [hpo] at hpath hec
  · simp only [Bool.false_eq_true, if_false] at hec
    rw [hec] at hb
    simp only at hb
    rw [hb] at hcp
    repeat' first | refine wr (by omega) ?_ | refine ln ?_ | refine stp lay_ok rfl ?_ | refine fin ?_ | refine n_thn ?_ | refine n_blk ?_ | refine e_thn ?_ | refine e_hit ?_ | refine e_miss rfl ?_ | refine r_thn ?_ | refine r_blk ?_ | refine e_rr ?_ | refine r_rr ?_ | refine e_cr ?_ | refine r_cr ?_ | refine .seq ?_ | refine reg ?_ | refine .block ?_ | refine .skip ?_ | refine .ret ?_ | refine .exit ?_ | refine cndT rfl ?_ | refine cndF rfl ?_ | refine c_dec rfl (fun hc => ?_) (fun hc => ?_) | refine c_ndec rfl (fun hc => ?_) (fun hc => ?_) | refine cnd rfl (fun hc => ?_) (fun hc => ?_) | ((first | refine o_none rfl ?_ | refine o_none_ ?_ | refine o_yes rfl rfl rfl ?_ | refine o_yes_ rfl rfl ?_); first | refine st_index (rowE ⟨p, z, ks⟩) lay_ok rfl rfl rfl rfl (by omega) hat ?_ | refine st_pure (hpath) b36 rfl rfl rfl rfl ?_) | refine gd rfl rfl rfl (fun hg => ?_) (fun hg => ?_) | refine gn rfl rfl rfl (fun hg => ?_) (fun hg => ?_) | refine dwr (by omega) ?_ | refine dwl ?_ | refine dws lay_ok rfl rfl rfl rfl rfl rfl rfl ?_ | refine dwu lay_ok rfl rfl rfl rfl rfl rfl rfl rfl rfl ?_ | refine dw_end ?_ | refine dw_skip rfl rfl rfl ?_ | refine dwn lay_ok rfl rfl rfl rfl rfl ?_ | refine dwb rfl rfl rfl rfl rfl (by (first | refine st_index (rowE ⟨p, z, ks⟩) lay_ok rfl rfl rfl rfl (by omega) hat ?_ | refine st_pure (hpath) b36 rfl rfl rfl rfl ?_); exact fin rfl) rfl rfl ?_ | refine dwg rfl rfl rfl rfl rfl (by (first | refine st_index (rowE ⟨p, z, ks⟩) lay_ok rfl rfl rfl rfl (by omega) hat ?_ | refine st_pure (hpath) b36 rfl rfl rfl rfl ?_); exact fin rfl) rfl rfl rfl rfl rfl ?_ | refine dw_dec rfl rfl rfl (fun hg => ?_) (fun hg => ?_) | refine dw_ndec rfl rfl rfl (fun hg => ?_) (fun hg => ?_)
    · refine f_r [] rfl trivial rfl ⟨?_, rfl⟩
      rw [hcp]; rfl
    · exfalso; omega
  simp only [if_true] at hec
  generalize hbA : aheadB l i p = bA at *
  have hinner : ∀ j, j ≤ i → (l.take i).take j = l.take j := fun j hj => by rw [List.take_take, Nat.min_eq_left hj]
  have hjr : ∀ j (hj : j < i), (l.map rowE)[((j : Nat) : Int).toNat]? = some (rowE (l[j]'(by omega))) := fun j hj => at_rowE (by omega)
  have hts : ∀ j (hj : j < i), (l.take (j + 1)).any (fun x => under x.path p) = ((l.take j).any (fun x => under x.path p) || under (l[j]'(by omega)).path p) := fun j hj => by
    rw [List.take_succ_eq_append_getElem (by omega), List.any_append]; simp
  have hnoi : ∀ j, i ≤ j → ¬ ((j : Nat) : Int) < (i : Int) := fun j hj => by omega
  obtain ⟨q, hq⟩ : ∃ q : Bool, q = (match l[i - 1]? with | some x => !strLt x.path p | none => false) := ⟨_, rfl⟩
  rcases Nat.eq_zero_or_pos i with h0 | h0
  all_goals first
    | (have h0' : i = 0 := h0
       have hbA' : bA = false := by rw [hah]; simp [h0]
       repeat' first | refine wr (by omega) ?_ | refine ln ?_ | refine stp lay_ok rfl ?_ | refine fin ?_ | refine n_thn ?_ | refine n_blk ?_ | refine e_thn ?_ | refine e_hit ?_ | refine e_miss rfl ?_ | refine r_thn ?_ | refine r_blk ?_ | refine e_rr ?_ | refine r_rr ?_ | refine e_cr ?_ | refine r_cr ?_ | refine .seq ?_ | refine reg ?_ | refine .block ?_ | refine .skip ?_ | refine .ret ?_ | refine .exit ?_ | refine cndT rfl ?_ | refine cndF rfl ?_ | refine c_dec rfl (fun hc => ?_) (fun hc => ?_) | refine c_ndec rfl (fun hc => ?_) (fun hc => ?_) | refine cnd rfl (fun hc => ?_) (fun hc => ?_) | ((first | refine o_none rfl ?_ | refine o_none_ ?_ | refine o_yes rfl rfl rfl ?_ | refine o_yes_ rfl rfl ?_); first | refine st_index (rowE ⟨p, z, ks⟩) lay_ok rfl rfl rfl rfl (by omega) hat ?_ | refine st_pure (hpath) b36 rfl rfl rfl rfl ?_) | refine gd rfl rfl rfl (fun hg => ?_) (fun hg => ?_) | refine gn rfl rfl rfl (fun hg => ?_) (fun hg => ?_) | refine dwr (by omega) ?_ | refine dwl ?_ | refine dws lay_ok rfl rfl rfl rfl rfl rfl rfl ?_ | refine dwu lay_ok rfl rfl rfl rfl rfl rfl rfl rfl rfl ?_ | refine dw_end ?_ | refine dw_skip rfl rfl rfl ?_ | refine dwn lay_ok rfl rfl rfl rfl rfl ?_ | refine dwb rfl rfl rfl rfl rfl (by (first | refine st_index (rowE ⟨p, z, ks⟩) lay_ok rfl rfl rfl rfl (by omega) hat ?_ | refine st_pure (hpath) b36 rfl rfl rfl rfl ?_); exact fin rfl) rfl rfl ?_ | refine dwg rfl rfl rfl rfl rfl (by (first | refine st_index (rowE ⟨p, z, ks⟩) lay_ok rfl rfl rfl rfl (by omega) hat ?_ | refine st_pure (hpath) b36 rfl rfl rfl rfl ?_); exact fin rfl) rfl rfl rfl rfl rfl ?_ | refine dw_dec rfl rfl rfl (fun hg => ?_) (fun hg => ?_) | refine dw_ndec rfl rfl rfl (fun hg => ?_) (fun hg => ?_)
       all_goals first
         | (exfalso; omega)
         | skip
       refine dreg [(0, [], []), (1, [0], []), (2, [0, 1], []), (3, [0, 1, 2], [31, 32, 36, 37, 38, 39, 40]), (4, [0, 1, 2], [30, 36, 37, 38, 39, 40]), (5, [0, 1, 2, 4], [30, 36, 37, 38, 39, 40]), (6, [0, 1, 2, 3, 4, 5], [36, 37, 38, 39, 40]), (7, [0, 1, 2, 3, 4, 5, 6], [36, 37, 38, 39, 40]), (8, [0, 1, 2, 3, 4, 5, 6, 7], [36, 37, 38, 39, 40]), (9, [0, 1, 2], [30, 31, 32, 33, 34, 35, 37]), (10, [0, 1, 2], [30, 31, 32, 33, 34, 35, 36]), (11, [0, 1, 2, 9, 10], [30, 31, 32, 33, 34, 35]), (12, [0, 1, 2, 9, 10, 11], [30, 31, 32, 33, 34, 35]), (13, [0, 1, 2, 9, 10, 11, 12], [30, 31, 32, 33, 34, 35]), (14, [0, 1, 2, 3, 4, 5, 6, 7, 8, 9, 10, 11, 12, 13], []), (15, [0, 1, 2, 3, 4, 5, 6, 7, 8, 9, 10, 11, 12, 13, 14], []), (16, [0, 1, 2, 3, 4, 5, 6, 7, 8, 9, 10, 11, 12, 13, 14, 15], [])] mixed (by kernel_rfl) ?_
       repeat' first | refine wr (by omega) ?_ | refine ln ?_ | refine stp lay_ok rfl ?_ | refine fin ?_ | refine n_thn ?_ | refine n_blk ?_ | refine e_thn ?_ | refine e_hit ?_ | refine e_miss rfl ?_ | refine r_thn ?_ | refine r_blk ?_ | refine e_rr ?_ | refine r_rr ?_ | refine e_cr ?_ | refine r_cr ?_ | refine .seq ?_ | refine reg ?_ | refine .block ?_ | refine .skip ?_ | refine .ret ?_ | refine .exit ?_ | refine cndT rfl ?_ | refine cndF rfl ?_ | refine c_dec rfl (fun hc => ?_) (fun hc => ?_) | refine c_ndec rfl (fun hc => ?_) (fun hc => ?_) | refine cnd rfl (fun hc => ?_) (fun hc => ?_) | refine gd rfl rfl rfl (fun hg => ?_) (fun hg => ?_) | refine gn rfl rfl rfl (fun hg => ?_) (fun hg => ?_) | refine dwr (by omega) ?_ | refine dwl ?_ | refine dws lay_ok rfl rfl rfl rfl rfl rfl rfl ?_ | refine dwu lay_ok rfl rfl rfl rfl rfl rfl rfl rfl rfl ?_ | refine dw_end ?_ | refine dw_skip rfl rfl rfl ?_ | refine dwn lay_ok rfl rfl rfl rfl rfl ?_ | refine dw_dec rfl rfl rfl (fun hg => ?_) (fun hg => ?_) | refine dw_ndec rfl rfl rfl (fun hg => ?_) (fun hg => ?_)
       all_goals first
         | (exfalso; omega)
         | skip
       clear hg h0 h0')
    | (have hi1 : i - 1 < l.length := by omega
       have hbA' : bA = !strLt (l[i - 1]).path p := by
         rw [hah, List.getElem?_eq_getElem hi1]; simp [h0]
       have hat1 : (l.map rowE)[((i : Int) - 1).toNat]? = some (rowE l[i - 1]) := by
         rw [← at_rowE hi1]; congr 1; omega
       generalize l[i - 1] = y at *
       repeat' first | refine wr (by omega) ?_ | refine ln ?_ | refine stp lay_ok rfl ?_ | refine fin ?_ | refine n_thn ?_ | refine n_blk ?_ | refine e_thn ?_ | refine e_hit ?_ | refine e_miss rfl ?_ | refine r_thn ?_ | refine r_blk ?_ | refine e_rr ?_ | refine r_rr ?_ | refine e_cr ?_ | refine r_cr ?_ | refine .seq ?_ | refine reg ?_ | refine .block ?_ | refine .skip ?_ | refine .ret ?_ | refine .exit ?_ | refine cndT rfl ?_ | refine cndF rfl ?_ | refine c_dec rfl (fun hc => ?_) (fun hc => ?_) | refine c_ndec rfl (fun hc => ?_) (fun hc => ?_) | refine cnd rfl (fun hc => ?_) (fun hc => ?_) | ((first | refine o_none rfl ?_ | refine o_none_ ?_ | refine o_yes rfl rfl rfl ?_ | refine o_yes_ rfl rfl ?_); first | refine st_index (rowE ⟨p, z, ks⟩) lay_ok rfl rfl rfl rfl (by omega) hat ?_ | refine st_pure (hpath) b36 rfl rfl rfl rfl ?_) | refine gd rfl rfl rfl (fun hg => ?_) (fun hg => ?_) | refine gn rfl rfl rfl (fun hg => ?_) (fun hg => ?_) | refine dwr (by omega) ?_ | refine dwl ?_ | refine dws lay_ok rfl rfl rfl rfl rfl rfl rfl ?_ | refine dwu lay_ok rfl rfl rfl rfl rfl rfl rfl rfl rfl ?_ | refine dw_end ?_ | refine dw_skip rfl rfl rfl ?_ | refine dwn lay_ok rfl rfl rfl rfl rfl ?_ | refine dwb rfl rfl rfl rfl rfl (by (first | refine st_index (rowE ⟨p, z, ks⟩) lay_ok rfl rfl rfl rfl (by omega) hat ?_ | refine st_pure (hpath) b36 rfl rfl rfl rfl ?_); exact fin rfl) rfl rfl ?_ | refine dwg rfl rfl rfl rfl rfl (by (first | refine st_index (rowE ⟨p, z, ks⟩) lay_ok rfl rfl rfl rfl (by omega) hat ?_ | refine st_pure (hpath) b36 rfl rfl rfl rfl ?_); exact fin rfl) rfl rfl rfl rfl rfl ?_ | refine dw_dec rfl rfl rfl (fun hg => ?_) (fun hg => ?_) | refine dw_ndec rfl rfl rfl (fun hg => ?_) (fun hg => ?_)
       all_goals first
         | (exfalso; omega)
         | skip
       refine dreg [(0, [], []), (1, [0], []), (2, [0, 1], []), (3, [0, 1, 2], [31, 32, 36, 37, 38, 39, 40]), (4, [0, 1, 2], [30, 36, 37, 38, 39, 40]), (5, [0, 1, 2, 4], [30, 36, 37, 38, 39, 40]), (6, [0, 1, 2, 3, 4, 5], [36, 37, 38, 39, 40]), (7, [0, 1, 2, 3, 4, 5, 6], [36, 37, 38, 39, 40]), (8, [0, 1, 2, 3, 4, 5, 6, 7], [36, 37, 38, 39, 40]), (9, [0, 1, 2], [30, 31, 32, 33, 34, 35, 37]), (10, [0, 1, 2], [30, 31, 32, 33, 34, 35, 36]), (11, [0, 1, 2, 9, 10], [30, 31, 32, 33, 34, 35]), (12, [0, 1, 2, 9, 10, 11], [30, 31, 32, 33, 34, 35]), (13, [0, 1, 2, 9, 10, 11, 12], [30, 31, 32, 33, 34, 35]), (14, [0, 1, 2, 3, 4, 5, 6, 7, 8, 9, 10, 11, 12, 13], []), (15, [0, 1, 2, 3, 4, 5, 6, 7, 8, 9, 10, 11, 12, 13, 14], []), (16, [0, 1, 2, 3, 4, 5, 6, 7, 8, 9, 10, 11, 12, 13, 14, 15], [])] mixed (by kernel_rfl) ?_
       repeat' first | refine wr (by omega) ?_ | refine ln ?_ | refine stp lay_ok rfl ?_ | refine fin ?_ | refine n_thn ?_ | refine n_blk ?_ | refine e_thn ?_ | refine e_hit ?_ | refine e_miss rfl ?_ | refine r_thn ?_ | refine r_blk ?_ | refine e_rr ?_ | refine r_rr ?_ | refine e_cr ?_ | refine r_cr ?_ | refine .seq ?_ | refine reg ?_ | refine .block ?_ | refine .skip ?_ | refine .ret ?_ | refine .exit ?_ | refine cndT rfl ?_ | refine cndF rfl ?_ | refine c_dec rfl (fun hc => ?_) (fun hc => ?_) | refine c_ndec rfl (fun hc => ?_) (fun hc => ?_) | refine cnd rfl (fun hc => ?_) (fun hc => ?_) | ((first | refine o_none rfl ?_ | refine o_none_ ?_ | refine o_yes rfl rfl rfl ?_ | refine o_yes_ rfl rfl ?_); first | refine st_index (rowE ⟨p, z, ks⟩) lay_ok rfl rfl rfl rfl (by omega) hat ?_ | refine st_index (rowE y) lay_ok rfl rfl rfl rfl (by omega) hat1 ?_) | refine gd rfl rfl rfl (fun hg => ?_) (fun hg => ?_) | refine gn rfl rfl rfl (fun hg => ?_) (fun hg => ?_) | refine dwr (by omega) ?_ | refine dwl ?_ | refine dws lay_ok rfl rfl rfl rfl rfl rfl rfl ?_ | refine dwu lay_ok rfl rfl rfl rfl rfl rfl rfl rfl rfl ?_ | refine dw_end ?_ | refine dw_skip rfl rfl rfl ?_ | refine dwn lay_ok rfl rfl rfl rfl rfl ?_ | refine dwb rfl rfl rfl rfl rfl (by (first | refine st_index (rowE ⟨p, z, ks⟩) lay_ok rfl rfl rfl rfl (by omega) hat ?_ | refine st_index (rowE y) lay_ok rfl rfl rfl rfl (by omega) hat1 ?_); exact fin rfl) rfl rfl ?_ | refine dwg rfl rfl rfl rfl rfl (by (first | refine st_index (rowE ⟨p, z, ks⟩) lay_ok rfl rfl rfl rfl (by omega) hat ?_ | refine st_index (rowE y) lay_ok rfl rfl rfl rfl (by omega) hat1 ?_); exact fin rfl) rfl rfl rfl rfl rfl ?_ | refine dw_dec rfl rfl rfl (fun hg => ?_) (fun hg => ?_) | refine dw_ndec rfl rfl rfl (fun hg => ?_) (fun hg => ?_)
       all_goals first
         | (exfalso; omega)
         | skip)
  all_goals
    refine lpR (fun (j, b) => j ≤ i ∧ b = (bA || (l.take j).any (fun x => under x.path p))) (fun (j, b) => i - j) (fun (j, b) => [(7, I j), (6, B b)]) (fun (j, b) => []) ((0, _)) [0, 4] [] [] rfl rfl rfl (.of [] (by (repeat' first | exact trivial | refine And.intro ?_ ?_ | rfl); first | done | fail) (by (repeat' first | exact trivial | refine And.intro ?_ ?_ | rfl); first | done | fail) rfl) ?_ ?_
    · exact ⟨Nat.zero_le _, by rw [hbA']; simp⟩
    rintro ⟨j, b⟩ ⟨hj, hjb⟩
    refine nrm rfl rfl ?_
    by_cases hji : j < i
    · have hun := hund j hji
      have hatj := hjr j hji
      have htj := hts j hji
      generalize l[j] = y at *
      obtain ⟨p', z', ks'⟩ := y
      simp only at *
      cases b
      · repeat' first | refine wr (by omega) ?_ | refine ln ?_ | refine stp lay_ok rfl ?_ | refine fin ?_ | refine n_thn ?_ | refine n_blk ?_ | refine e_thn ?_ | refine e_hit ?_ | refine e_miss rfl ?_ | refine r_thn ?_ | refine r_blk ?_ | refine e_rr ?_ | refine r_rr ?_ | refine e_cr ?_ | refine r_cr ?_ | refine .seq ?_ | refine reg ?_ | refine .block ?_ | refine .skip ?_ | refine .ret ?_ | refine .exit ?_ | refine cndT rfl ?_ | refine cndF rfl ?_ | refine c_dec rfl (fun hc => ?_) (fun hc => ?_) | refine c_ndec rfl (fun hc => ?_) (fun hc => ?_) | refine cnd rfl (fun hc => ?_) (fun hc => ?_) | refine gd rfl rfl rfl (fun hg => ?_) (fun hg => ?_) | refine gn rfl rfl rfl (fun hg => ?_) (fun hg => ?_) | refine dwr (by omega) ?_ | refine dwl ?_ | refine dws lay_ok rfl rfl rfl rfl rfl rfl rfl ?_ | refine dwu lay_ok rfl rfl rfl rfl rfl rfl rfl rfl rfl ?_ | refine dw_end ?_ | refine dw_skip rfl rfl rfl ?_ | refine dwn lay_ok rfl rfl rfl rfl rfl ?_ | refine dw_dec rfl rfl rfl (fun hg => ?_) (fun hg => ?_) | refine dw_ndec rfl rfl rfl (fun hg => ?_) (fun hg => ?_)
        all_goals first
          | (exfalso; omega)
          | skip
        refine dreg [(0, [], []), (1, [0], []), (2, [0, 1], [51, 55, 56, 57, 58, 59]), (3, [0, 1], [50, 55, 56, 57, 58, 59]), (4, [0, 1, 2, 3], [55, 56, 57, 58, 59]), (5, [0, 1, 2, 3, 4], [55, 56, 57, 58, 59]), (6, [0, 1, 2, 3, 4, 5], [55, 56, 57, 58, 59]), (7, [0, 1], [50, 51, 52, 53, 54, 56]), (8, [0, 1], [50, 51, 52, 53, 54, 55]), (9, [0, 1, 7, 8], [50, 51, 52, 53, 54]), (10, [0, 1, 7, 8, 9], [50, 51, 52, 53, 54]), (11, [0, 1, 7, 8, 9, 10], [50, 51, 52, 53, 54]), (12, [0, 1, 2, 3, 4, 5, 6, 7, 8, 9, 10, 11], []), (13, [0, 1, 2, 3, 4, 5, 6, 7, 8, 9, 10, 11, 12], []), (14, [0, 1, 2, 3, 4, 5, 6, 7, 8, 9, 10, 11, 12, 13], [])] mixed (by kernel_rfl) ?_
        repeat' first | refine wr (by omega) ?_ | refine ln ?_ | refine stp lay_ok rfl ?_ | refine fin ?_ | refine n_thn ?_ | refine n_blk ?_ | refine e_thn ?_ | refine e_hit ?_ | refine e_miss rfl ?_ | refine r_thn ?_ | refine r_blk ?_ | refine e_rr ?_ | refine r_rr ?_ | refine e_cr ?_ | refine r_cr ?_ | refine .seq ?_ | refine reg ?_ | refine .block ?_ | refine .skip ?_ | refine .ret ?_ | refine .exit ?_ | refine cndT rfl ?_ | refine cndF rfl ?_ | refine c_dec rfl (fun hc => ?_) (fun hc => ?_) | refine c_ndec rfl (fun hc => ?_) (fun hc => ?_) | refine cnd rfl (fun hc => ?_) (fun hc => ?_) | ((first | refine o_none rfl ?_ | refine o_none_ ?_ | refine o_yes rfl rfl rfl ?_ | refine o_yes_ rfl rfl ?_); first | refine st_index (rowE ⟨p', z', ks'⟩) lay_ok rfl rfl rfl rfl (by omega) hatj ?_ | refine st_index (rowE ⟨p, z, ks⟩) lay_ok rfl rfl rfl rfl (by omega) hat ?_ | refine st_pure (hun) b45 rfl rfl rfl rfl ?_) | refine gd rfl rfl rfl (fun hg => ?_) (fun hg => ?_) | refine gn rfl rfl rfl (fun hg => ?_) (fun hg => ?_) | refine dwr (by omega) ?_ | refine dwl ?_ | refine dws lay_ok rfl rfl rfl rfl rfl rfl rfl ?_ | refine dwu lay_ok rfl rfl rfl rfl rfl rfl rfl rfl rfl ?_ | refine dw_end ?_ | refine dw_skip rfl rfl rfl ?_ | refine dwn lay_ok rfl rfl rfl rfl rfl ?_ | refine dwb rfl rfl rfl rfl rfl (by (first | refine st_index (rowE ⟨p', z', ks'⟩) lay_ok rfl rfl rfl rfl (by omega) hatj ?_ | refine st_index (rowE ⟨p, z, ks⟩) lay_ok rfl rfl rfl rfl (by omega) hat ?_ | refine st_pure (hun) b45 rfl rfl rfl rfl ?_); exact fin rfl) rfl rfl ?_ | refine dwg rfl rfl rfl rfl rfl (by (first | refine st_index (rowE ⟨p', z', ks'⟩) lay_ok rfl rfl rfl rfl (by omega) hatj ?_ | refine st_index (rowE ⟨p, z, ks⟩) lay_ok rfl rfl rfl rfl (by omega) hat ?_ | refine st_pure (hun) b45 rfl rfl rfl rfl ?_); exact fin rfl) rfl rfl rfl rfl rfl ?_ | refine dw_dec rfl rfl rfl (fun hg => ?_) (fun hg => ?_) | refine dw_ndec rfl rfl rfl (fun hg => ?_) (fun hg => ?_)
        refine n_rr ((j + 1, under p' p)) ?_ (.of [] (by (repeat' first | exact trivial | refine And.intro ?_ ?_ | rfl); first | done | fail) (by (repeat' first | exact trivial | refine And.intro ?_ ?_ | rfl); first | done | fail) rfl) ?_
        · show i - (j + 1) < i - j; omega
        · refine ⟨hji, ?_⟩
          rw [htj]
          have := hjb.symm
          rw [Bool.or_eq_false_iff] at this
          rw [this.1, this.2]; rfl
      · repeat' first | refine wr (by omega) ?_ | refine ln ?_ | refine stp lay_ok rfl ?_ | refine fin ?_ | refine n_thn ?_ | refine n_blk ?_ | refine e_thn ?_ | refine e_hit ?_ | refine e_miss rfl ?_ | refine r_thn ?_ | refine r_blk ?_ | refine e_rr ?_ | refine r_rr ?_ | refine e_cr ?_ | refine r_cr ?_ | refine .seq ?_ | refine reg ?_ | refine .block ?_ | refine .skip ?_ | refine .ret ?_ | refine .exit ?_ | refine cndT rfl ?_ | refine cndF rfl ?_ | refine c_dec rfl (fun hc => ?_) (fun hc => ?_) | refine c_ndec rfl (fun hc => ?_) (fun hc => ?_) | refine cnd rfl (fun hc => ?_) (fun hc => ?_) | refine gd rfl rfl rfl (fun hg => ?_) (fun hg => ?_) | refine gn rfl rfl rfl (fun hg => ?_) (fun hg => ?_) | refine dwr (by omega) ?_ | refine dwl ?_ | refine dws lay_ok rfl rfl rfl rfl rfl rfl rfl ?_ | refine dwu lay_ok rfl rfl rfl rfl rfl rfl rfl rfl rfl ?_ | refine dw_end ?_ | refine dw_skip rfl rfl rfl ?_ | refine dwn lay_ok rfl rfl rfl rfl rfl ?_ | refine dw_dec rfl rfl rfl (fun hg => ?_) (fun hg => ?_) | refine dw_ndec rfl rfl rfl (fun hg => ?_) (fun hg => ?_)
        all_goals first
          | (exfalso; omega)
          | skip
        refine dreg [(0, [], []), (1, [0], []), (2, [0, 1], [51, 55, 56, 57, 58, 59]), (3, [0, 1], [50, 55, 56, 57, 58, 59]), (4, [0, 1, 2, 3], [55, 56, 57, 58, 59]), (5, [0, 1, 2, 3, 4], [55, 56, 57, 58, 59]), (6, [0, 1, 2, 3, 4, 5], [55, 56, 57, 58, 59]), (7, [0, 1], [50, 51, 52, 53, 54, 56]), (8, [0, 1], [50, 51, 52, 53, 54, 55]), (9, [0, 1, 7, 8], [50, 51, 52, 53, 54]), (10, [0, 1, 7, 8, 9], [50, 51, 52, 53, 54]), (11, [0, 1, 7, 8, 9, 10], [50, 51, 52, 53, 54]), (12, [0, 1, 2, 3, 4, 5, 6, 7, 8, 9, 10, 11], []), (13, [0, 1, 2, 3, 4, 5, 6, 7, 8, 9, 10, 11, 12], []), (14, [0, 1, 2, 3, 4, 5, 6, 7, 8, 9, 10, 11, 12, 13], [])] mixed (by kernel_rfl) ?_
        repeat' first | refine wr (by omega) ?_ | refine ln ?_ | refine stp lay_ok rfl ?_ | refine fin ?_ | refine n_thn ?_ | refine n_blk ?_ | refine e_thn ?_ | refine e_hit ?_ | refine e_miss rfl ?_ | refine r_thn ?_ | refine r_blk ?_ | refine e_rr ?_ | refine r_rr ?_ | refine e_cr ?_ | refine r_cr ?_ | refine .seq ?_ | refine reg ?_ | refine .block ?_ | refine .skip ?_ | refine .ret ?_ | refine .exit ?_ | refine cndT rfl ?_ | refine cndF rfl ?_ | refine c_dec rfl (fun hc => ?_) (fun hc => ?_) | refine c_ndec rfl (fun hc => ?_) (fun hc => ?_) | refine cnd rfl (fun hc => ?_) (fun hc => ?_) | refine gd rfl rfl rfl (fun hg => ?_) (fun hg => ?_) | refine gn rfl rfl rfl (fun hg => ?_) (fun hg => ?_) | refine dwr (by omega) ?_ | refine dwl ?_ | refine dws lay_ok rfl rfl rfl rfl rfl rfl rfl ?_ | refine dwu lay_ok rfl rfl rfl rfl rfl rfl rfl rfl rfl ?_ | refine dw_end ?_ | refine dw_skip rfl rfl rfl ?_ | refine dwn lay_ok rfl rfl rfl rfl rfl ?_ | refine dw_dec rfl rfl rfl (fun hg => ?_) (fun hg => ?_) | refine dw_ndec rfl rfl rfl (fun hg => ?_) (fun hg => ?_)
        refine n_rr ((j + 1, true)) ?_ (.of [] (by (repeat' first | exact trivial | refine And.intro ?_ ?_ | rfl); first | done | fail) (by (repeat' first | exact trivial | refine And.intro ?_ ?_ | rfl); first | done | fail) rfl) ?_
        · show i - (j + 1) < i - j; omega
        · refine ⟨hji, ?_⟩
          rw [htj, ← Bool.or_assoc, ← hjb]; rfl
    · have hje : j = i := by omega
      subst hje
      rw [← hjb] at hec
      cases b
      · simp only [Bool.false_eq_true, if_false] at hec
        cases hwb : wholeB ⟨p, z, ks⟩ <;> rw [hwb] at hwh hec
        · simp only [Bool.false_eq_true, if_false] at hec
          rw [hec] at hb
          simp only at hb
          rw [hb] at hcp
          repeat' first | refine wr (by omega) ?_ | refine ln ?_ | refine stp lay_ok rfl ?_ | refine fin ?_ | refine n_thn ?_ | refine n_blk ?_ | refine e_thn ?_ | refine e_hit ?_ | refine e_miss rfl ?_ | refine r_thn ?_ | refine r_blk ?_ | refine e_rr ?_ | refine r_rr ?_ | refine e_cr ?_ | refine r_cr ?_ | refine .seq ?_ | refine reg ?_ | refine .block ?_ | refine .skip ?_ | refine .ret ?_ | refine .exit ?_ | refine cndT rfl ?_ | refine cndF rfl ?_ | refine c_dec rfl (fun hc => ?_) (fun hc => ?_) | refine c_ndec rfl (fun hc => ?_) (fun hc => ?_) | refine cnd rfl (fun hc => ?_) (fun hc => ?_) | ((first | refine o_none rfl ?_ | refine o_none_ ?_ | refine o_yes rfl rfl rfl ?_ | refine o_yes_ rfl rfl ?_); first | refine st_index (rowE ⟨p, z, ks⟩) lay_ok rfl rfl rfl rfl (by omega) hat ?_ | refine st_pure (hwh) b46 rfl rfl rfl rfl ?_) | refine gd rfl rfl rfl (fun hg => ?_) (fun hg => ?_) | refine gn rfl rfl rfl (fun hg => ?_) (fun hg => ?_) | refine dwr (by omega) ?_ | refine dwl ?_ | refine dws lay_ok rfl rfl rfl rfl rfl rfl rfl ?_ | refine dwu lay_ok rfl rfl rfl rfl rfl rfl rfl rfl rfl ?_ | refine dw_end ?_ | refine dw_skip rfl rfl rfl ?_ | refine dwn lay_ok rfl rfl rfl rfl rfl ?_ | refine dwb rfl rfl rfl rfl rfl (by (first | refine st_index (rowE ⟨p, z, ks⟩) lay_ok rfl rfl rfl rfl (by omega) hat ?_ | refine st_pure (hwh) b46 rfl rfl rfl rfl ?_); exact fin rfl) rfl rfl ?_ | refine dwg rfl rfl rfl rfl rfl (by (first | refine st_index (rowE ⟨p, z, ks⟩) lay_ok rfl rfl rfl rfl (by omega) hat ?_ | refine st_pure (hwh) b46 rfl rfl rfl rfl ?_); exact fin rfl) rfl rfl rfl rfl rfl ?_ | refine dw_dec rfl rfl rfl (fun hg => ?_) (fun hg => ?_) | refine dw_ndec rfl rfl rfl (fun hg => ?_) (fun hg => ?_)
          all_goals first
            | (exfalso; omega)
            | (refine f_r [] rfl trivial rfl ⟨?_, rfl⟩; rw [hcp]; rfl)
        · simp only [if_true] at hec
          rw [hec] at hb
          simp only at hb
          repeat' first | refine wr (by omega) ?_ | refine ln ?_ | refine stp lay_ok rfl ?_ | refine fin ?_ | refine n_thn ?_ | refine n_blk ?_ | refine e_thn ?_ | refine e_hit ?_ | refine e_miss rfl ?_ | refine r_thn ?_ | refine r_blk ?_ | refine e_rr ?_ | refine r_rr ?_ | refine e_cr ?_ | refine r_cr ?_ | refine .seq ?_ | refine reg ?_ | refine .block ?_ | refine .skip ?_ | refine .ret ?_ | refine .exit ?_ | refine cndT rfl ?_ | refine cndF rfl ?_ | refine c_dec rfl (fun hc => ?_) (fun hc => ?_) | refine c_ndec rfl (fun hc => ?_) (fun hc => ?_) | refine cnd rfl (fun hc => ?_) (fun hc => ?_) | ((first | refine o_none rfl ?_ | refine o_none_ ?_ | refine o_yes rfl rfl rfl ?_ | refine o_yes_ rfl rfl ?_); first | refine st_index (rowE ⟨p, z, ks⟩) lay_ok rfl rfl rfl rfl (by omega) hat ?_ | refine st_pure (hwh) b46 rfl rfl rfl rfl ?_) | refine gd rfl rfl rfl (fun hg => ?_) (fun hg => ?_) | refine gn rfl rfl rfl (fun hg => ?_) (fun hg => ?_) | refine dwr (by omega) ?_ | refine dwl ?_ | refine dws lay_ok rfl rfl rfl rfl rfl rfl rfl ?_ | refine dwu lay_ok rfl rfl rfl rfl rfl rfl rfl rfl rfl ?_ | refine dw_end ?_ | refine dw_skip rfl rfl rfl ?_ | refine dwn lay_ok rfl rfl rfl rfl rfl ?_ | refine dwb rfl rfl rfl rfl rfl (by (first | refine st_index (rowE ⟨p, z, ks⟩) lay_ok rfl rfl rfl rfl (by omega) hat ?_ | refine st_pure (hwh) b46 rfl rfl rfl rfl ?_); exact fin rfl) rfl rfl ?_ | refine dwg rfl rfl rfl rfl rfl (by (first | refine st_index (rowE ⟨p, z, ks⟩) lay_ok rfl rfl rfl rfl (by omega) hat ?_ | refine st_pure (hwh) b46 rfl rfl rfl rfl ?_); exact fin rfl) rfl rfl rfl rfl rfl ?_ | refine dw_dec rfl rfl rfl (fun hg => ?_) (fun hg => ?_) | refine dw_ndec rfl rfl rfl (fun hg => ?_) (fun hg => ?_)
          all_goals first
            | (exfalso; omega)
            | skip
          refine n_rr (j + 1) ?_ (.of [] (by (repeat' first | exact trivial | refine And.intro ?_ ?_ | rfl); first | done | fail) (by (repeat' first | exact trivial | refine And.intro ?_ ?_ | rfl); first | done | fail) rfl) ?_
          · omega
          · exact ⟨hi, h2.trans hb⟩
      · simp only [if_true] at hec
        rw [hec] at hb
        simp only at hb
        rw [hb] at hcp
        repeat' first | refine wr (by omega) ?_ | refine ln ?_ | refine stp lay_ok rfl ?_ | refine fin ?_ | refine n_thn ?_ | refine n_blk ?_ | refine e_thn ?_ | refine e_hit ?_ | refine e_miss rfl ?_ | refine r_thn ?_ | refine r_blk ?_ | refine e_rr ?_ | refine r_rr ?_ | refine e_cr ?_ | refine r_cr ?_ | refine .seq ?_ | refine reg ?_ | refine .block ?_ | refine .skip ?_ | refine .ret ?_ | refine .exit ?_ | refine cndT rfl ?_ | refine cndF rfl ?_ | refine c_dec rfl (fun hc => ?_) (fun hc => ?_) | refine c_ndec rfl (fun hc => ?_) (fun hc => ?_) | refine cnd rfl (fun hc => ?_) (fun hc => ?_) | refine gd rfl rfl rfl (fun hg => ?_) (fun hg => ?_) | refine gn rfl rfl rfl (fun hg => ?_) (fun hg => ?_) | refine dwr (by omega) ?_ | refine dwl ?_ | refine dws lay_ok rfl rfl rfl rfl rfl rfl rfl ?_ | refine dwu lay_ok rfl rfl rfl rfl rfl rfl rfl rfl rfl ?_ | refine dw_end ?_ | refine dw_skip rfl rfl rfl ?_ | refine dwn lay_ok rfl rfl rfl rfl rfl ?_ | refine dw_dec rfl rfl rfl (fun hg => ?_) (fun hg => ?_) | refine dw_ndec rfl rfl rfl (fun hg => ?_) (fun hg => ?_)
        all_goals first
          | (exfalso; omega)
          | (refine f_r [] rfl trivial rfl ⟨?_, rfl⟩; rw [hcp]; rfl)
end Go.Proofs.YtmekcbbieacioaaGreatDoorFn
namespace Go.Proofs.YtmekcbbieacioaaGreatDoorFn
open Go.Proofs.YtmekcbbieacioaaGreatDoorAl Go.Proofs.Tryz
attribute [local irreducible] IntKind.wrap CodeOk OpsL OpG ACalls thn inBlk rndR cutR WkR Wk fnR DW ExtOk partsOf
theorem b26 : HasBody prog 26 := ⟨f26, func26, Option.some_ne_none _, by decide⟩
theorem b50 : HasBody prog 50 := ⟨f50, func50, Option.some_ne_none _, by decide⟩
theorem b24 : HasBody prog 24 := ⟨f24, func24, Option.some_ne_none _, by decide⟩
theorem b25 : HasBody prog 25 := ⟨f25, func25, Option.some_ne_none _, by decide⟩
/-! ### the document's answer on files -/
instance : DecidableEq FV := fun f e => decidable_of_iff (f.path = e.path ∧ f.bytes = e.bytes) (by cases f; cases e; simp)
theorem eqF (f e : FV) (St : Nat → Prop) (w : World) (vx vy : List Value) (hx : SList St w (rowF f) vx) (hy : SList St w (rowF e) vy) : (Op.equalIn 10000 58 (.agg vx.toArray) (.agg vy.toArray)).run prog w = .ok (decide (f.path = e.path ∧ f.bytes = e.bytes)) w := by
  obtain ⟨p, z⟩ := f
  obtain ⟨p', z'⟩ := e
  cases hx with
  | cons _ v1 _ vs a1 hx =>
  cases hx with
  | cons _ v2 _ vs a2 hx =>
  cases hx
  cases hy with
  | cons _ u1 _ vs b1 hy =>
  cases hy with
  | cons _ u2 _ vs b2 hy =>
  cases hy
  cases a1; cases a2; cases b1; cases b2
  have u9 := underlying9
  have a9 := isAgg9
  have z9 := sizeOf9
  have hS : prog.underlying 58 = some (.struct (prog.fieldsOf 58)) := by kernel_rfl
  have hp : prog.stoodInHeld 58 = false := by kernel_rfl
  rw [show (10000 : Nat) = 9999 + 1 from rfl, run_equalIn_agg w 9999 58 _ _ hS hp]
  simp only [Program.fieldsOf, underlying58]
  have e1 : (Op.equalIn 9999 9 (.string p) (.string p')).run prog w = .ok (decide (p = p')) w := by
    rw [show (9999 : Nat) = 9998 + 1 from rfl, Op.equalIn]
    simp [run_underlying u9, bb_eq]
  have e2 : (Op.equalIn 9999 9 (.string z) (.string z')).run prog w = .ok (decide (z = z')) w := by
    rw [show (9999 : Nat) = 9998 + 1 from rfl, Op.equalIn]
    simp [run_underlying u9, bb_eq]
  simp only [Op.eqFields, part]
  by_cases h1 : p = p' <;> by_cases h2 : z = z' <;> simp [h1, h2, a9, z9, e1, e2] <;> simp_all
theorem gF : prog.eqGuardType prog.depth 58 = false := by kernel_rfl
theorem has_ok (l : List ByteArray) (s : ByteArray) (hl : l.length ≤ 4000000000) : ACalls prog 26 0 [.st (.sl 1 (l.map rowS)), Sx s] [] fun r h => r = B (memB s l) ∧ h = [] := by
  have hm : (List.map rowS l).length = l.length := List.length_map _
  refine fnC lay_ok func26 rfl rfl rfl rfl rfl ?_
  repeat' first | refine wr (by omega) ?_ | refine ln ?_ | refine stp lay_ok rfl ?_ | refine fin ?_ | refine n_thn ?_ | refine n_blk ?_ | refine e_thn ?_ | refine e_hit ?_ | refine e_miss rfl ?_ | refine r_thn ?_ | refine r_blk ?_ | refine e_rr ?_ | refine r_rr ?_ | refine e_cr ?_ | refine r_cr ?_ | refine .seq ?_ | refine reg ?_ | refine .block ?_ | refine .skip ?_ | refine .ret ?_ | refine .exit ?_ | refine cndT rfl ?_ | refine cndF rfl ?_ | refine c_dec rfl (fun hc => ?_) (fun hc => ?_) | refine c_ndec rfl (fun hc => ?_) (fun hc => ?_) | refine cnd rfl (fun hc => ?_) (fun hc => ?_) | refine gd rfl rfl rfl (fun hg => ?_) (fun hg => ?_) | refine gn rfl rfl rfl (fun hg => ?_) (fun hg => ?_) | refine dwr (by omega) ?_ | refine dwl ?_ | refine dws lay_ok rfl rfl rfl rfl rfl rfl rfl ?_ | refine dwu lay_ok rfl rfl rfl rfl rfl rfl rfl rfl rfl ?_ | refine dw_end ?_ | refine dw_skip rfl rfl rfl ?_ | refine dwn lay_ok rfl rfl rfl rfl rfl ?_ | refine dw_dec rfl rfl rfl (fun hg => ?_) (fun hg => ?_) | refine dw_ndec rfl rfl rfl (fun hg => ?_) (fun hg => ?_)
  refine lpR (fun k => k ≤ l.length ∧ memB s (l.take k) = false) (fun k => l.length - k) (fun k => [(5, I k)]) (fun k => []) (0) [0, 1] [] [] rfl rfl rfl (.of [] (by (repeat' first | exact trivial | refine And.intro ?_ ?_ | rfl); first | done | fail) (by (repeat' first | exact trivial | refine And.intro ?_ ?_ | rfl); first | done | fail) rfl) ?_ ?_
  · exact ⟨Nat.zero_le _, rfl⟩
  rintro k ⟨g1, g2⟩
  refine nrm rfl rfl ?_
  by_cases hk : k < l.length
  case neg =>
    have hke : k = l.length := by omega
    subst hke
    rw [List.take_length] at g2
    repeat' first | refine wr (by omega) ?_ | refine ln ?_ | refine stp lay_ok rfl ?_ | refine fin ?_ | refine n_thn ?_ | refine n_blk ?_ | refine e_thn ?_ | refine e_hit ?_ | refine e_miss rfl ?_ | refine r_thn ?_ | refine r_blk ?_ | refine e_rr ?_ | refine r_rr ?_ | refine e_cr ?_ | refine r_cr ?_ | refine .seq ?_ | refine reg ?_ | refine .block ?_ | refine .skip ?_ | refine .ret ?_ | refine .exit ?_ | refine cndT rfl ?_ | refine cndF rfl ?_ | refine c_dec rfl (fun hc => ?_) (fun hc => ?_) | refine c_ndec rfl (fun hc => ?_) (fun hc => ?_) | refine cnd rfl (fun hc => ?_) (fun hc => ?_) | refine gd rfl rfl rfl (fun hg => ?_) (fun hg => ?_) | refine gn rfl rfl rfl (fun hg => ?_) (fun hg => ?_) | refine dwr (by omega) ?_ | refine dwl ?_ | refine dws lay_ok rfl rfl rfl rfl rfl rfl rfl ?_ | refine dwu lay_ok rfl rfl rfl rfl rfl rfl rfl rfl rfl ?_ | refine dw_end ?_ | refine dw_skip rfl rfl rfl ?_ | refine dwn lay_ok rfl rfl rfl rfl rfl ?_ | refine dw_dec rfl rfl rfl (fun hg => ?_) (fun hg => ?_) | refine dw_ndec rfl rfl rfl (fun hg => ?_) (fun hg => ?_)
    all_goals first
      | (exfalso; omega)
      | skip
    refine f_r [] rfl trivial rfl ⟨?_, rfl⟩
    rw [g2]; rfl
  have hat := at_rowS hk
  have htk := memB_take hk s
  have hin : s = l[k] → memB s l = true := fun h => memB_iff.2 (by rw [h]; exact List.getElem_mem hk)
  generalize l[k] = c at *
  repeat' first | refine wr (by omega) ?_ | refine ln ?_ | refine stp lay_ok rfl ?_ | refine fin ?_ | refine n_thn ?_ | refine n_blk ?_ | refine e_thn ?_ | refine e_hit ?_ | refine e_miss rfl ?_ | refine r_thn ?_ | refine r_blk ?_ | refine e_rr ?_ | refine r_rr ?_ | refine e_cr ?_ | refine r_cr ?_ | refine .seq ?_ | refine reg ?_ | refine .block ?_ | refine .skip ?_ | refine .ret ?_ | refine .exit ?_ | refine cndT rfl ?_ | refine cndF rfl ?_ | refine c_dec rfl (fun hc => ?_) (fun hc => ?_) | refine c_ndec rfl (fun hc => ?_) (fun hc => ?_) | refine cnd rfl (fun hc => ?_) (fun hc => ?_) | ((first | refine o_none rfl ?_ | refine o_none_ ?_ | refine o_yes rfl rfl rfl ?_ | refine o_yes_ rfl rfl ?_); first | refine st_index (rowS c) lay_ok rfl rfl rfl rfl (by omega) hat ?_) | refine gd rfl rfl rfl (fun hg => ?_) (fun hg => ?_) | refine gn rfl rfl rfl (fun hg => ?_) (fun hg => ?_) | refine dwr (by omega) ?_ | refine dwl ?_ | refine dws lay_ok rfl rfl rfl rfl rfl rfl rfl ?_ | refine dwu lay_ok rfl rfl rfl rfl rfl rfl rfl rfl rfl ?_ | refine dw_end ?_ | refine dw_skip rfl rfl rfl ?_ | refine dwn lay_ok rfl rfl rfl rfl rfl ?_ | refine dwb rfl rfl rfl rfl rfl (by (first | refine st_index (rowS c) lay_ok rfl rfl rfl rfl (by omega) hat ?_); exact fin rfl) rfl rfl ?_ | refine dwg rfl rfl rfl rfl rfl (by (first | refine st_index (rowS c) lay_ok rfl rfl rfl rfl (by omega) hat ?_); exact fin rfl) rfl rfl rfl rfl rfl ?_ | refine dw_dec rfl rfl rfl (fun hg => ?_) (fun hg => ?_) | refine dw_ndec rfl rfl rfl (fun hg => ?_) (fun hg => ?_)
  all_goals first
    | (exfalso; omega)
    | skip
  · rename_i hcs
    refine f_r [] rfl trivial rfl ⟨?_, rfl⟩
    rw [hin (by first | exact hcs.symm | exact (by assumption : c = s).symm)]; rfl
  · refine n_rr (k + 1) ?_ (.of [] (by (repeat' first | exact trivial | refine And.intro ?_ ?_ | rfl | exact congrArg (fun z : Int => some (AV.st (.int .i64 z))) (show (k : Int) + 1 = ((k + 1 : Nat) : Int) by omega)); first | done | fail) (by (repeat' first | exact trivial | refine And.intro ?_ ?_ | rfl | exact congrArg (fun z : Int => some (AV.st (.int .i64 z))) (show (k : Int) + 1 = ((k + 1 : Nat) : Int) by omega)); first | done | fail) rfl) ?_
    · omega
    · refine ⟨hk, ?_⟩
      rw [htk, g2, decide_eq_false (fun h => by first | exact absurd h.symm (by assumption) | simp_all)]; rfl
theorem joinB_snoc (a : List ByteArray) (x : ByteArray) : joinB (a ++ [x]) = joinB a ++ x := by
  apply ByteArray.ext
  apply Array.toList_inj.1
  rw [ByteArray.data_append, Array.toList_append]
  unfold joinB
  simp
theorem tot_le (l : List ByteArray) (k : Nat) : tot (l.take k) ≤ tot l := by
  have := tot_app (l.take k) (l.drop k)
  rw [List.take_append_drop] at this
  omega
theorem refJoin_ok (ks : List ByteArray) (hl : ks.length ≤ 4000000000) (hs : tot ks ≤ 4000000000) : ACalls prog 50 0 [.st (.sl 1 (ks.map rowS))] [] fun r h => r = Sx (joinB ks) ∧ h = [] := by
  have hm : (List.map rowS ks).length = ks.length := List.length_map _
  refine fnC lay_ok func50 rfl rfl rfl rfl rfl ?_
  repeat' first | refine wr (by omega) ?_ | refine ln ?_ | refine stp lay_ok rfl ?_ | refine fin ?_ | refine n_thn ?_ | refine n_blk ?_ | refine e_thn ?_ | refine e_hit ?_ | refine e_miss rfl ?_ | refine r_thn ?_ | refine r_blk ?_ | refine e_rr ?_ | refine r_rr ?_ | refine e_cr ?_ | refine r_cr ?_ | refine .seq ?_ | refine reg ?_ | refine .block ?_ | refine .skip ?_ | refine .ret ?_ | refine .exit ?_ | refine cndT rfl ?_ | refine cndF rfl ?_ | refine c_dec rfl (fun hc => ?_) (fun hc => ?_) | refine c_ndec rfl (fun hc => ?_) (fun hc => ?_) | refine cnd rfl (fun hc => ?_) (fun hc => ?_) | refine gd rfl rfl rfl (fun hg => ?_) (fun hg => ?_) | refine gn rfl rfl rfl (fun hg => ?_) (fun hg => ?_) | refine dwr (by omega) ?_ | refine dwl ?_ | refine dws lay_ok rfl rfl rfl rfl rfl rfl rfl ?_ | refine dwu lay_ok rfl rfl rfl rfl rfl rfl rfl rfl rfl ?_ | refine dw_end ?_ | refine dw_skip rfl rfl rfl ?_ | refine dwn lay_ok rfl rfl rfl rfl rfl ?_ | refine dw_dec rfl rfl rfl (fun hg => ?_) (fun hg => ?_) | refine dw_ndec rfl rfl rfl (fun hg => ?_) (fun hg => ?_)
  refine lpR (fun k => k ≤ ks.length) (fun k => ks.length - k) (fun k => [(4, I k), (3, Sx (joinB (ks.take k)))]) (fun k => []) (0) [0] [] [] rfl rfl rfl (.of [] (by (repeat' first | exact trivial | refine And.intro ?_ ?_ | rfl); first | done | fail) (by (repeat' first | exact trivial | refine And.intro ?_ ?_ | rfl); first | done | fail) rfl) ?_ ?_
  · exact Nat.zero_le _
  rintro k g1
  refine nrm rfl rfl ?_
  by_cases hk : k < ks.length
  case neg =>
    have hke : k = ks.length := by omega
    subst hke
    rw [List.take_length]
    repeat' first | refine wr (by omega) ?_ | refine ln ?_ | refine stp lay_ok rfl ?_ | refine fin ?_ | refine n_thn ?_ | refine n_blk ?_ | refine e_thn ?_ | refine e_hit ?_ | refine e_miss rfl ?_ | refine r_thn ?_ | refine r_blk ?_ | refine e_rr ?_ | refine r_rr ?_ | refine e_cr ?_ | refine r_cr ?_ | refine .seq ?_ | refine reg ?_ | refine .block ?_ | refine .skip ?_ | refine .ret ?_ | refine .exit ?_ | refine cndT rfl ?_ | refine cndF rfl ?_ | refine c_dec rfl (fun hc => ?_) (fun hc => ?_) | refine c_ndec rfl (fun hc => ?_) (fun hc => ?_) | refine cnd rfl (fun hc => ?_) (fun hc => ?_) | refine gd rfl rfl rfl (fun hg => ?_) (fun hg => ?_) | refine gn rfl rfl rfl (fun hg => ?_) (fun hg => ?_) | refine dwr (by omega) ?_ | refine dwl ?_ | refine dws lay_ok rfl rfl rfl rfl rfl rfl rfl ?_ | refine dwu lay_ok rfl rfl rfl rfl rfl rfl rfl rfl rfl ?_ | refine dw_end ?_ | refine dw_skip rfl rfl rfl ?_ | refine dwn lay_ok rfl rfl rfl rfl rfl ?_ | refine dw_dec rfl rfl rfl (fun hg => ?_) (fun hg => ?_) | refine dw_ndec rfl rfl rfl (fun hg => ?_) (fun hg => ?_)
    all_goals first
      | (exfalso; omega)
      | skip
    refine f_r [] rfl trivial rfl ⟨?_, rfl⟩
    rfl
  have hat := at_rowS hk
  have htk : joinB (ks.take (k + 1)) = joinB (ks.take k) ++ ks[k] := by rw [List.take_succ_eq_append_getElem hk, joinB_snoc]
  have hcat : (joinB (ks.take k)).size + ks[k].size ≤ 9223372036854775807 := by
    have h1 := tot_le ks (k + 1)
    rw [tot_take hk] at h1
    rw [join_tot]; omega
  generalize ks[k] = c at *
  generalize joinB (ks.take k) = u at *
  repeat' first | refine wr (by omega) ?_ | refine ln ?_ | refine stp lay_ok rfl ?_ | refine fin ?_ | refine n_thn ?_ | refine n_blk ?_ | refine e_thn ?_ | refine e_hit ?_ | refine e_miss rfl ?_ | refine r_thn ?_ | refine r_blk ?_ | refine e_rr ?_ | refine r_rr ?_ | refine e_cr ?_ | refine r_cr ?_ | refine .seq ?_ | refine reg ?_ | refine .block ?_ | refine .skip ?_ | refine .ret ?_ | refine .exit ?_ | refine cndT rfl ?_ | refine cndF rfl ?_ | refine c_dec rfl (fun hc => ?_) (fun hc => ?_) | refine c_ndec rfl (fun hc => ?_) (fun hc => ?_) | refine cnd rfl (fun hc => ?_) (fun hc => ?_) | ((first | refine o_none rfl ?_ | refine o_none_ ?_ | refine o_yes rfl rfl rfl ?_ | refine o_yes_ rfl rfl ?_); first | refine st_index (rowS c) lay_ok rfl rfl rfl rfl (by omega) hat ?_ | refine st_cat rfl rfl hcat ?_) | refine gd rfl rfl rfl (fun hg => ?_) (fun hg => ?_) | refine gn rfl rfl rfl (fun hg => ?_) (fun hg => ?_) | refine dwr (by omega) ?_ | refine dwl ?_ | refine dws lay_ok rfl rfl rfl rfl rfl rfl rfl ?_ | refine dwu lay_ok rfl rfl rfl rfl rfl rfl rfl rfl rfl ?_ | refine dw_end ?_ | refine dw_skip rfl rfl rfl ?_ | refine dwn lay_ok rfl rfl rfl rfl rfl ?_ | refine dwb rfl rfl rfl rfl rfl (by (first | refine st_index (rowS c) lay_ok rfl rfl rfl rfl (by omega) hat ?_ | refine st_cat rfl rfl hcat ?_); exact fin rfl) rfl rfl ?_ | refine dwg rfl rfl rfl rfl rfl (by (first | refine st_index (rowS c) lay_ok rfl rfl rfl rfl (by omega) hat ?_ | refine st_cat rfl rfl hcat ?_); exact fin rfl) rfl rfl rfl rfl rfl ?_ | refine dw_dec rfl rfl rfl (fun hg => ?_) (fun hg => ?_) | refine dw_ndec rfl rfl rfl (fun hg => ?_) (fun hg => ?_)
  all_goals first
    | (exfalso; omega)
    | skip
  refine n_rr (k + 1) ?_ (.of [] (by (repeat' first | exact trivial | refine And.intro ?_ ?_ | rfl | exact congrArg (fun z : Int => some (AV.st (.int .i64 z))) (show (k : Int) + 1 = ((k + 1 : Nat) : Int) by omega) | exact congrArg (fun z => some (AV.st (.str z))) htk.symm); first | done | fail) (by (repeat' first | exact trivial | refine And.intro ?_ ?_ | rfl | exact congrArg (fun z : Int => some (AV.st (.int .i64 z))) (show (k : Int) + 1 = ((k + 1 : Nat) : Int) by omega) | exact congrArg (fun z => some (AV.st (.str z))) htk.symm); first | done | fail) rfl) ?_
  · omega
  · exact hk
theorem files_ok (a b : List FV) (ha : a.length ≤ 4000000000) (hb : b.length ≤ 4000000000) : ACalls prog 25 0 [.st (.sl 2 (a.map rowF)), .st (.sl 2 (b.map rowF))] [] fun r h => r = B (decide (a = b)) ∧ h = [] := by
  have hma : (List.map rowF a).length = a.length := List.length_map _
  have hmb : (List.map rowF b).length = b.length := List.length_map _
  refine fnC lay_ok func25 rfl rfl rfl rfl rfl ?_
  repeat' first | refine wr (by omega) ?_ | refine ln ?_ | refine stp lay_ok rfl ?_ | refine fin ?_ | refine n_thn ?_ | refine n_blk ?_ | refine e_thn ?_ | refine e_hit ?_ | refine e_miss rfl ?_ | refine r_thn ?_ | refine r_blk ?_ | refine e_rr ?_ | refine r_rr ?_ | refine e_cr ?_ | refine r_cr ?_ | refine .seq ?_ | refine reg ?_ | refine .block ?_ | refine .skip ?_ | refine .ret ?_ | refine .exit ?_ | refine cndT rfl ?_ | refine cndF rfl ?_ | refine c_dec rfl (fun hc => ?_) (fun hc => ?_) | refine c_ndec rfl (fun hc => ?_) (fun hc => ?_) | refine cnd rfl (fun hc => ?_) (fun hc => ?_) | refine gd rfl rfl rfl (fun hg => ?_) (fun hg => ?_) | refine gn rfl rfl rfl (fun hg => ?_) (fun hg => ?_) | refine dwr (by omega) ?_ | refine dwl ?_ | refine dws lay_ok rfl rfl rfl rfl rfl rfl rfl ?_ | refine dwu lay_ok rfl rfl rfl rfl rfl rfl rfl rfl rfl ?_ | refine dw_end ?_ | refine dw_skip rfl rfl rfl ?_ | refine dwn lay_ok rfl rfl rfl rfl rfl ?_ | refine dw_dec rfl rfl rfl (fun hg => ?_) (fun hg => ?_) | refine dw_ndec rfl rfl rfl (fun hg => ?_) (fun hg => ?_)
  · refine f_r [] rfl trivial rfl ⟨?_, rfl⟩
    rw [decide_eq_false (by rintro rfl; omega)]; rfl
  · have hl : a.length = b.length := by omega
    refine lpR (fun k => k ≤ a.length ∧ ∀ j (h1 : j < a.length) (h2 : j < b.length), j < k → a[j] = b[j]) (fun k => a.length - k) (fun k => [(5, I k)]) (fun k => []) (0) [0, 1] [] [] rfl rfl rfl (.of [] (by (repeat' first | exact trivial | refine And.intro ?_ ?_ | rfl); first | done | fail) (by (repeat' first | exact trivial | refine And.intro ?_ ?_ | rfl); first | done | fail) rfl) ?_ ?_
    · exact ⟨Nat.zero_le _, fun j h1 h2 h3 => by omega⟩
    rintro k ⟨hk, hall⟩
    refine nrm rfl rfl ?_
    by_cases hka : k < a.length
    case neg =>
      repeat' first | refine wr (by omega) ?_ | refine ln ?_ | refine stp lay_ok rfl ?_ | refine fin ?_ | refine n_thn ?_ | refine n_blk ?_ | refine e_thn ?_ | refine e_hit ?_ | refine e_miss rfl ?_ | refine r_thn ?_ | refine r_blk ?_ | refine e_rr ?_ | refine r_rr ?_ | refine e_cr ?_ | refine r_cr ?_ | refine .seq ?_ | refine reg ?_ | refine .block ?_ | refine .skip ?_ | refine .ret ?_ | refine .exit ?_ | refine cndT rfl ?_ | refine cndF rfl ?_ | refine c_dec rfl (fun hc => ?_) (fun hc => ?_) | refine c_ndec rfl (fun hc => ?_) (fun hc => ?_) | refine cnd rfl (fun hc => ?_) (fun hc => ?_) | refine gd rfl rfl rfl (fun hg => ?_) (fun hg => ?_) | refine gn rfl rfl rfl (fun hg => ?_) (fun hg => ?_) | refine dwr (by omega) ?_ | refine dwl ?_ | refine dws lay_ok rfl rfl rfl rfl rfl rfl rfl ?_ | refine dwu lay_ok rfl rfl rfl rfl rfl rfl rfl rfl rfl ?_ | refine dw_end ?_ | refine dw_skip rfl rfl rfl ?_ | refine dwn lay_ok rfl rfl rfl rfl rfl ?_ | refine dw_dec rfl rfl rfl (fun hg => ?_) (fun hg => ?_) | refine dw_ndec rfl rfl rfl (fun hg => ?_) (fun hg => ?_)
      all_goals first
        | (exfalso; omega)
        | skip
      refine f_r [] rfl trivial rfl ⟨?_, rfl⟩
      rw [decide_eq_true (List.ext_getElem hl fun j h1 h2 => hall j h1 h2 (by omega))]; rfl
    have hkb : k < b.length := by omega
    have hat := at_rowF hka
    have hbt := at_rowF hkb
    have hex : a[k] ≠ b[k] → decide (a = b) = false := fun h => decide_eq_false (fun e => h (by subst e; rfl))
    have hnx : a[k] = b[k] → ∀ j (h1 : j < a.length) (h2 : j < b.length), j < k + 1 → a[j] = b[j] := fun h j h1 h2 h3 => by
      by_cases hj : j = k
      · subst hj; exact h
      · exact hall j h1 h2 (by omega)
    generalize a[k] = x at *
    generalize b[k] = y at *
    have hq := eqF x y
    obtain ⟨p, z⟩ := x
    obtain ⟨p', z'⟩ := y
    simp only at hq
    by_cases he : p = p' ∧ z = z'
    · rw [decide_eq_true he] at hq
      repeat' first | refine wr (by omega) ?_ | refine ln ?_ | refine stp lay_ok rfl ?_ | refine fin ?_ | refine n_thn ?_ | refine n_blk ?_ | refine e_thn ?_ | refine e_hit ?_ | refine e_miss rfl ?_ | refine r_thn ?_ | refine r_blk ?_ | refine e_rr ?_ | refine r_rr ?_ | refine e_cr ?_ | refine r_cr ?_ | refine .seq ?_ | refine reg ?_ | refine .block ?_ | refine .skip ?_ | refine .ret ?_ | refine .exit ?_ | refine cndT rfl ?_ | refine cndF rfl ?_ | refine c_dec rfl (fun hc => ?_) (fun hc => ?_) | refine c_ndec rfl (fun hc => ?_) (fun hc => ?_) | refine cnd rfl (fun hc => ?_) (fun hc => ?_) | refine gd rfl rfl rfl (fun hg => ?_) (fun hg => ?_) | refine gn rfl rfl rfl (fun hg => ?_) (fun hg => ?_) | refine dwr (by omega) ?_ | refine dwl ?_ | refine dws lay_ok rfl rfl rfl rfl rfl rfl rfl ?_ | refine dwu lay_ok rfl rfl rfl rfl rfl rfl rfl rfl rfl ?_ | refine dw_end ?_ | refine dw_skip rfl rfl rfl ?_ | refine dwn lay_ok rfl rfl rfl rfl rfl ?_ | refine dw_dec rfl rfl rfl (fun hg => ?_) (fun hg => ?_) | refine dw_ndec rfl rfl rfl (fun hg => ?_) (fun hg => ?_)
      all_goals first
        | (exfalso; omega)
        | skip
      refine dreg [(0, [], [18, 21, 22, 23, 24]), (1, [], [17, 21, 22, 23, 24]), (2, [0, 1], [21, 22, 23, 24]), (3, [0, 1, 2], [21, 22, 23, 24]), (4, [], [17, 18, 19, 20, 22]), (5, [], [17, 18, 19, 20, 21]), (6, [4, 5], [17, 18, 19, 20]), (7, [4, 5, 6], [17, 18, 19, 20]), (8, [0, 1, 2, 3, 4, 5, 6, 7], [])] mixed (by kernel_rfl) ?_
      repeat' first | refine wr (by omega) ?_ | refine ln ?_ | refine stp lay_ok rfl ?_ | refine fin ?_ | refine n_thn ?_ | refine n_blk ?_ | refine e_thn ?_ | refine e_hit ?_ | refine e_miss rfl ?_ | refine r_thn ?_ | refine r_blk ?_ | refine e_rr ?_ | refine r_rr ?_ | refine e_cr ?_ | refine r_cr ?_ | refine .seq ?_ | refine reg ?_ | refine .block ?_ | refine .skip ?_ | refine .ret ?_ | refine .exit ?_ | refine cndT rfl ?_ | refine cndF rfl ?_ | refine c_dec rfl (fun hc => ?_) (fun hc => ?_) | refine c_ndec rfl (fun hc => ?_) (fun hc => ?_) | refine cnd rfl (fun hc => ?_) (fun hc => ?_) | ((first | refine o_none rfl ?_ | refine o_none_ ?_ | refine o_yes rfl rfl rfl ?_ | refine o_yes_ rfl rfl ?_); first | refine st_index (rowF ⟨p, z⟩) lay_ok rfl rfl rfl rfl (by omega) hat ?_ | refine st_index (rowF ⟨p', z'⟩) lay_ok rfl rfl rfl rfl (by omega) hbt ?_ | refine st_eqAgg rfl rfl hq gF rfl ?_) | refine gd rfl rfl rfl (fun hg => ?_) (fun hg => ?_) | refine gn rfl rfl rfl (fun hg => ?_) (fun hg => ?_) | refine dwr (by omega) ?_ | refine dwl ?_ | refine dws lay_ok rfl rfl rfl rfl rfl rfl rfl ?_ | refine dwu lay_ok rfl rfl rfl rfl rfl rfl rfl rfl rfl ?_ | refine dw_end ?_ | refine dw_skip rfl rfl rfl ?_ | refine dwn lay_ok rfl rfl rfl rfl rfl ?_ | refine dwb rfl rfl rfl rfl rfl (by (first | refine st_index (rowF ⟨p, z⟩) lay_ok rfl rfl rfl rfl (by omega) hat ?_ | refine st_index (rowF ⟨p', z'⟩) lay_ok rfl rfl rfl rfl (by omega) hbt ?_ | refine st_eqAgg rfl rfl hq gF rfl ?_); exact fin rfl) rfl rfl ?_ | refine dwg rfl rfl rfl rfl rfl (by (first | refine st_index (rowF ⟨p, z⟩) lay_ok rfl rfl rfl rfl (by omega) hat ?_ | refine st_index (rowF ⟨p', z'⟩) lay_ok rfl rfl rfl rfl (by omega) hbt ?_ | refine st_eqAgg rfl rfl hq gF rfl ?_); exact fin rfl) rfl rfl rfl rfl rfl ?_ | refine dw_dec rfl rfl rfl (fun hg => ?_) (fun hg => ?_) | refine dw_ndec rfl rfl rfl (fun hg => ?_) (fun hg => ?_)
      refine n_rr (k + 1) ?_ (.of [] (by (repeat' first | exact trivial | refine And.intro ?_ ?_ | rfl | exact congrArg (fun z : Int => some (AV.st (.int .i64 z))) (show (k : Int) + 1 = ((k + 1 : Nat) : Int) by omega)); first | done | fail) (by (repeat' first | exact trivial | refine And.intro ?_ ?_ | rfl | exact congrArg (fun z : Int => some (AV.st (.int .i64 z))) (show (k : Int) + 1 = ((k + 1 : Nat) : Int) by omega)); first | done | fail) rfl) ?_
      · omega
      · exact ⟨hka, hnx (by rw [he.1, he.2])⟩
    · rw [decide_eq_false he] at hq
      repeat' first | refine wr (by omega) ?_ | refine ln ?_ | refine stp lay_ok rfl ?_ | refine fin ?_ | refine n_thn ?_ | refine n_blk ?_ | refine e_thn ?_ | refine e_hit ?_ | refine e_miss rfl ?_ | refine r_thn ?_ | refine r_blk ?_ | refine e_rr ?_ | refine r_rr ?_ | refine e_cr ?_ | refine r_cr ?_ | refine .seq ?_ | refine reg ?_ | refine .block ?_ | refine .skip ?_ | refine .ret ?_ | refine .exit ?_ | refine cndT rfl ?_ | refine cndF rfl ?_ | refine c_dec rfl (fun hc => ?_) (fun hc => ?_) | refine c_ndec rfl (fun hc => ?_) (fun hc => ?_) | refine cnd rfl (fun hc => ?_) (fun hc => ?_) | refine gd rfl rfl rfl (fun hg => ?_) (fun hg => ?_) | refine gn rfl rfl rfl (fun hg => ?_) (fun hg => ?_) | refine dwr (by omega) ?_ | refine dwl ?_ | refine dws lay_ok rfl rfl rfl rfl rfl rfl rfl ?_ | refine dwu lay_ok rfl rfl rfl rfl rfl rfl rfl rfl rfl ?_ | refine dw_end ?_ | refine dw_skip rfl rfl rfl ?_ | refine dwn lay_ok rfl rfl rfl rfl rfl ?_ | refine dw_dec rfl rfl rfl (fun hg => ?_) (fun hg => ?_) | refine dw_ndec rfl rfl rfl (fun hg => ?_) (fun hg => ?_)
      all_goals first
        | (exfalso; omega)
        | skip
      refine dreg [(0, [], [18, 21, 22, 23, 24]), (1, [], [17, 21, 22, 23, 24]), (2, [0, 1], [21, 22, 23, 24]), (3, [0, 1, 2], [21, 22, 23, 24]), (4, [], [17, 18, 19, 20, 22]), (5, [], [17, 18, 19, 20, 21]), (6, [4, 5], [17, 18, 19, 20]), (7, [4, 5, 6], [17, 18, 19, 20]), (8, [0, 1, 2, 3, 4, 5, 6, 7], [])] mixed (by kernel_rfl) ?_
      repeat' first | refine wr (by omega) ?_ | refine ln ?_ | refine stp lay_ok rfl ?_ | refine fin ?_ | refine n_thn ?_ | refine n_blk ?_ | refine e_thn ?_ | refine e_hit ?_ | refine e_miss rfl ?_ | refine r_thn ?_ | refine r_blk ?_ | refine e_rr ?_ | refine r_rr ?_ | refine e_cr ?_ | refine r_cr ?_ | refine .seq ?_ | refine reg ?_ | refine .block ?_ | refine .skip ?_ | refine .ret ?_ | refine .exit ?_ | refine cndT rfl ?_ | refine cndF rfl ?_ | refine c_dec rfl (fun hc => ?_) (fun hc => ?_) | refine c_ndec rfl (fun hc => ?_) (fun hc => ?_) | refine cnd rfl (fun hc => ?_) (fun hc => ?_) | ((first | refine o_none rfl ?_ | refine o_none_ ?_ | refine o_yes rfl rfl rfl ?_ | refine o_yes_ rfl rfl ?_); first | refine st_index (rowF ⟨p, z⟩) lay_ok rfl rfl rfl rfl (by omega) hat ?_ | refine st_index (rowF ⟨p', z'⟩) lay_ok rfl rfl rfl rfl (by omega) hbt ?_ | refine st_eqAgg rfl rfl hq gF rfl ?_) | refine gd rfl rfl rfl (fun hg => ?_) (fun hg => ?_) | refine gn rfl rfl rfl (fun hg => ?_) (fun hg => ?_) | refine dwr (by omega) ?_ | refine dwl ?_ | refine dws lay_ok rfl rfl rfl rfl rfl rfl rfl ?_ | refine dwu lay_ok rfl rfl rfl rfl rfl rfl rfl rfl rfl ?_ | refine dw_end ?_ | refine dw_skip rfl rfl rfl ?_ | refine dwn lay_ok rfl rfl rfl rfl rfl ?_ | refine dwb rfl rfl rfl rfl rfl (by (first | refine st_index (rowF ⟨p, z⟩) lay_ok rfl rfl rfl rfl (by omega) hat ?_ | refine st_index (rowF ⟨p', z'⟩) lay_ok rfl rfl rfl rfl (by omega) hbt ?_ | refine st_eqAgg rfl rfl hq gF rfl ?_); exact fin rfl) rfl rfl ?_ | refine dwg rfl rfl rfl rfl rfl (by (first | refine st_index (rowF ⟨p, z⟩) lay_ok rfl rfl rfl rfl (by omega) hat ?_ | refine st_index (rowF ⟨p', z'⟩) lay_ok rfl rfl rfl rfl (by omega) hbt ?_ | refine st_eqAgg rfl rfl hq gF rfl ?_); exact fin rfl) rfl rfl rfl rfl rfl ?_ | refine dw_dec rfl rfl rfl (fun hg => ?_) (fun hg => ?_) | refine dw_ndec rfl rfl rfl (fun hg => ?_) (fun hg => ?_)
      refine f_r [] rfl trivial rfl ⟨?_, rfl⟩
      rw [hex (fun e => he (by cases e; exact ⟨rfl, rfl⟩))]; rfl
def restP (l : List EV) (cs : List ByteArray) : AV := if (checkP l).1 ≠ 0 then .tuple [.st .nilsl, I (checkP l).1, I (checkP l).2] else match lostAt cs l 0 with
  | some i => .tuple [.st .nilsl, I 3, I i]
  | none => .tuple [.st (.sl 2 ((l.map backF).map rowF)), I 0, I (-1)]
set_option maxHeartbeats 8000000 in
set_option maxRecDepth 4000 in
theorem refRestore_ok (l : List EV) (cs : List ByteArray) (hl : l.length ≤ 4000000000) (hp : ∀ e ∈ l, e.path.size ≤ 4000000000 - 1) (hk : ∀ e ∈ l, e.keys.length ≤ 4000000000) (hcs : cs.length ≤ 4000000000) :
    ACalls prog 24 0 [.st (.sl 3 (l.map rowE)), .st (.sl 1 (cs.map rowS))] [] fun r h => r = restP l cs ∧ h = [] := by
  have hck := refCheck_ok l hl hp hk
  have hm : (List.map rowE l).length = l.length := List.length_map _
  have hcp : (checkP l).1 = 0 → l.length ≤ 32 ∧ badFrom l l.length 0 = none := by
    unfold checkP
    intro h
    by_cases h32 : 32 < l.length
    · rw [if_pos h32] at h; cases h
    · rw [if_neg h32] at h
      cases hb : badFrom l l.length 0 with
      | none => exact ⟨by omega, rfl⟩
      | some x =>
        obtain ⟨i, n⟩ := x
        rw [hb] at h
        have := badFrom_nat l _ _ hb
        simp only at h; omega
  unfold restP
  generalize checkP l = cp at *
  obtain ⟨n, a⟩ := cp
  simp only at hcp hck ⊢
  refine fnC lay_ok func24 rfl rfl rfl rfl rfl ?_
  by_cases hn : n = 0
  case neg =>
    rw [if_pos hn]
    repeat' first | refine wr (by omega) ?_ | refine ln ?_ | refine stp lay_ok rfl ?_ | refine fin ?_ | refine n_thn ?_ | refine n_blk ?_ | refine e_thn ?_ | refine e_hit ?_ | refine e_miss rfl ?_ | refine r_thn ?_ | refine r_blk ?_ | refine e_rr ?_ | refine r_rr ?_ | refine e_cr ?_ | refine r_cr ?_ | refine .seq ?_ | refine reg ?_ | refine .block ?_ | refine .skip ?_ | refine .ret ?_ | refine .exit ?_ | refine cndT rfl ?_ | refine cndF rfl ?_ | refine c_dec rfl (fun hc => ?_) (fun hc => ?_) | refine c_ndec rfl (fun hc => ?_) (fun hc => ?_) | refine cnd rfl (fun hc => ?_) (fun hc => ?_) | ((first | refine o_none rfl ?_ | refine o_none_ ?_ | refine o_yes rfl rfl rfl ?_ | refine o_yes_ rfl rfl ?_); first | refine st_pure (hck) b20 rfl rfl rfl rfl ?_) | refine gd rfl rfl rfl (fun hg => ?_) (fun hg => ?_) | refine gn rfl rfl rfl (fun hg => ?_) (fun hg => ?_) | refine dwr (by omega) ?_ | refine dwl ?_ | refine dws lay_ok rfl rfl rfl rfl rfl rfl rfl ?_ | refine dwu lay_ok rfl rfl rfl rfl rfl rfl rfl rfl rfl ?_ | refine dw_end ?_ | refine dw_skip rfl rfl rfl ?_ | refine dwn lay_ok rfl rfl rfl rfl rfl ?_ | refine dwb rfl rfl rfl rfl rfl (by (first | refine st_pure (hck) b20 rfl rfl rfl rfl ?_); exact fin rfl) rfl rfl ?_ | refine dwg rfl rfl rfl rfl rfl (by (first | refine st_pure (hck) b20 rfl rfl rfl rfl ?_); exact fin rfl) rfl rfl rfl rfl rfl ?_ | refine dw_dec rfl rfl rfl (fun hg => ?_) (fun hg => ?_) | refine dw_ndec rfl rfl rfl (fun hg => ?_) (fun hg => ?_)
    all_goals first
      | (exfalso; contradiction)
      | skip
    refine f_r [] rfl trivial rfl ⟨?_, rfl⟩
    rfl
  obtain ⟨h32, hb⟩ := hcp hn
  rw [if_neg (fun h => h hn)]
  subst hn
  repeat' first | refine wr (by omega) ?_ | refine ln ?_ | refine stp lay_ok rfl ?_ | refine fin ?_ | refine n_thn ?_ | refine n_blk ?_ | refine e_thn ?_ | refine e_hit ?_ | refine e_miss rfl ?_ | refine r_thn ?_ | refine r_blk ?_ | refine e_rr ?_ | refine r_rr ?_ | refine e_cr ?_ | refine r_cr ?_ | refine .seq ?_ | refine reg ?_ | refine .block ?_ | refine .skip ?_ | refine .ret ?_ | refine .exit ?_ | refine cndT rfl ?_ | refine cndF rfl ?_ | refine c_dec rfl (fun hc => ?_) (fun hc => ?_) | refine c_ndec rfl (fun hc => ?_) (fun hc => ?_) | refine cnd rfl (fun hc => ?_) (fun hc => ?_) | ((first | refine o_none rfl ?_ | refine o_none_ ?_ | refine o_yes rfl rfl rfl ?_ | refine o_yes_ rfl rfl ?_); first | refine st_pure (hck) b20 rfl rfl rfl rfl ?_) | refine gd rfl rfl rfl (fun hg => ?_) (fun hg => ?_) | refine gn rfl rfl rfl (fun hg => ?_) (fun hg => ?_) | refine dwr (by omega) ?_ | refine dwl ?_ | refine dws lay_ok rfl rfl rfl rfl rfl rfl rfl ?_ | refine dwu lay_ok rfl rfl rfl rfl rfl rfl rfl rfl rfl ?_ | refine dw_end ?_ | refine dw_skip rfl rfl rfl ?_ | refine dwn lay_ok rfl rfl rfl rfl rfl ?_ | refine dwb rfl rfl rfl rfl rfl (by (first | refine st_pure (hck) b20 rfl rfl rfl rfl ?_); exact fin rfl) rfl rfl ?_ | refine dwg rfl rfl rfl rfl rfl (by (first | refine st_pure (hck) b20 rfl rfl rfl rfl ?_); exact fin rfl) rfl rfl rfl rfl rfl ?_ | refine dw_dec rfl rfl rfl (fun hg => ?_) (fun hg => ?_) | refine dw_ndec rfl rfl rfl (fun hg => ?_) (fun hg => ?_)
  all_goals first
    | (exfalso; omega)
    | skip
  refine CodeOk.wk (Wk.nilT 2 9 rfl rfl) (Nat.le_succ _) ?_
  refine nrm rfl rfl ?_
  refine lpR (fun (k, out) => k ≤ l.length ∧ out = (l.take k).map backF ∧ lostAt cs l 0 = lostAt cs (l.drop k) k) (fun (k, out) => l.length - k) (fun (k, out) => [(10, I k), (9, .lsl 1 2 0 (out.map rowF).length)]) (fun (k, out) => [(1, .arr 2 (out.map rowF))]) ((0, [])) [0, 1] [] [0] rfl rfl rfl (.of [0] (by (repeat' first | exact trivial | refine And.intro ?_ ?_ | rfl); first | done | fail) (by (repeat' first | exact trivial | refine And.intro ?_ ?_ | rfl); first | done | fail) rfl) ?_ ?_
  · exact ⟨Nat.zero_le _, rfl, rfl⟩
  rintro ⟨k, out⟩ ⟨q1, q2, q3⟩
  refine nrm rfl rfl ?_
  have hmo : (List.map rowF out).length = out.length := List.length_map _
  have hol : out.length = k := by rw [q2]; simp; omega
  by_cases hk' : k < l.length
  case neg =>
    have hke : k = l.length := by omega
    subst hke
    rw [List.take_length] at q2
    rw [List.drop_length] at q3
    rw [q3, lostAt, ← q2]
    repeat' first | refine wr (by omega) ?_ | refine ln ?_ | refine stp lay_ok rfl ?_ | refine fin ?_ | refine n_thn ?_ | refine n_blk ?_ | refine e_thn ?_ | refine e_hit ?_ | refine e_miss rfl ?_ | refine r_thn ?_ | refine r_blk ?_ | refine e_rr ?_ | refine r_rr ?_ | refine e_cr ?_ | refine r_cr ?_ | refine .seq ?_ | refine reg ?_ | refine .block ?_ | refine .skip ?_ | refine .ret ?_ | refine .exit ?_ | refine cndT rfl ?_ | refine cndF rfl ?_ | refine c_dec rfl (fun hc => ?_) (fun hc => ?_) | refine c_ndec rfl (fun hc => ?_) (fun hc => ?_) | refine cnd rfl (fun hc => ?_) (fun hc => ?_) | refine gd rfl rfl rfl (fun hg => ?_) (fun hg => ?_) | refine gn rfl rfl rfl (fun hg => ?_) (fun hg => ?_) | refine dwr (by omega) ?_ | refine dwl ?_ | refine dws lay_ok rfl rfl rfl rfl rfl rfl rfl ?_ | refine dwu lay_ok rfl rfl rfl rfl rfl rfl rfl rfl rfl ?_ | refine dw_end ?_ | refine dw_skip rfl rfl rfl ?_ | refine dwn lay_ok rfl rfl rfl rfl rfl ?_ | refine dw_dec rfl rfl rfl (fun hg => ?_) (fun hg => ?_) | refine dw_ndec rfl rfl rfl (fun hg => ?_) (fun hg => ?_)
    all_goals first
      | (exfalso; omega)
      | skip
    refine f_end (n0 := 0) (t'' := [(4, .st (.sl 2 (out.map rowF))), (5, I 0), (6, I (-1))]) (h'' := []) (Wk.then (Wk.frz 1 [4, 5, 6] rfl rfl rfl (by (repeat' first | exact trivial | refine And.intro ?_ ?_ | rfl); first | done | fail) (by (repeat' first | exact trivial | refine And.intro ?_ ?_ | rfl); first | done | fail) rfl rfl) (WkR.of [] (by (repeat' first | exact trivial | refine And.intro ?_ ?_ | rfl); first | done | fail) (by (repeat' first | exact trivial | refine And.intro ?_ ?_ | rfl); first | done | fail) rfl)) rfl rfl ⟨?_, rfl⟩
    rfl
  have hat := at_rowE hk'
  have hst := lostAt_step cs hk'
  rw [← q3] at hst
  have hkl := hk _ (List.getElem_mem hk')
  have hwh := whole_join (tree_whole hb k hk')
  rw [join_tot] at hwh
  have hj := refJoin_ok l[k].keys hkl (by omega)
  have htk : (l.take (k + 1)).map backF = out ++ [backF l[k]] := by
    rw [q2, List.take_succ_eq_append_getElem hk', List.map_append]; rfl
  have hlb : lostB cs l[k] = l[k].keys.any fun x => !memB x cs := rfl
  generalize l[k] = e at *
  obtain ⟨p, z, ks⟩ := e
  simp only at hj hwh hlb hkl
  have hmk : (List.map rowS ks).length = ks.length := List.length_map _
  repeat' first | refine wr (by omega) ?_ | refine ln ?_ | refine stp lay_ok rfl ?_ | refine fin ?_ | refine n_thn ?_ | refine n_blk ?_ | refine e_thn ?_ | refine e_hit ?_ | refine e_miss rfl ?_ | refine r_thn ?_ | refine r_blk ?_ | refine e_rr ?_ | refine r_rr ?_ | refine e_cr ?_ | refine r_cr ?_ | refine .seq ?_ | refine reg ?_ | refine .block ?_ | refine .skip ?_ | refine .ret ?_ | refine .exit ?_ | refine cndT rfl ?_ | refine cndF rfl ?_ | refine c_dec rfl (fun hc => ?_) (fun hc => ?_) | refine c_ndec rfl (fun hc => ?_) (fun hc => ?_) | refine cnd rfl (fun hc => ?_) (fun hc => ?_) | refine gd rfl rfl rfl (fun hg => ?_) (fun hg => ?_) | refine gn rfl rfl rfl (fun hg => ?_) (fun hg => ?_) | refine dwr (by omega) ?_ | refine dwl ?_ | refine dws lay_ok rfl rfl rfl rfl rfl rfl rfl ?_ | refine dwu lay_ok rfl rfl rfl rfl rfl rfl rfl rfl rfl ?_ | refine dw_end ?_ | refine dw_skip rfl rfl rfl ?_ | refine dwn lay_ok rfl rfl rfl rfl rfl ?_ | refine dw_dec rfl rfl rfl (fun hg => ?_) (fun hg => ?_) | refine dw_ndec rfl rfl rfl (fun hg => ?_) (fun hg => ?_)
  all_goals first
    | (exfalso; omega)
    | skip
  refine lpR (fun j => j ≤ ks.length ∧ ((ks.take j).any fun x => !memB x cs) = false) (fun j => ks.length - j) (fun j => [(11, I j)]) (fun j => []) (0) [0, 1, 9, 10] [] [] rfl rfl rfl (.of [] (by (repeat' first | exact trivial | refine And.intro ?_ ?_ | rfl); first | done | fail) (by (repeat' first | exact trivial | refine And.intro ?_ ?_ | rfl); first | done | fail) rfl) ?_ ?_
  · exact ⟨Nat.zero_le _, rfl⟩
  rintro j ⟨w1, w2⟩
  refine nrm rfl rfl ?_
  by_cases hj' : j < ks.length
  · have hat2 := at_rowS hj'
    have hh := has_ok cs ks[j] hcs
    have htj : ((ks.take (j + 1)).any fun x => !memB x cs) = (((ks.take j).any fun x => !memB x cs) || !memB ks[j] cs) := by
      rw [List.take_succ_eq_append_getElem hj', List.any_append]; simp
    have hyes : memB ks[j] cs = false → (ks.any fun x => !memB x cs) = true := fun h => by
      rw [List.any_eq_true]; exact ⟨ks[j], List.getElem_mem hj', by rw [h]; rfl⟩
    generalize ks[j] = c at *
    cases hmb : memB c cs <;> rw [hmb] at hh
    · rw [hlb, hyes hmb, if_pos rfl] at hst
      rw [hst]
      repeat' first | refine wr (by omega) ?_ | refine ln ?_ | refine stp lay_ok rfl ?_ | refine fin ?_ | refine n_thn ?_ | refine n_blk ?_ | refine e_thn ?_ | refine e_hit ?_ | refine e_miss rfl ?_ | refine r_thn ?_ | refine r_blk ?_ | refine e_rr ?_ | refine r_rr ?_ | refine e_cr ?_ | refine r_cr ?_ | refine .seq ?_ | refine reg ?_ | refine .block ?_ | refine .skip ?_ | refine .ret ?_ | refine .exit ?_ | refine cndT rfl ?_ | refine cndF rfl ?_ | refine c_dec rfl (fun hc => ?_) (fun hc => ?_) | refine c_ndec rfl (fun hc => ?_) (fun hc => ?_) | refine cnd rfl (fun hc => ?_) (fun hc => ?_) | ((first | refine o_none rfl ?_ | refine o_none_ ?_ | refine o_yes rfl rfl rfl ?_ | refine o_yes_ rfl rfl ?_); first | refine st_index (rowE ⟨p, z, ks⟩) lay_ok rfl rfl rfl rfl (by omega) hat ?_ | refine st_index (rowS c) lay_ok rfl rfl rfl rfl (by omega) hat2 ?_ | refine st_pure (hh) b26 rfl rfl rfl rfl ?_) | refine gd rfl rfl rfl (fun hg => ?_) (fun hg => ?_) | refine gn rfl rfl rfl (fun hg => ?_) (fun hg => ?_) | refine dwr (by omega) ?_ | refine dwl ?_ | refine dws lay_ok rfl rfl rfl rfl rfl rfl rfl ?_ | refine dwu lay_ok rfl rfl rfl rfl rfl rfl rfl rfl rfl ?_ | refine dw_end ?_ | refine dw_skip rfl rfl rfl ?_ | refine dwn lay_ok rfl rfl rfl rfl rfl ?_ | refine dwb rfl rfl rfl rfl rfl (by (first | refine st_index (rowE ⟨p, z, ks⟩) lay_ok rfl rfl rfl rfl (by omega) hat ?_ | refine st_index (rowS c) lay_ok rfl rfl rfl rfl (by omega) hat2 ?_ | refine st_pure (hh) b26 rfl rfl rfl rfl ?_); exact fin rfl) rfl rfl ?_ | refine dwg rfl rfl rfl rfl rfl (by (first | refine st_index (rowE ⟨p, z, ks⟩) lay_ok rfl rfl rfl rfl (by omega) hat ?_ | refine st_index (rowS c) lay_ok rfl rfl rfl rfl (by omega) hat2 ?_ | refine st_pure (hh) b26 rfl rfl rfl rfl ?_); exact fin rfl) rfl rfl rfl rfl rfl ?_ | refine dw_dec rfl rfl rfl (fun hg => ?_) (fun hg => ?_) | refine dw_ndec rfl rfl rfl (fun hg => ?_) (fun hg => ?_)
      all_goals first
        | (exfalso; omega)
        | (exfalso; simp only at *; omega)
        | skip
      refine f_r [] rfl trivial rfl ⟨?_, rfl⟩
      rfl
    · repeat' first | refine wr (by omega) ?_ | refine ln ?_ | refine stp lay_ok rfl ?_ | refine fin ?_ | refine n_thn ?_ | refine n_blk ?_ | refine e_thn ?_ | refine e_hit ?_ | refine e_miss rfl ?_ | refine r_thn ?_ | refine r_blk ?_ | refine e_rr ?_ | refine r_rr ?_ | refine e_cr ?_ | refine r_cr ?_ | refine .seq ?_ | refine reg ?_ | refine .block ?_ | refine .skip ?_ | refine .ret ?_ | refine .exit ?_ | refine cndT rfl ?_ | refine cndF rfl ?_ | refine c_dec rfl (fun hc => ?_) (fun hc => ?_) | refine c_ndec rfl (fun hc => ?_) (fun hc => ?_) | refine cnd rfl (fun hc => ?_) (fun hc => ?_) | ((first | refine o_none rfl ?_ | refine o_none_ ?_ | refine o_yes rfl rfl rfl ?_ | refine o_yes_ rfl rfl ?_); first | refine st_index (rowE ⟨p, z, ks⟩) lay_ok rfl rfl rfl rfl (by omega) hat ?_ | refine st_index (rowS c) lay_ok rfl rfl rfl rfl (by omega) hat2 ?_ | refine st_pure (hh) b26 rfl rfl rfl rfl ?_) | refine gd rfl rfl rfl (fun hg => ?_) (fun hg => ?_) | refine gn rfl rfl rfl (fun hg => ?_) (fun hg => ?_) | refine dwr (by omega) ?_ | refine dwl ?_ | refine dws lay_ok rfl rfl rfl rfl rfl rfl rfl ?_ | refine dwu lay_ok rfl rfl rfl rfl rfl rfl rfl rfl rfl ?_ | refine dw_end ?_ | refine dw_skip rfl rfl rfl ?_ | refine dwn lay_ok rfl rfl rfl rfl rfl ?_ | refine dwb rfl rfl rfl rfl rfl (by (first | refine st_index (rowE ⟨p, z, ks⟩) lay_ok rfl rfl rfl rfl (by omega) hat ?_ | refine st_index (rowS c) lay_ok rfl rfl rfl rfl (by omega) hat2 ?_ | refine st_pure (hh) b26 rfl rfl rfl rfl ?_); exact fin rfl) rfl rfl ?_ | refine dwg rfl rfl rfl rfl rfl (by (first | refine st_index (rowE ⟨p, z, ks⟩) lay_ok rfl rfl rfl rfl (by omega) hat ?_ | refine st_index (rowS c) lay_ok rfl rfl rfl rfl (by omega) hat2 ?_ | refine st_pure (hh) b26 rfl rfl rfl rfl ?_); exact fin rfl) rfl rfl rfl rfl rfl ?_ | refine dw_dec rfl rfl rfl (fun hg => ?_) (fun hg => ?_) | refine dw_ndec rfl rfl rfl (fun hg => ?_) (fun hg => ?_)
      all_goals first
        | (exfalso; omega)
        | (exfalso; simp only at *; omega)
        | skip
      refine n_rr (j + 1) ?_ (.of [] (by (repeat' first | exact trivial | refine And.intro ?_ ?_ | rfl | exact congrArg (fun z : Int => some (AV.st (.int .i64 z))) (show (j : Int) + 1 = ((j + 1 : Nat) : Int) by omega)); first | done | fail) (by (repeat' first | exact trivial | refine And.intro ?_ ?_ | rfl | exact congrArg (fun z : Int => some (AV.st (.int .i64 z))) (show (j : Int) + 1 = ((j + 1 : Nat) : Int) by omega)); first | done | fail) rfl) ?_
      · omega
      · exact ⟨hj', by rw [htj, w2, hmb]; rfl⟩
  have hje : j = ks.length := by omega
  subst hje
  rw [List.take_length] at w2
  rw [hlb, w2, if_neg (by simp)] at hst
  have hr : List.map rowF out ++ [[SV.str p, SV.str (joinB ks)]] = List.map rowF (out ++ [backF ⟨p, z, ks⟩]) := by rw [List.map_append]; rfl
  have hone : ∀ row ∈ [[SV.str p, SV.str (joinB ks)]], ∀ y ∈ row, SV.one y = true := by
    intro row hrow y hy
    simp only [List.mem_singleton] at hrow
    subst hrow
    simp only [List.mem_cons, List.not_mem_nil, or_false] at hy
    rcases hy with rfl | rfl <;> rfl
  repeat' first | refine wr (by omega) ?_ | refine ln ?_ | refine stp lay_ok rfl ?_ | refine fin ?_ | refine n_thn ?_ | refine n_blk ?_ | refine e_thn ?_ | refine e_hit ?_ | refine e_miss rfl ?_ | refine r_thn ?_ | refine r_blk ?_ | refine e_rr ?_ | refine r_rr ?_ | refine e_cr ?_ | refine r_cr ?_ | refine .seq ?_ | refine reg ?_ | refine .block ?_ | refine .skip ?_ | refine .ret ?_ | refine .exit ?_ | refine cndT rfl ?_ | refine cndF rfl ?_ | refine c_dec rfl (fun hc => ?_) (fun hc => ?_) | refine c_ndec rfl (fun hc => ?_) (fun hc => ?_) | refine cnd rfl (fun hc => ?_) (fun hc => ?_) | ((first | refine o_none rfl ?_ | refine o_none_ ?_ | refine o_yes rfl rfl rfl ?_ | refine o_yes_ rfl rfl ?_); first | refine st_index (rowE ⟨p, z, ks⟩) lay_ok rfl rfl rfl rfl (by omega) hat ?_) | refine gd rfl rfl rfl (fun hg => ?_) (fun hg => ?_) | refine gn rfl rfl rfl (fun hg => ?_) (fun hg => ?_) | refine dwr (by omega) ?_ | refine dwl ?_ | refine dws lay_ok rfl rfl rfl rfl rfl rfl rfl ?_ | refine dwu lay_ok rfl rfl rfl rfl rfl rfl rfl rfl rfl ?_ | refine dw_end ?_ | refine dw_skip rfl rfl rfl ?_ | refine dwn lay_ok rfl rfl rfl rfl rfl ?_ | refine dwb rfl rfl rfl rfl rfl (by (first | refine st_index (rowE ⟨p, z, ks⟩) lay_ok rfl rfl rfl rfl (by omega) hat ?_); exact fin rfl) rfl rfl ?_ | refine dwg rfl rfl rfl rfl rfl (by (first | refine st_index (rowE ⟨p, z, ks⟩) lay_ok rfl rfl rfl rfl (by omega) hat ?_); exact fin rfl) rfl rfl rfl rfl rfl ?_ | refine dw_dec rfl rfl rfl (fun hg => ?_) (fun hg => ?_) | refine dw_ndec rfl rfl rfl (fun hg => ?_) (fun hg => ?_)
  all_goals first
    | (exfalso; omega)
    | (exfalso; simp only at *; omega)
    | skip
  refine dreg [(0, [], [52, 53, 54, 55, 56, 57, 58, 59, 60, 61, 62, 63, 64]), (1, [], [51, 53, 57, 58, 59, 60, 61, 62]), (2, [], [51, 52, 57, 58, 59, 60, 61, 62]), (3, [1, 2], [51, 57, 58, 59, 60, 61, 62]), (4, [1, 2, 3], [51, 57, 58, 59, 60, 61, 62]), (5, [1, 2, 3, 4], [51, 57, 58, 59, 60, 61, 62]), (6, [], [51, 52, 53, 54, 55, 56, 58]), (7, [], [51, 52, 53, 54, 55, 56, 57]), (8, [6, 7], [51, 52, 53, 54, 55, 56]), (9, [6, 7, 8], [51, 52, 53, 54, 55, 56]), (10, [6, 7, 8, 9], [51, 52, 53, 54, 55, 56]), (11, [6, 7, 8, 9, 10], [51, 52, 53, 54, 55, 56]), (12, [1, 2, 3, 4, 5, 6, 7, 8, 9, 10, 11], [51]), (13, [1, 2, 3, 4, 5, 6, 7, 8, 9, 10, 11, 12], [51]), (14, [0, 1, 2, 3, 4, 5, 6, 7, 8, 9, 10, 11, 12, 13], []), (15, [0, 1, 2, 3, 4, 5, 6, 7, 8, 9, 10, 11, 12, 13, 14], [])] mixed (by kernel_rfl) ?_
  repeat' first | refine wr (by omega) ?_ | refine ln ?_ | refine stp lay_ok rfl ?_ | refine fin ?_ | refine n_thn ?_ | refine n_blk ?_ | refine e_thn ?_ | refine e_hit ?_ | refine e_miss rfl ?_ | refine r_thn ?_ | refine r_blk ?_ | refine e_rr ?_ | refine r_rr ?_ | refine e_cr ?_ | refine r_cr ?_ | refine .seq ?_ | refine reg ?_ | refine .block ?_ | refine .skip ?_ | refine .ret ?_ | refine .exit ?_ | refine cndT rfl ?_ | refine cndF rfl ?_ | refine c_dec rfl (fun hc => ?_) (fun hc => ?_) | refine c_ndec rfl (fun hc => ?_) (fun hc => ?_) | refine cnd rfl (fun hc => ?_) (fun hc => ?_) | ((first | refine o_none rfl ?_ | refine o_none_ ?_ | refine o_yes rfl rfl rfl ?_ | refine o_yes_ rfl rfl ?_); first | refine st_index (rowE ⟨p, z, ks⟩) lay_ok rfl rfl rfl rfl (by omega) hat ?_ | refine st_pure (hj) b50 rfl rfl rfl rfl ?_ | refine st_append lay_ok rfl rfl rfl rfl rfl rfl rfl rfl (.lsl rfl rfl) (.sl (rows := [[SV.str p, SV.str (joinB ks)]])) rfl hone (by simp only [List.length_cons, List.length_nil]; omega) (by simp only [List.length_cons, List.length_nil]; omega) ?_) | refine gd rfl rfl rfl (fun hg => ?_) (fun hg => ?_) | refine gn rfl rfl rfl (fun hg => ?_) (fun hg => ?_) | refine dwr (by omega) ?_ | refine dwl ?_ | refine dws lay_ok rfl rfl rfl rfl rfl rfl rfl ?_ | refine dwu lay_ok rfl rfl rfl rfl rfl rfl rfl rfl rfl ?_ | refine dw_end ?_ | refine dw_skip rfl rfl rfl ?_ | refine dwn lay_ok rfl rfl rfl rfl rfl ?_ | refine dwb rfl rfl rfl rfl rfl (by (first | refine st_index (rowE ⟨p, z, ks⟩) lay_ok rfl rfl rfl rfl (by omega) hat ?_ | refine st_pure (hj) b50 rfl rfl rfl rfl ?_ | refine st_append lay_ok rfl rfl rfl rfl rfl rfl rfl rfl (.lsl rfl rfl) (.sl (rows := [[SV.str p, SV.str (joinB ks)]])) rfl hone (by simp only [List.length_cons, List.length_nil]; omega) (by simp only [List.length_cons, List.length_nil]; omega) ?_); exact fin rfl) rfl rfl ?_ | refine dwg rfl rfl rfl rfl rfl (by (first | refine st_index (rowE ⟨p, z, ks⟩) lay_ok rfl rfl rfl rfl (by omega) hat ?_ | refine st_pure (hj) b50 rfl rfl rfl rfl ?_ | refine st_append lay_ok rfl rfl rfl rfl rfl rfl rfl rfl (.lsl rfl rfl) (.sl (rows := [[SV.str p, SV.str (joinB ks)]])) rfl hone (by simp only [List.length_cons, List.length_nil]; omega) (by simp only [List.length_cons, List.length_nil]; omega) ?_); exact fin rfl) rfl rfl rfl rfl rfl ?_ | refine dw_dec rfl rfl rfl (fun hg => ?_) (fun hg => ?_) | refine dw_ndec rfl rfl rfl (fun hg => ?_) (fun hg => ?_)
  rw [hr]
  refine n_rr ((k + 1, out ++ [backF ⟨p, z, ks⟩])) ?_ (.of [2] (by (repeat' first | exact trivial | refine And.intro ?_ ?_ | rfl | exact congrArg (fun z : Int => some (AV.st (.int .i64 z))) (show (k : Int) + 1 = ((k + 1 : Nat) : Int) by omega)); first | done | fail) (by (repeat' first | exact trivial | refine And.intro ?_ ?_ | rfl | exact congrArg (fun z : Int => some (AV.st (.int .i64 z))) (show (k : Int) + 1 = ((k + 1 : Nat) : Int) by omega)); first | done | fail) rfl) ?_
  · show l.length - (k + 1) < l.length - k; omega
  · exact ⟨hk', htk.symm, hst⟩
end Go.Proofs.YtmekcbbieacioaaGreatDoorFn
namespace Go.Proofs.YtmekcbbieacioaaGreatDoorFn
open Go.Proofs.YtmekcbbieacioaaGreatDoorAl Go.Proofs.Tryz
/-! ### what was built is a tree, and restored -/
theorem lenG_le64 (c : CV) (s : ByteArray) (h : c.ok = true) : c.len s ≤ 64 := by
  simp only [CV.ok, Bool.and_eq_true, decide_eq_true_eq] at h
  have := lenG_le s c.mn.toNat c.ms.toNat (min s.size c.mx.toNat) (min s.size c.mx.toNat) (Nat.le_refl _)
  unfold CV.len
  omega
theorem empty_of {s : ByteArray} (h : s.size = 0) : s = ⟨#[]⟩ := by
  apply ByteArray.ext
  exact Array.eq_empty_of_size_eq_zero h
theorem joinB_cons (x : ByteArray) (r : List ByteArray) : joinB (x :: r) = x ++ joinB r := by
  apply ByteArray.ext
  apply Array.toList_inj.1
  rw [ByteArray.data_append, Array.toList_append]
  unfold joinB
  simp
theorem cut_eq (s : ByteArray) (k : Nat) (h : k ≤ s.size) : s.extract 0 k ++ s.extract k s.size = s := by
  apply ByteArray.ext
  apply Array.toList_inj.1
  rw [ByteArray.data_append, Array.toList_append, ext_list, ext_drop]
  rw [List.drop_zero]
  simp
theorem split_keys (c : CV) (hc : c.ok = true) : ∀ (n : Nat) (s : ByteArray), s.size ≤ n → (c.split n s).all keyOk = true ∧ joinB (c.split n s) = s
  | 0, s, h => by
    have hs : s.size = 0 := by omega
    rw [empty_of hs]
    exact ⟨rfl, rfl⟩
  | n + 1, s, h => by
    unfold CV.split
    by_cases hs : s.size = 0
    · rw [if_pos hs, empty_of hs]
      exact ⟨rfl, rfl⟩
    · rw [if_neg hs]
      obtain ⟨h1, h2⟩ := c.len_le s hc (by omega)
      have h3 := lenG_le64 c s hc
      have hsz : (s.extract (c.len s) s.size).size ≤ n := by
        rw [ByteArray.size_extract]; omega
      obtain ⟨i1, i2⟩ := split_keys c hc n _ hsz
      refine ⟨?_, ?_⟩
      · rw [List.all_cons, i1, Bool.and_true]
        unfold keyOk
        rw [ByteArray.size_extract]
        simp; omega
      · rw [joinB_cons, i2]
        exact cut_eq s _ h2
theorem clashB_comm (a b : ByteArray) : clashB a b = clashB b a := by
  unfold clashB
  have : decide (a = b) = decide (b = a) := by
    by_cases h : a = b
    · subst h; rfl
    · rw [decide_eq_false h, decide_eq_false (fun e => h e.symm)]
  rw [this]
  cases decide (b = a) <;> cases under a b <;> cases under b a <;> rfl
theorem fileC_good {l : List FV} {i : Nat} {f : FV} (h : fileC l i f = none) : pathOk f.path = true ∧ f.bytes.size ≤ 1024 ∧ (l.take i).any (fun x => clashB x.path f.path) = false := by
  unfold fileC at h
  cases h1 : pathOk f.path with
  | false => rw [h1] at h; cases h
  | true =>
    rw [h1, if_pos rfl] at h
    by_cases h2 : 1024 < f.bytes.size
    · rw [if_pos h2] at h; cases h
    · rw [if_neg h2] at h
      cases h3 : (l.take i).any fun x => clashB x.path f.path with
      | true => rw [h3] at h; cases h
      | false => exact ⟨rfl, by omega, rfl⟩
theorem apart_clash {l : List FV} (hb : badFile l l.length 0 = none) {i j : Nat} (hi : i < l.length) (hj : j < l.length) (hij : i ≠ j) : clashB l[i].path l[j].path = false := by
  have key : ∀ {i j : Nat} (hi : i < l.length) (hj : j < l.length), i < j → clashB l[i].path l[j].path = false := fun {i j} hi hj hlt => by
    have h := (fileC_good (badFile_none l l.length 0 hb j (Nat.zero_le _) (by omega) hj)).2.2
    rw [List.any_eq_false] at h
    have := h l[i] (List.mem_take_iff_getElem.2 ⟨i, by omega, rfl⟩)
    simpa using this
  rcases Nat.lt_or_gt_of_ne hij with h | h
  · exact key hi hj h
  · rw [clashB_comm]; exact key hj hi h
theorem file_whole (c : CV) (hc : c.ok = true) (f : FV) (h : f.bytes.size ≤ 1024) : wholeB (fileE c f) = true := by
  obtain ⟨h1, h2⟩ := split_keys c hc f.bytes.size f.bytes (Nat.le_refl _)
  have h3 := join_tot (c.split f.bytes.size f.bytes)
  rw [h2] at h3
  unfold wholeB fileE
  simp only [h1, Bool.true_and, Bool.and_eq_true, decide_eq_true_eq]
  omega
theorem badFrom_of {l : List EV} (h : ∀ j (hj : j < l.length), entryC l j l[j] = none) : ∀ f i, badFrom l f i = none
  | 0, i => rfl
  | f + 1, i => by
    rw [badFrom]
    by_cases hi : i < l.length
    · rw [List.getElem?_eq_getElem hi]
      simp only [h i hi]
      exact badFrom_of h f (i + 1)
    · rw [List.getElem?_eq_none (by omega)]
theorem built_tree (l : List FV) (c : CV) (hc : c.ok = true) (hb : badFile l l.length 0 = none) : badFrom (srtE (l.map (fileE c))) (srtE (l.map (fileE c))).length 0 = none := by
  obtain ⟨k1, k2⟩ := srtE_facts (l.map (fileE c))
  have hone := one_path c hb
  generalize srtE (l.map (fileE c)) = T at *
  have hmem : ∀ i (hi : i < T.length), ∃ a, ∃ ha : a < l.length, T[i] = fileE c l[a] := fun i hi => by
    obtain ⟨f, hf, e⟩ := List.mem_map.1 (k1.mem_iff.1 (List.getElem_mem hi))
    obtain ⟨a, ha, rfl⟩ := List.getElem_of_mem hf
    exact ⟨a, ha, e.symm⟩
  have hnd : T.Nodup := by
    rw [k1.nodup_iff, List.nodup_iff_pairwise_ne, List.pairwise_iff_getElem]
    intro i j hi hj hij he
    simp only [List.length_map] at hi hj
    simp only [List.getElem_map] at he
    exact apart_paths hb hi hj hij (congrArg EV.path he)
  have hne : ∀ i j (hi : i < T.length) (hj : j < T.length), i < j → T[i].path ≠ T[j].path := fun i j hi hj hij he => by
    have := hone _ (k1.mem_iff.1 (List.getElem_mem hi)) _ (k1.mem_iff.1 (List.getElem_mem hj)) he
    exact List.pairwise_iff_getElem.1 (List.nodup_iff_pairwise_ne.1 hnd) i j hi hj hij this
  refine badFrom_of (fun j hj => ?_) _ _
  obtain ⟨b, hbl, e⟩ := hmem j hj
  have hg := fileC_good (badFile_none l l.length 0 hb b (Nat.zero_le _) (by omega) hbl)
  rw [entryC_eq]
  have hpt : pathOk T[j].path = true := by rw [e]; exact hg.1
  have hwt : wholeB T[j] = true := by rw [e]; exact file_whole c hc _ hg.2.1
  rw [if_pos hpt, hwt]
  have hah : aheadB T j T[j].path = false := by
    unfold aheadB
    by_cases h0 : 0 < j
    · rw [List.getElem?_eq_getElem (by omega)]
      have h1 := List.pairwise_iff_getElem.1 k2 (j - 1) j (by omega) hj (by omega)
      have h2 := hne (j - 1) j (by omega) hj (by omega)
      cases hs : strLt T[j - 1].path T[j].path with
      | true => simp [hs]
      | false =>
        exfalso
        have h3 : ltC cmE T[j - 1] T[j] = false := by
          rw [cmE_lt]
          have e1 : strLt T[j - 1].path T[j].path = decide (T[j - 1].path.data.toList < T[j].path.data.toList) := by rw [← Go.Proofs.bytesLess_eq]; rfl
          rw [e1] at hs
          exact hs
        exact h2 (path_eq h3 h1)
    · simp [h0]
  have hun : (T.take j).any (fun x => under x.path T[j].path) = false := by
    rw [List.any_eq_false]
    intro x hx
    obtain ⟨q, hq, rfl⟩ := List.mem_take_iff_getElem.1 hx
    have hqj : q < j := by omega
    obtain ⟨a, hal, e2⟩ := hmem q (by omega)
    have hab : a ≠ b := by
      rintro rfl
      exact hne q j (by omega) hj hqj (by rw [e2, e])
    have := apart_clash hb hal hbl hab
    unfold clashB at this
    simp only [Bool.or_eq_false_iff] at this
    rw [e2, e]
    simpa [fileE] using this.1.2
  rw [hah, hun]
  simp
theorem back_file (c : CV) (hc : c.ok = true) (f : FV) : backF (fileE c f) = f := by
  unfold backF fileE
  simp only
  rw [(split_keys c hc f.bytes.size f.bytes (Nat.le_refl _)).2]
end Go.Proofs.YtmekcbbieacioaaGreatDoorFn
