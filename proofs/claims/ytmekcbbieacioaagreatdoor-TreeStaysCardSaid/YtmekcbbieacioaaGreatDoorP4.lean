/- The law TreeStays: for every input it says true: what is handed in stays as it is; what was told stays, whatever becomes of it. No condition. -/
import Derived.Test.YtmekcbbieacioaaGreatDoorP3
import Derived.Test.YtmekcbbieacioaaGreatDoorAlZo
import Derived.Test.YtmekcbbieacioaaGreatDoorChecked
import Derived.Shelf.Strings.OnBuilder
import Derived.Test.YtmekcbbieacioaaGreatDoorAlZt
import Derived.Test.YtmekcbbieacioaaGreatDoorAlZp
import Derived.Test.YtmekcbbieacioaaGreatDoorAlZu
import Derived.Test.YtmekcbbieacioaaGreatDoorAlZn
import Derived.KernelRfl
import Derived.Test.YtmekcbbieacioaaGreatDoorAlZv
import Derived.Test.YtmekcbbieacioaaGreatDoorRows
import Derived.Test.YtmekcbbieacioaaGreatDoorTie
import Derived.Test.YtmekcbbieacioaaGreatDoorCards
import Derived.Lay
import Derived.LaidMore
import Derived.LaidHandle
import Derived.LaidOnce
import Derived.FnData
import Derived.Test.YtmekcbbieacioaaGreatDoorAlZr
set_option linter.all false
namespace Go.Proofs.YtmekcbbieacioaaGreatDoorFn
open Go.Proofs.YtmekcbbieacioaaGreatDoorAl Go.Proofs.Tryz
attribute [local irreducible] IntKind.wrap CodeOk OpsL OpG ACalls thn inBlk rndR cutR WkR Wk fnR DW ExtOk partsOf
theorem b43 : HasBody prog 43 := ⟨f43, func43, Option.some_ne_none _, by decide⟩
theorem rowS_one {b : List ByteArray} : ∀ row ∈ b.map rowS, ∀ y ∈ row, SV.one y = true := by
  intro row hr y hy
  obtain ⟨_, _, rfl⟩ := List.mem_map.1 hr
  simp only [rowS, List.mem_singleton] at hy; subst hy; rfl
theorem rowE_one {b : List EV} : ∀ row ∈ b.map rowE, ∀ y ∈ row, SV.one y = true := by
  intro row hr y hy
  obtain ⟨_, _, rfl⟩ := List.mem_map.1 hr
  simp only [rowE, List.mem_cons, List.not_mem_nil, or_false] at hy
  rcases hy with rfl | rfl | rfl <;> rfl
theorem cloneS_ok (b : List ByteArray) (hb : b.length ≤ 4000000000) : ACalls prog 43 0 [.st (.sl 1 (b.map rowS))] [] fun r h => r = .st (.sl 1 (b.map rowS)) ∧ h = [] := by
  refine fnC lay_ok func43 rfl rfl rfl rfl rfl ?_
  have hm : (List.map rowS b).length = b.length := List.length_map _
  repeat' first | refine wr (by omega) ?_ | refine ln ?_ | refine stp lay_ok rfl ?_ | refine fin ?_ | refine n_thn ?_ | refine n_blk ?_ | refine e_thn ?_ | refine e_hit ?_ | refine e_miss rfl ?_ | refine r_thn ?_ | refine r_blk ?_ | refine e_rr ?_ | refine r_rr ?_ | refine e_cr ?_ | refine r_cr ?_ | refine .seq ?_ | refine reg ?_ | refine .block ?_ | refine .skip ?_ | refine .ret ?_ | refine .exit ?_ | refine cndT rfl ?_ | refine cndF rfl ?_ | refine c_dec rfl (fun hc => ?_) (fun hc => ?_) | refine c_ndec rfl (fun hc => ?_) (fun hc => ?_) | refine cnd rfl (fun hc => ?_) (fun hc => ?_) | ((first | refine o_none rfl ?_ | refine o_none_ ?_ | refine o_yes rfl rfl rfl ?_ | refine o_yes_ rfl rfl ?_); first | refine st_nilSl lay_ok rfl rfl rfl rfl (fun z hz => ?_) | refine st_append lay_ok rfl rfl rfl rfl rfl rfl rfl rfl .sl0 .sl rfl rowS_one (by simp only [List.length_nil]; omega) (by simp only [List.length_nil]; omega) ?_) | refine gd rfl rfl rfl (fun hg => ?_) (fun hg => ?_) | refine gn rfl rfl rfl (fun hg => ?_) (fun hg => ?_)
  · cases z with
    | false => cases hc
    | true =>
      rw [hz rfl]
      refine f_end (n0 := 0) (t'' := [(2, .st (.sl 1 []))]) (h'' := []) (Wk.then (Wk.trans (Wk.nilT 1 2 rfl rfl) (Wk.frz 0 [2] rfl rfl rfl (by (repeat' first | exact trivial | refine And.intro ?_ ?_ | rfl); first | done | fail) (by (repeat' first | exact trivial | refine And.intro ?_ ?_ | rfl); first | done | fail) rfl rfl)) (WkR.of [] (by (repeat' first | exact trivial | refine And.intro ?_ ?_ | rfl); first | done | fail) (by (repeat' first | exact trivial | refine And.intro ?_ ?_ | rfl); first | done | fail) rfl)) rfl rfl ⟨?_, rfl⟩
      rfl
  · refine f_end (n0 := 0) (t'' := [(2, .st (.sl 1 (b.map rowS)))]) (h'' := []) (Wk.then (Wk.frz 0 [2] rfl rfl rfl (by (repeat' first | exact trivial | refine And.intro ?_ ?_ | rfl); first | done | fail) (by (repeat' first | exact trivial | refine And.intro ?_ ?_ | rfl); first | done | fail) rfl rfl) (WkR.of [] (by (repeat' first | exact trivial | refine And.intro ?_ ?_ | rfl); first | done | fail) (by (repeat' first | exact trivial | refine And.intro ?_ ?_ | rfl); first | done | fail) rfl)) rfl rfl ⟨?_, rfl⟩
    rfl
theorem set_same {α : Type} {l : List α} {i : Nat} {x : α} (h : l[i]? = some x) : l.set i x = l := by
  apply List.ext_getElem?
  intro j
  rw [List.getElem?_set]
  split
  · rename_i e; subst e; rw [h]; split
    · rfl
    · rename_i h2; rw [List.getElem?_eq_none (by omega)] at h; cases h
  · rfl
end Go.Proofs.YtmekcbbieacioaaGreatDoorFn
namespace Go.Proofs.YtmekcbbieacioaaGreatDoorFn
open Go.Proofs.YtmekcbbieacioaaGreatDoorAl Go.Proofs.Tryz
/-! ### sorted while built -/
def insE (d : Array EV) (e : EV) : Array EV := Sort.insInner (ltC cmE) 0 d.size (d.push e)
theorem ins_facts (d : Array EV) (e : EV) (hs : Sort.SortedIn (ltC cmE) 0 d.size d) : (insE d e).size = d.size + 1 ∧ (insE d e).toList.Perm (d.toList ++ [e]) ∧ Sort.SortedIn (ltC cmE) 0 (d.size + 1) (insE d e) := by
  have hg : ∀ q, q < d.size → (d.push e)[q]! = d[q]! := fun q hq => by
    rw [getElem!_pos (d.push e) q (by simp; omega), getElem!_pos d q hq, Array.getElem_push_lt]
  have h := Sort.insInner_spec cmE_swo Sort.swp_permIn Sort.permIn_refl Sort.permIn_trans 0 (d.size + 1) d.size (by omega) d.size (d.push e) (Nat.zero_le _) (Nat.le_refl _) (by simp)
    ⟨fun p q _ hpq hq hp hq2 => by rw [hg p (by omega), hg q (by omega)]; exact hs p q (Nat.zero_le _) hpq (by omega), fun q h1 h2 => by omega⟩
  obtain ⟨⟨h1, _, h2⟩, h3⟩ := h
  have hz : (insE d e).size = d.size + 1 := by unfold insE; rw [h1]; simp
  refine ⟨hz, ?_, h3⟩
  have ht : (insE d e).toList.take (d.size + 1) = (insE d e).toList := List.take_of_length_le (by simp [hz])
  have ht2 : (d.toList ++ [e]).take (d.size + 1) = d.toList ++ [e] := List.take_of_length_le (by simp)
  have h2' : ((insE d e).extract 0 (d.size + 1)).toList.Perm ((d.push e).extract 0 (d.size + 1)).toList := h2
  simpa [ht, ht2] using h2'
theorem path_eq {x y : EV} (h1 : ltC cmE x y = false) (h2 : ltC cmE y x = false) : x.path = y.path := by
  rw [cmE_lt] at h1 h2
  simp only [Sort.ltStr, decide_eq_false_iff_not, List.not_lt] at h1 h2
  exact WideShapes.bytes_inj (List.le_antisymm h2 h1)
theorem sorted_eq : ∀ (a b : List EV), a.Perm b → (a.Pairwise fun x y => ltC cmE y x = false) → (b.Pairwise fun x y => ltC cmE y x = false) → (∀ x ∈ a, ∀ y ∈ a, x.path = y.path → x = y) → a = b
  | [], b, hp, _, _, _ => (List.Perm.nil_eq hp)
  | x :: t, [], hp, _, _, _ => by have := hp.length_eq; simp at this
  | x :: t, y :: u, hp, ha, hb, hd => by
    have hxy : x = y := by
      have hx : x ∈ y :: u := hp.mem_iff.1 List.mem_cons_self
      have hy : y ∈ x :: t := hp.mem_iff.2 List.mem_cons_self
      rcases List.mem_cons.1 hx with h | h
      · exact h
      rcases List.mem_cons.1 hy with h' | h'
      · exact h'.symm
      exact hd x List.mem_cons_self y hy (path_eq ((List.pairwise_cons.1 hb).1 x h) ((List.pairwise_cons.1 ha).1 y h'))
    subst hxy
    rw [sorted_eq t u hp.cons_inv (List.pairwise_cons.1 ha).2 (List.pairwise_cons.1 hb).2 fun p hp' q hq => hd p (List.mem_cons_of_mem _ hp') q (List.mem_cons_of_mem _ hq)]
end Go.Proofs.YtmekcbbieacioaaGreatDoorFn
namespace Go.Proofs.YtmekcbbieacioaaGreatDoorFn
open Go.Proofs.YtmekcbbieacioaaGreatDoorAl Go.Proofs.Tryz
/-! ### both ways of building make the same tree -/
def IsErr (E : AV) : Prop := (∃ n, E = errE n) ∨ ∃ i n, E = spotE i n
theorem clashB_self (a : ByteArray) : clashB a a = true := by simp [clashB]
theorem badFile_none (l : List FV) : ∀ f i, badFile l f i = none → ∀ j, i ≤ j → j < i + f → ∀ h : j < l.length, fileC l j l[j] = none
  | 0, i, _, j, h1, h2, _ => by omega
  | f + 1, i, hb, j, h1, h2, h => by
    have hi : i < l.length := by omega
    simp only [badFile, List.getElem?_eq_getElem hi] at hb
    cases hx : fileC l i l[i] with
    | some n => rw [hx] at hb; cases hb
    | none =>
      rw [hx] at hb
      by_cases hij : i = j
      · subst hij; exact hx
      · exact badFile_none l f (i + 1) hb j (by omega) (by omega) h
theorem apart_paths {l : List FV} (hb : badFile l l.length 0 = none) {i j : Nat} (hi : i < l.length) (hj : j < l.length) (hij : i < j) : l[i].path ≠ l[j].path := by
  intro he
  have h := badFile_none l l.length 0 hb j (Nat.zero_le _) (by omega) hj
  unfold fileC at h
  have hany : (l.take j).any (fun x => clashB x.path l[j].path) = true := by
    rw [List.any_eq_true]
    exact ⟨l[i], List.mem_take_iff_getElem.2 ⟨i, by omega, rfl⟩, by rw [he]; exact clashB_self _⟩
  rw [hany] at h
  split at h
  · split at h
    · cases h
    · cases h
  · cases h
theorem one_path (c : CV) {l : List FV} (hb : badFile l l.length 0 = none) : ∀ x ∈ l.map (fileE c), ∀ y ∈ l.map (fileE c), x.path = y.path → x = y := by
  intro x hx y hy he
  obtain ⟨a, ha, rfl⟩ := List.mem_map.1 hx
  obtain ⟨b, hb', rfl⟩ := List.mem_map.1 hy
  obtain ⟨i, hi, rfl⟩ := List.getElem_of_mem ha
  obtain ⟨j, hj, rfl⟩ := List.getElem_of_mem hb'
  rcases Nat.lt_trichotomy i j with h | h | h
  · exact absurd he (apart_paths hb hi hj h)
  · subst h; rfl
  · exact absurd he.symm (apart_paths hb hj hi h)
theorem fold_facts : ∀ (l : List EV) (d : Array EV), Sort.SortedIn (ltC cmE) 0 d.size d → (l.foldl insE d).toList.Perm (d.toList ++ l) ∧ Sort.SortedIn (ltC cmE) 0 (l.foldl insE d).size (l.foldl insE d)
  | [], d, h => ⟨by simp, h⟩
  | e :: r, d, h => by
    obtain ⟨h1, h2, h3⟩ := ins_facts d e h
    obtain ⟨k1, k2⟩ := fold_facts r (insE d e) (by rw [h1]; exact h3)
    refine ⟨?_, k2⟩
    have := k1.trans (h2.append_right r)
    simpa using this
theorem sortedIn_pairwise {d : Array EV} (h : Sort.SortedIn (ltC cmE) 0 d.size d) : d.toList.Pairwise fun x y => ltC cmE y x = false := by
  rw [List.pairwise_iff_getElem]
  intro i j hi hj hij
  have := h i j (Nat.zero_le _) hij (by simpa using hj)
  rw [getElem!_pos d i (by simpa using hi), getElem!_pos d j (by simpa using hj)] at this
  simpa using this
theorem build_same (l : List FV) (c : CV) (hb : badFile l l.length 0 = none) : ((l.map (fileE c)).foldl insE #[]).toList = srtE (l.map (fileE c)) := by
  obtain ⟨h1, h2⟩ := fold_facts (l.map (fileE c)) #[] (fun i j _ _ h => by simp at h)
  obtain ⟨k1, k2⟩ := srtE_facts (l.map (fileE c))
  have h1' : ((l.map (fileE c)).foldl insE #[]).toList.Perm (l.map (fileE c)) := by simpa using h1
  exact sorted_eq _ _ (h1'.trans k1.symm) (sortedIn_pairwise h2) k2 fun x hx y hy => one_path c hb x (h1'.mem_iff.1 hx) y (h1'.mem_iff.1 hy)
theorem CV.split_len (c : CV) : ∀ (n : Nat) (s : ByteArray), (c.split n s).length ≤ n
  | 0, _ => Nat.le_refl _
  | n + 1, s => by
    unfold CV.split
    split
    · simp
    · have := CV.split_len c n (s.extract (c.len s) s.size)
      simp; omega
theorem few_bounds {l : List FV} (h : l.all fewB = true) : ∀ e ∈ l, e.path.size ≤ 2000 ∧ e.bytes.size ≤ 3000 := fun e he => by
  have := List.all_eq_true.1 h e he
  simpa [fewB] using this
theorem srt_bounds (l : List FV) (c : CV) (h : ∀ e ∈ l, e.bytes.size ≤ 4000000000) : (srtE (l.map (fileE c))).length = l.length ∧ ∀ e ∈ srtE (l.map (fileE c)), e.keys.length ≤ 4000000000 := by
  have hp := (srtE_facts (l.map (fileE c))).1
  refine ⟨by rw [hp.length_eq, List.length_map], fun e he => ?_⟩
  obtain ⟨f, hf, rfl⟩ := List.mem_map.1 (hp.mem_iff.1 he)
  exact Nat.le_trans (c.split_len _ _) (h f hf)
theorem rowF_one {b : List FV} : ∀ row ∈ b.map rowF, ∀ y ∈ row, SV.one y = true := by
  intro row hr y hy
  obtain ⟨_, _, rfl⟩ := List.mem_map.1 hr
  simp only [rowF, List.mem_cons, List.not_mem_nil, or_false] at hy
  rcases hy with rfl | rfl <;> rfl
end Go.Proofs.YtmekcbbieacioaaGreatDoorFn
namespace Go.Proofs.YtmekcbbieacioaaGreatDoorFn
open Go.Proofs.YtmekcbbieacioaaGreatDoorAl Go.Proofs.Tryz
attribute [local irreducible] IntKind.wrap CodeOk OpsL OpG ACalls thn inBlk rndR cutR WkR Wk fnR DW ExtOk partsOf
theorem b41 : HasBody prog 41 := ⟨f41, func41, Option.some_ne_none _, by decide⟩
theorem b42 : HasBody prog 42 := ⟨f42, func42, Option.some_ne_none _, by decide⟩
theorem b18 : HasBody prog 18 := ⟨f18, func18, Option.some_ne_none _, by decide⟩
theorem b19 : HasBody prog 19 := ⟨f19, func19, Option.some_ne_none _, by decide⟩
/-! ### a path's entry, and the paths under one -/
theorem find1_ok (x : EV) (t : ByteArray) : ACalls prog 42 0 [.st (.agg (rowE x)), Sx t] [] fun r h => r = I (cmS x.path t) ∧ h = [] := by
  have h1 := compare_ok x.path t
  refine fnC lay_ok func42 rfl rfl rfl rfl rfl ?_
  repeat' first | refine wr (by omega) ?_ | refine ln ?_ | refine stp lay_ok rfl ?_ | refine fin ?_ | refine n_thn ?_ | refine n_blk ?_ | refine e_thn ?_ | refine e_hit ?_ | refine e_miss rfl ?_ | refine r_thn ?_ | refine r_blk ?_ | refine e_rr ?_ | refine r_rr ?_ | refine e_cr ?_ | refine r_cr ?_ | refine .seq ?_ | refine reg ?_ | refine .block ?_ | refine .skip ?_ | refine .ret ?_ | refine .exit ?_ | refine cndT rfl ?_ | refine cndF rfl ?_ | refine c_dec rfl (fun hc => ?_) (fun hc => ?_) | refine c_ndec rfl (fun hc => ?_) (fun hc => ?_) | refine cnd rfl (fun hc => ?_) (fun hc => ?_) | ((first | refine o_none rfl ?_ | refine o_none_ ?_ | refine o_yes rfl rfl rfl ?_ | refine o_yes_ rfl rfl ?_); first | refine st_pure (h1) b34 rfl rfl rfl rfl ?_) | refine gd rfl rfl rfl (fun hg => ?_) (fun hg => ?_) | refine gn rfl rfl rfl (fun hg => ?_) (fun hg => ?_)
  refine f_r [] rfl trivial rfl ⟨?_, rfl⟩
  rfl
/-- The first entry that is not less than a path; whether it is the path's. -/
def loE (l : List EV) (t : ByteArray) : Nat := l.findIdx fun e => decide (¬ cmS e.path t < 0)
def hitE (l : List EV) (t : ByteArray) : Bool := match l[loE l t]? with
  | some e => decide (cmS e.path t = 0)
  | none => false
theorem loE_eq {l : List EV} {t : ByteArray} {i : Nat} (hi : i ≤ l.length) (h1 : ∀ q (h : q < l.length), q < i → cmS l[q].path t < 0) (h2 : ∀ q (h : q < l.length), i ≤ q → ¬ cmS l[q].path t < 0) : loE l t = i := by
  unfold loE
  by_cases hil : i < l.length
  · refine (List.findIdx_eq hil).2 ⟨by simpa using h2 i hil (Nat.le_refl _), fun j hj => ?_⟩
    have := h1 j (by omega) hj
    simpa using this
  · have hie : i = l.length := by omega
    subst hie
    refine List.findIdx_eq_length.2 fun x hx => ?_
    obtain ⟨q, hq, rfl⟩ := List.getElem_of_mem hx
    simpa using h1 q hq hq
theorem shr1 (n : Nat) : shI .shr .u64 (n : Int) 1 = some (.int .u64 ((n / 2 : Nat) : Int)) := by
  simp only [shI]
  have : Int.fdiv (n : Int) (2 ^ min (Int.toNat 1) IntKind.u64.bits) = ((n / 2 : Nat) : Int) := by
    have e : (2 ^ min (Int.toNat 1) IntKind.u64.bits : Int) = 2 := by decide
    rw [e, Int.fdiv_eq_ediv_of_nonneg _ (by decide)]
    rfl
  rw [this]
set_option maxHeartbeats 4000000 in
theorem bs_ok (l : List EV) (t : ByteArray) (hl : l.length ≤ 4000000000) (hs : ∀ i j (hi : i < j) (hj : j < l.length), cmS l[j].path t < 0 → cmS (l[i]'(by omega)).path t < 0) :
    ACalls prog 41 0 [.st (.sl 3 (l.map rowE)), Sx t, fnG 42] [] fun r h => r = .tuple [I (loE l t), B (hitE l t)] ∧ h = [] := by
  have hm : (List.map rowE l).length = l.length := List.length_map _
  refine fnC lay_ok func41 rfl rfl rfl rfl rfl ?_
  repeat' first | refine wr (by omega) ?_ | refine ln ?_ | refine stp lay_ok rfl ?_ | refine fin ?_ | refine n_thn ?_ | refine n_blk ?_ | refine e_thn ?_ | refine e_hit ?_ | refine e_miss rfl ?_ | refine r_thn ?_ | refine r_blk ?_ | refine e_rr ?_ | refine r_rr ?_ | refine e_cr ?_ | refine r_cr ?_ | refine .seq ?_ | refine reg ?_ | refine .block ?_ | refine .skip ?_ | refine .ret ?_ | refine .exit ?_ | refine cndT rfl ?_ | refine cndF rfl ?_ | refine c_dec rfl (fun hc => ?_) (fun hc => ?_) | refine c_ndec rfl (fun hc => ?_) (fun hc => ?_) | refine cnd rfl (fun hc => ?_) (fun hc => ?_) | refine gd rfl rfl rfl (fun hg => ?_) (fun hg => ?_) | refine gn rfl rfl rfl (fun hg => ?_) (fun hg => ?_)
  refine lpR (fun (i, j) => i ≤ j ∧ j ≤ l.length ∧ (∀ q (h : q < l.length), q < i → cmS l[q].path t < 0) ∧ (∀ q (h : q < l.length), j ≤ q → ¬ cmS l[q].path t < 0)) (fun (i, j) => j - i) (fun (i, j) => [(9, I i), (10, I j)]) (fun (i, j) => []) ((0, l.length)) [0, 1, 2, 8] [] [] rfl rfl rfl (.of [] (by (repeat' first | exact trivial | refine And.intro ?_ ?_ | rfl); first | done | fail) (by (repeat' first | exact trivial | refine And.intro ?_ ?_ | rfl); first | done | fail) rfl) ?_ ?_
  · exact ⟨Nat.zero_le _, Nat.le_refl _, fun q h1 h2 => by omega, fun q h1 h2 => by omega⟩
  rintro ⟨i, j⟩ ⟨g1, g2, g3, g4⟩
  refine nrm rfl rfl ?_
  by_cases hij : i < j
  case neg =>
    have hie : i = j := by omega
    subst hie
    have hlo := loE_eq g2 g3 g4
    have hhit : hitE l t = match l[i]? with
      | some e => decide (cmS e.path t = 0)
      | none => false := by rw [hitE, hlo]
    rw [hlo]
    by_cases hil : i < l.length
    · rw [List.getElem?_eq_getElem hil] at hhit
      have hat := at_rowE hil
      have hf := find1_ok l[i] t
      simp only at hhit
      generalize hitE l t = hb at *
      generalize l[i] = e at *
      repeat' first | refine wr (by omega) ?_ | refine ln ?_ | refine stp lay_ok rfl ?_ | refine fin ?_ | refine n_thn ?_ | refine n_blk ?_ | refine e_thn ?_ | refine e_hit ?_ | refine e_miss rfl ?_ | refine r_thn ?_ | refine r_blk ?_ | refine e_rr ?_ | refine r_rr ?_ | refine e_cr ?_ | refine r_cr ?_ | refine .seq ?_ | refine reg ?_ | refine .block ?_ | refine .skip ?_ | refine .ret ?_ | refine .exit ?_ | refine cndT rfl ?_ | refine cndF rfl ?_ | refine c_dec rfl (fun hc => ?_) (fun hc => ?_) | refine c_ndec rfl (fun hc => ?_) (fun hc => ?_) | refine cnd rfl (fun hc => ?_) (fun hc => ?_) | ((first | refine o_none rfl ?_ | refine o_none_ ?_ | refine o_yes rfl rfl rfl ?_ | refine o_yes_ rfl rfl ?_); first | refine st_index (rowE e) lay_ok rfl rfl rfl rfl (by omega) hat ?_ | refine st_pure (hf) b42 rfl rfl rfl rfl ?_) | refine gd rfl rfl rfl (fun hg => ?_) (fun hg => ?_) | refine gn rfl rfl rfl (fun hg => ?_) (fun hg => ?_)
      all_goals first
        | (exfalso; omega)
        | skip
      refine f_r [] rfl trivial rfl ⟨?_, rfl⟩
      rw [hhit]; rfl
    · rw [List.getElem?_eq_none (by omega)] at hhit
      simp only at hhit
      rw [hhit]
      repeat' first | refine wr (by omega) ?_ | refine ln ?_ | refine stp lay_ok rfl ?_ | refine fin ?_ | refine n_thn ?_ | refine n_blk ?_ | refine e_thn ?_ | refine e_hit ?_ | refine e_miss rfl ?_ | refine r_thn ?_ | refine r_blk ?_ | refine e_rr ?_ | refine r_rr ?_ | refine e_cr ?_ | refine r_cr ?_ | refine .seq ?_ | refine reg ?_ | refine .block ?_ | refine .skip ?_ | refine .ret ?_ | refine .exit ?_ | refine cndT rfl ?_ | refine cndF rfl ?_ | refine c_dec rfl (fun hc => ?_) (fun hc => ?_) | refine c_ndec rfl (fun hc => ?_) (fun hc => ?_) | refine cnd rfl (fun hc => ?_) (fun hc => ?_) | refine gd rfl rfl rfl (fun hg => ?_) (fun hg => ?_) | refine gn rfl rfl rfl (fun hg => ?_) (fun hg => ?_)
      all_goals first
        | (exfalso; omega)
        | skip
      refine f_r [] rfl trivial rfl ⟨?_, rfl⟩
      rfl
  generalize hmid : (i + j) / 2 = q at *
  have hil : q < l.length := by omega
  have hat := at_rowE hil
  have hf := find1_ok l[q] t
  have hsh : shI .shr .u64 (IntKind.u64.wrap ((i : Int) + (j : Int))) 1 = some (.int .u64 (q : Int)) := by
    rw [show (i : Int) + (j : Int) = ((i + j : Nat) : Int) by omega, uwrap _ (by omega), shr1, hmid]
  have hlow : cmS l[q].path t < 0 → ∀ r (h : r < l.length), r < q + 1 → cmS l[r].path t < 0 := fun h r hr hrq => by
    by_cases hrq' : r = q
    · subst hrq'; exact h
    · exact hs r q (by omega) hil h
  have hhi : ¬ cmS l[q].path t < 0 → ∀ r (h : r < l.length), q ≤ r → ¬ cmS l[r].path t < 0 := fun h r hr hrq hlt => by
    by_cases hrq' : r = q
    · subst hrq'; exact h hlt
    · exact h (hs q r (by omega) hr hlt)
  generalize l[q] = e at *
  repeat' first | refine wr (by omega) ?_ | refine ln ?_ | refine stp lay_ok rfl ?_ | refine fin ?_ | refine n_thn ?_ | refine n_blk ?_ | refine e_thn ?_ | refine e_hit ?_ | refine e_miss rfl ?_ | refine r_thn ?_ | refine r_blk ?_ | refine e_rr ?_ | refine r_rr ?_ | refine e_cr ?_ | refine r_cr ?_ | refine .seq ?_ | refine reg ?_ | refine .block ?_ | refine .skip ?_ | refine .ret ?_ | refine .exit ?_ | refine cndT rfl ?_ | refine cndF rfl ?_ | refine c_dec rfl (fun hc => ?_) (fun hc => ?_) | refine c_ndec rfl (fun hc => ?_) (fun hc => ?_) | refine cnd rfl (fun hc => ?_) (fun hc => ?_) | ((first | refine o_none rfl ?_ | refine o_none_ ?_ | refine o_yes rfl rfl rfl ?_ | refine o_yes_ rfl rfl ?_); first | refine st_shift rfl rfl (by decide) hsh ?_ | refine st_index (rowE e) lay_ok rfl rfl rfl rfl (by omega) hat ?_ | refine st_pure (hf) b42 rfl rfl rfl rfl ?_) | refine gd rfl rfl rfl (fun hg => ?_) (fun hg => ?_) | refine gn rfl rfl rfl (fun hg => ?_) (fun hg => ?_)
  all_goals first
    | (exfalso; omega)
    | skip
  · refine n_rr ((q + 1, j)) ?_ (.of [] (by (repeat' first | exact trivial | refine And.intro ?_ ?_ | rfl | exact congrArg (fun z : Int => some (AV.st (.int .i64 z))) (show (q : Int) + 1 = ((q + 1 : Nat) : Int) by omega)); first | done | fail) (by (repeat' first | exact trivial | refine And.intro ?_ ?_ | rfl | exact congrArg (fun z : Int => some (AV.st (.int .i64 z))) (show (q : Int) + 1 = ((q + 1 : Nat) : Int) by omega)); first | done | fail) rfl) ?_
    · show j - (q + 1) < j - i; omega
    · exact ⟨by omega, g2, hlow (by assumption), g4⟩
  · refine n_rr ((i, q)) ?_ (.of [] (by (repeat' first | exact trivial | refine And.intro ?_ ?_ | rfl); first | done | fail) (by (repeat' first | exact trivial | refine And.intro ?_ ?_ | rfl); first | done | fail) rfl) ?_
    · show q - i < j - i; omega
    · exact ⟨by omega, by omega, g3, hhi (by assumption)⟩
abbrev zE : List SV := [.str ⟨#[]⟩, .int .i64 0, .nilsl]
/-- A path's entry, or what is amiss. -/
def findR (l : List EV) (t : ByteArray) : AV := if 32 < l.length then .tuple [.st (.agg zE), errE 7] else match badFrom l l.length 0 with
  | some (i, n) => .tuple [.st (.agg zE), spotE i n]
  | none => match l[loE l t]? with
    | some e => if e.path = t then .tuple [.st (.agg (rowE e)), nilE] else .tuple [.st (.agg zE), errE 3]
    | none => .tuple [.st (.agg zE), errE 3]
end Go.Proofs.YtmekcbbieacioaaGreatDoorFn
namespace Go.Proofs.YtmekcbbieacioaaGreatDoorFn
open Go.Proofs.YtmekcbbieacioaaGreatDoorAl Go.Proofs.Tryz
attribute [local irreducible] IntKind.wrap CodeOk OpsL OpG ACalls thn inBlk rndR cutR WkR Wk fnR DW ExtOk partsOf
/-! ### Find and Below -/
theorem badFrom_none (l : List EV) : ∀ f i, badFrom l f i = none → ∀ j, i ≤ j → j < i + f → ∀ h : j < l.length, entryC l j l[j] = none
  | 0, i, _, j, h1, h2, _ => by omega
  | f + 1, i, hb, j, h1, h2, h => by
    have hi : i < l.length := by omega
    simp only [badFrom, List.getElem?_eq_getElem hi] at hb
    cases hx : entryC l i l[i] with
    | some n => rw [hx] at hb; cases hb
    | none =>
      rw [hx] at hb
      by_cases hij : i = j
      · subst hij; exact hx
      · exact badFrom_none l f (i + 1) hb j (by omega) (by omega) h
theorem cmS_lt (a b : ByteArray) : cmS a b < 0 ↔ strLt a b = true := by
  unfold cmS
  cases h : strLt a b with
  | true => simp
  | false =>
    simp only [Bool.false_eq_true, if_false]
    split <;> simp
theorem cmS_zero (a b : ByteArray) : cmS a b = 0 ↔ a = b := by
  have e : ∀ x y : ByteArray, strLt x y = decide (x.data.toList < y.data.toList) := fun x y => by rw [← Go.Proofs.bytesLess_eq]; rfl
  unfold cmS
  rw [e]
  constructor
  · intro h
    by_cases h1 : a.data.toList < b.data.toList
    · simp [h1] at h
    · simpa [h1] using h
  · rintro rfl
    have : ¬ a.data.toList < a.data.toList := List.lt_irrefl _
    simp [this]
/-- In a tree each path is greater than the one ahead of it. -/
theorem tree_step {l : List EV} (hb : badFrom l l.length 0 = none) (i : Nat) (hi : i + 1 < l.length) : strLt l[i].path l[i + 1].path = true := by
  have h := badFrom_none l l.length 0 hb (i + 1) (Nat.zero_le _) (by omega) hi
  unfold entryC at h
  have e2 : l[i + 1 - 1]? = some l[i] := by simp
  rw [e2] at h
  cases hs : strLt l[i].path l[i + 1].path with
  | true => rfl
  | false =>
    simp [hs] at h
    split at h <;> cases h
theorem strLt_iff (x y : ByteArray) : strLt x y = true ↔ x.data.toList < y.data.toList := by
  have e : strLt x y = decide (x.data.toList < y.data.toList) := by rw [← Go.Proofs.bytesLess_eq]; rfl
  rw [e]; simp
theorem tree_sorted {l : List EV} (hb : badFrom l l.length 0 = none) : ∀ i j (hi : i < j) (hj : j < l.length), strLt (l[i]'(by omega)).path l[j].path = true
  | i, j + 1, hi, hj => by
    have h1 := tree_step hb j hj
    by_cases hij : i = j
    · subst hij; exact h1
    · have h2 := tree_sorted hb i j (by omega) (by omega)
      rw [strLt_iff] at *
      exact List.lt_trans h2 h1
theorem tree_below {l : List EV} (hb : badFrom l l.length 0 = none) (t : ByteArray) : ∀ i j (hi : i < j) (hj : j < l.length), cmS l[j].path t < 0 → cmS (l[i]'(by omega)).path t < 0 := fun i j hi hj h => by
  have h2 := tree_sorted hb i j hi hj
  rw [cmS_lt] at *
  rw [strLt_iff] at *
  exact List.lt_trans h2 h
def zV : EV := ⟨⟨#[]⟩, 0, []⟩
set_option maxHeartbeats 4000000 in
theorem find_ok (l : List EV) (t : ByteArray) (hl : l.length ≤ 4000000000) (hp : ∀ e ∈ l, e.path.size ≤ 4000000000 - 1) (hk : ∀ e ∈ l, e.keys.length ≤ 4000000000) :
    ACalls prog 18 0 [.st (.sl 3 (l.map rowE)), Sx t] [] fun r h => r = findR l t ∧ h = [] := by
  have hc := treeCheck_ok l hl hp hk
  have hm : (List.map rowE l).length = l.length := List.length_map _
  unfold findR
  unfold treeC at hc
  by_cases h32 : 32 < l.length
  · rw [if_pos h32] at hc ⊢
    refine ACalls.drop1 (h1 := [(0, .cells [.st (.str ⟨#[]⟩), .st (.int .i64 0), .st .nilsl])]) trivial ?_
    refine fnC lay_ok func18 rfl rfl rfl rfl rfl ?_
    repeat' first | refine wr (by omega) ?_ | refine ln ?_ | refine stp lay_ok rfl ?_ | refine fin ?_ | refine n_thn ?_ | refine n_blk ?_ | refine e_thn ?_ | refine e_hit ?_ | refine e_miss rfl ?_ | refine r_thn ?_ | refine r_blk ?_ | refine e_rr ?_ | refine r_rr ?_ | refine e_cr ?_ | refine r_cr ?_ | refine .seq ?_ | refine reg ?_ | refine .block ?_ | refine .skip ?_ | refine .ret ?_ | refine .exit ?_ | refine cndT rfl ?_ | refine cndF rfl ?_ | refine c_dec rfl (fun hc => ?_) (fun hc => ?_) | refine c_ndec rfl (fun hc => ?_) (fun hc => ?_) | refine cnd rfl (fun hc => ?_) (fun hc => ?_) | ((first | refine o_none rfl ?_ | refine o_none_ ?_ | refine o_yes rfl rfl rfl ?_ | refine o_yes_ rfl rfl ?_); first | refine st_pure (hc) b17 rfl rfl rfl rfl ?_) | refine gd rfl rfl rfl (fun hg => ?_) (fun hg => ?_) | refine gn rfl rfl rfl (fun hg => ?_) (fun hg => ?_)
    refine f_end (n0 := 1) (t'' := [(4, .ptr 0 0), (5, errE 7)]) (h'' := [(0, .cells [.st (.str ⟨#[]⟩), .st (.int .i64 0), .st .nilsl])]) (WkR.of [0] (by (repeat' first | exact trivial | refine And.intro ?_ ?_ | rfl); first | done | fail) (by (repeat' first | exact trivial | refine And.intro ?_ ?_ | rfl); first | done | fail) rfl) rfl rfl ⟨?_, rfl⟩
    rfl
  rw [if_neg h32] at hc ⊢
  cases hb : badFrom l l.length 0 with
  | some x =>
    obtain ⟨i, n⟩ := x
    rw [hb] at hc
    simp only at hc ⊢
    refine ACalls.drop1 (h1 := [(0, .cells [.st (.str ⟨#[]⟩), .st (.int .i64 0), .st .nilsl])]) trivial ?_
    refine fnC lay_ok func18 rfl rfl rfl rfl rfl ?_
    repeat' first | refine wr (by omega) ?_ | refine ln ?_ | refine stp lay_ok rfl ?_ | refine fin ?_ | refine n_thn ?_ | refine n_blk ?_ | refine e_thn ?_ | refine e_hit ?_ | refine e_miss rfl ?_ | refine r_thn ?_ | refine r_blk ?_ | refine e_rr ?_ | refine r_rr ?_ | refine e_cr ?_ | refine r_cr ?_ | refine .seq ?_ | refine reg ?_ | refine .block ?_ | refine .skip ?_ | refine .ret ?_ | refine .exit ?_ | refine cndT rfl ?_ | refine cndF rfl ?_ | refine c_dec rfl (fun hc => ?_) (fun hc => ?_) | refine c_ndec rfl (fun hc => ?_) (fun hc => ?_) | refine cnd rfl (fun hc => ?_) (fun hc => ?_) | ((first | refine o_none rfl ?_ | refine o_none_ ?_ | refine o_yes rfl rfl rfl ?_ | refine o_yes_ rfl rfl ?_); first | refine st_pure (hc) b17 rfl rfl rfl rfl ?_) | refine gd rfl rfl rfl (fun hg => ?_) (fun hg => ?_) | refine gn rfl rfl rfl (fun hg => ?_) (fun hg => ?_)
    refine f_end (n0 := 1) (t'' := [(4, .ptr 0 0), (5, spotE i n)]) (h'' := [(0, .cells [.st (.str ⟨#[]⟩), .st (.int .i64 0), .st .nilsl])]) (WkR.of [0] (by (repeat' first | exact trivial | refine And.intro ?_ ?_ | rfl); first | done | fail) (by (repeat' first | exact trivial | refine And.intro ?_ ?_ | rfl); first | done | fail) rfl) rfl rfl ⟨?_, rfl⟩
    rfl
  | none =>
    rw [hb] at hc
    simp only at hc ⊢
    have hbs := bs_ok l t hl (tree_below hb t)
    have hhit : hitE l t = match l[loE l t]? with
      | some e => decide (cmS e.path t = 0)
      | none => false := rfl
    have hle : loE l t ≤ l.length := List.findIdx_le_length
    generalize loE l t = k at *
    generalize hitE l t = b at *
    by_cases hkl : k < l.length
    · rw [List.getElem?_eq_getElem hkl] at hhit ⊢
      have hat := at_rowE hkl
      have hcl := cloneS_ok l[k].keys (hk _ (List.getElem_mem hkl))
      generalize l[k] = e at *
      simp only [cmS_zero] at hhit ⊢
      obtain ⟨p, z, ks⟩ := e
      simp only at hhit hcl ⊢
      by_cases hpt : p = t
      · rw [if_pos hpt]
        rw [decide_eq_true hpt] at hhit
        subst hhit
        refine ACalls.drop1 (h1 := [(0, .cells [.st (.str p), .st (.int .i64 z), .st (.sl 1 (ks.map rowS))])]) trivial ?_
        refine fnC lay_ok func18 rfl rfl rfl rfl rfl ?_
        repeat' first | refine wr (by omega) ?_ | refine ln ?_ | refine stp lay_ok rfl ?_ | refine fin ?_ | refine n_thn ?_ | refine n_blk ?_ | refine e_thn ?_ | refine e_hit ?_ | refine e_miss rfl ?_ | refine r_thn ?_ | refine r_blk ?_ | refine e_rr ?_ | refine r_rr ?_ | refine e_cr ?_ | refine r_cr ?_ | refine .seq ?_ | refine reg ?_ | refine .block ?_ | refine .skip ?_ | refine .ret ?_ | refine .exit ?_ | refine cndT rfl ?_ | refine cndF rfl ?_ | refine c_dec rfl (fun hc => ?_) (fun hc => ?_) | refine c_ndec rfl (fun hc => ?_) (fun hc => ?_) | refine cnd rfl (fun hc => ?_) (fun hc => ?_) | ((first | refine o_none rfl ?_ | refine o_none_ ?_ | refine o_yes rfl rfl rfl ?_ | refine o_yes_ rfl rfl ?_); first | refine st_pure (hc) b17 rfl rfl rfl rfl ?_ | refine st_pure (hbs) b41 rfl rfl rfl rfl ?_ | refine st_index (rowE ⟨p, z, ks⟩) lay_ok rfl rfl rfl rfl (by omega) hat ?_ | refine st_pure (hcl) b43 rfl rfl rfl rfl ?_) | refine gd rfl rfl rfl (fun hg => ?_) (fun hg => ?_) | refine gn rfl rfl rfl (fun hg => ?_) (fun hg => ?_)
        refine f_end (n0 := 1) (t'' := [(4, .ptr 0 0), (5, nilE)]) (h'' := [(0, .cells [.st (.str p), .st (.int .i64 z), .st (.sl 1 (ks.map rowS))])]) (WkR.of [0] (by (repeat' first | exact trivial | refine And.intro ?_ ?_ | rfl); first | done | fail) (by (repeat' first | exact trivial | refine And.intro ?_ ?_ | rfl); first | done | fail) rfl) rfl rfl ⟨?_, rfl⟩
        rfl
      · rw [if_neg hpt]
        rw [decide_eq_false hpt] at hhit
        subst hhit
        refine ACalls.drop1 (h1 := [(0, .cells [.st (.str ⟨#[]⟩), .st (.int .i64 0), .st .nilsl])]) trivial ?_
        refine fnC lay_ok func18 rfl rfl rfl rfl rfl ?_
        repeat' first | refine wr (by omega) ?_ | refine ln ?_ | refine stp lay_ok rfl ?_ | refine fin ?_ | refine n_thn ?_ | refine n_blk ?_ | refine e_thn ?_ | refine e_hit ?_ | refine e_miss rfl ?_ | refine r_thn ?_ | refine r_blk ?_ | refine e_rr ?_ | refine r_rr ?_ | refine e_cr ?_ | refine r_cr ?_ | refine .seq ?_ | refine reg ?_ | refine .block ?_ | refine .skip ?_ | refine .ret ?_ | refine .exit ?_ | refine cndT rfl ?_ | refine cndF rfl ?_ | refine c_dec rfl (fun hc => ?_) (fun hc => ?_) | refine c_ndec rfl (fun hc => ?_) (fun hc => ?_) | refine cnd rfl (fun hc => ?_) (fun hc => ?_) | ((first | refine o_none rfl ?_ | refine o_none_ ?_ | refine o_yes rfl rfl rfl ?_ | refine o_yes_ rfl rfl ?_); first | refine st_pure (hc) b17 rfl rfl rfl rfl ?_ | refine st_pure (hbs) b41 rfl rfl rfl rfl ?_) | refine gd rfl rfl rfl (fun hg => ?_) (fun hg => ?_) | refine gn rfl rfl rfl (fun hg => ?_) (fun hg => ?_)
        refine f_end (n0 := 1) (t'' := [(4, .ptr 0 0), (5, errE 3)]) (h'' := [(0, .cells [.st (.str ⟨#[]⟩), .st (.int .i64 0), .st .nilsl])]) (WkR.of [0] (by (repeat' first | exact trivial | refine And.intro ?_ ?_ | rfl); first | done | fail) (by (repeat' first | exact trivial | refine And.intro ?_ ?_ | rfl); first | done | fail) rfl) rfl rfl ⟨?_, rfl⟩
        rfl
    · rw [List.getElem?_eq_none (by omega)] at hhit ⊢
      simp only at hhit ⊢
      subst hhit
      refine ACalls.drop1 (h1 := [(0, .cells [.st (.str ⟨#[]⟩), .st (.int .i64 0), .st .nilsl])]) trivial ?_
      refine fnC lay_ok func18 rfl rfl rfl rfl rfl ?_
      repeat' first | refine wr (by omega) ?_ | refine ln ?_ | refine stp lay_ok rfl ?_ | refine fin ?_ | refine n_thn ?_ | refine n_blk ?_ | refine e_thn ?_ | refine e_hit ?_ | refine e_miss rfl ?_ | refine r_thn ?_ | refine r_blk ?_ | refine e_rr ?_ | refine r_rr ?_ | refine e_cr ?_ | refine r_cr ?_ | refine .seq ?_ | refine reg ?_ | refine .block ?_ | refine .skip ?_ | refine .ret ?_ | refine .exit ?_ | refine cndT rfl ?_ | refine cndF rfl ?_ | refine c_dec rfl (fun hc => ?_) (fun hc => ?_) | refine c_ndec rfl (fun hc => ?_) (fun hc => ?_) | refine cnd rfl (fun hc => ?_) (fun hc => ?_) | ((first | refine o_none rfl ?_ | refine o_none_ ?_ | refine o_yes rfl rfl rfl ?_ | refine o_yes_ rfl rfl ?_); first | refine st_pure (hc) b17 rfl rfl rfl rfl ?_ | refine st_pure (hbs) b41 rfl rfl rfl rfl ?_) | refine gd rfl rfl rfl (fun hg => ?_) (fun hg => ?_) | refine gn rfl rfl rfl (fun hg => ?_) (fun hg => ?_)
      refine f_end (n0 := 1) (t'' := [(4, .ptr 0 0), (5, errE 3)]) (h'' := [(0, .cells [.st (.str ⟨#[]⟩), .st (.int .i64 0), .st .nilsl])]) (WkR.of [0] (by (repeat' first | exact trivial | refine And.intro ?_ ?_ | rfl); first | done | fail) (by (repeat' first | exact trivial | refine And.intro ?_ ?_ | rfl); first | done | fail) rfl) rfl rfl ⟨?_, rfl⟩
      rfl
/-- The paths under one. -/
def belP (d : ByteArray) (e : EV) : Bool := decide (d = ⟨#[]⟩) || under d e.path
def belL' (l : List EV) (d : ByteArray) : List ByteArray := (l.filter (belP d)).map (·.path)
def belR (l : List EV) (d : ByteArray) : AV := if 32 < l.length then .st .nilsl else match badFrom l l.length 0 with
  | some _ => .st .nilsl
  | none => .st (.sl 1 ((belL' l d).map rowS))
set_option maxHeartbeats 4000000 in
theorem below_ok (l : List EV) (t : ByteArray) (hl : l.length ≤ 4000000000) (hp : ∀ e ∈ l, e.path.size ≤ 4000000000 - 1) (hk : ∀ e ∈ l, e.keys.length ≤ 4000000000) (ht : t.size ≤ 4000000000 - 1) :
    ACalls prog 19 0 [.st (.sl 3 (l.map rowE)), Sx t] [] fun r h => r = belR l t ∧ h = [] := by
  have hc := treeCheck_ok l hl hp hk
  have hm : (List.map rowE l).length = l.length := List.length_map _
  unfold belR
  unfold treeC at hc
  refine fnC lay_ok func19 rfl rfl rfl rfl rfl ?_
  by_cases h32 : 32 < l.length
  · rw [if_pos h32] at hc ⊢
    repeat' first | refine wr (by omega) ?_ | refine ln ?_ | refine stp lay_ok rfl ?_ | refine fin ?_ | refine n_thn ?_ | refine n_blk ?_ | refine e_thn ?_ | refine e_hit ?_ | refine e_miss rfl ?_ | refine r_thn ?_ | refine r_blk ?_ | refine e_rr ?_ | refine r_rr ?_ | refine e_cr ?_ | refine r_cr ?_ | refine .seq ?_ | refine reg ?_ | refine .block ?_ | refine .skip ?_ | refine .ret ?_ | refine .exit ?_ | refine cndT rfl ?_ | refine cndF rfl ?_ | refine c_dec rfl (fun hc => ?_) (fun hc => ?_) | refine c_ndec rfl (fun hc => ?_) (fun hc => ?_) | refine cnd rfl (fun hc => ?_) (fun hc => ?_) | ((first | refine o_none rfl ?_ | refine o_none_ ?_ | refine o_yes rfl rfl rfl ?_ | refine o_yes_ rfl rfl ?_); first | refine st_pure (hc) b17 rfl rfl rfl rfl ?_) | refine gd rfl rfl rfl (fun hg => ?_) (fun hg => ?_) | refine gn rfl rfl rfl (fun hg => ?_) (fun hg => ?_)
    refine f_r [] rfl trivial rfl ⟨?_, rfl⟩
    rfl
  rw [if_neg h32] at hc ⊢
  cases hb : badFrom l l.length 0 with
  | some x =>
    obtain ⟨i, n⟩ := x
    rw [hb] at hc
    simp only at hc ⊢
    repeat' first | refine wr (by omega) ?_ | refine ln ?_ | refine stp lay_ok rfl ?_ | refine fin ?_ | refine n_thn ?_ | refine n_blk ?_ | refine e_thn ?_ | refine e_hit ?_ | refine e_miss rfl ?_ | refine r_thn ?_ | refine r_blk ?_ | refine e_rr ?_ | refine r_rr ?_ | refine e_cr ?_ | refine r_cr ?_ | refine .seq ?_ | refine reg ?_ | refine .block ?_ | refine .skip ?_ | refine .ret ?_ | refine .exit ?_ | refine cndT rfl ?_ | refine cndF rfl ?_ | refine c_dec rfl (fun hc => ?_) (fun hc => ?_) | refine c_ndec rfl (fun hc => ?_) (fun hc => ?_) | refine cnd rfl (fun hc => ?_) (fun hc => ?_) | ((first | refine o_none rfl ?_ | refine o_none_ ?_ | refine o_yes rfl rfl rfl ?_ | refine o_yes_ rfl rfl ?_); first | refine st_pure (hc) b17 rfl rfl rfl rfl ?_) | refine gd rfl rfl rfl (fun hg => ?_) (fun hg => ?_) | refine gn rfl rfl rfl (fun hg => ?_) (fun hg => ?_)
    refine f_r [] rfl trivial rfl ⟨?_, rfl⟩
    rfl
  | none =>
    rw [hb] at hc
    simp only at hc ⊢
    repeat' first | refine wr (by omega) ?_ | refine ln ?_ | refine stp lay_ok rfl ?_ | refine fin ?_ | refine n_thn ?_ | refine n_blk ?_ | refine e_thn ?_ | refine e_hit ?_ | refine e_miss rfl ?_ | refine r_thn ?_ | refine r_blk ?_ | refine e_rr ?_ | refine r_rr ?_ | refine e_cr ?_ | refine r_cr ?_ | refine .seq ?_ | refine reg ?_ | refine .block ?_ | refine .skip ?_ | refine .ret ?_ | refine .exit ?_ | refine cndT rfl ?_ | refine cndF rfl ?_ | refine c_dec rfl (fun hc => ?_) (fun hc => ?_) | refine c_ndec rfl (fun hc => ?_) (fun hc => ?_) | refine cnd rfl (fun hc => ?_) (fun hc => ?_) | ((first | refine o_none rfl ?_ | refine o_none_ ?_ | refine o_yes rfl rfl rfl ?_ | refine o_yes_ rfl rfl ?_); first | refine st_pure (hc) b17 rfl rfl rfl rfl ?_) | refine gd rfl rfl rfl (fun hg => ?_) (fun hg => ?_) | refine gn rfl rfl rfl (fun hg => ?_) (fun hg => ?_)
    refine CodeOk.wk (Wk.nilT 1 5 rfl rfl) (Nat.le_succ _) ?_
    refine nrm rfl rfl ?_
    refine lpR (fun (k, out) => k ≤ l.length ∧ out = belL' (l.take k) t ∧ out.length ≤ k) (fun (k, out) => l.length - k) (fun (k, out) => [(13, I k), (5, .lsl 1 1 0 (out.map rowS).length)]) (fun (k, out) => [(1, .arr 1 (out.map rowS))]) ((0, [])) [1, 11, 12] [] [0] rfl rfl rfl (.of [0] (by (repeat' first | exact trivial | refine And.intro ?_ ?_ | rfl); first | done | fail) (by (repeat' first | exact trivial | refine And.intro ?_ ?_ | rfl); first | done | fail) rfl) ?_ ?_
    · exact ⟨Nat.zero_le _, rfl, Nat.le_refl _⟩
    rintro ⟨k, out⟩ ⟨g1, g2, g3⟩
    refine nrm rfl rfl ?_
    have hmo : (List.map rowS out).length = out.length := List.length_map _
    by_cases hk' : k < l.length
    case neg =>
      have hke : k = l.length := by omega
      subst hke
      rw [List.take_length] at g2
      rw [← g2]
      repeat' first | refine wr (by omega) ?_ | refine ln ?_ | refine stp lay_ok rfl ?_ | refine fin ?_ | refine n_thn ?_ | refine n_blk ?_ | refine e_thn ?_ | refine e_hit ?_ | refine e_miss rfl ?_ | refine r_thn ?_ | refine r_blk ?_ | refine e_rr ?_ | refine r_rr ?_ | refine e_cr ?_ | refine r_cr ?_ | refine .seq ?_ | refine reg ?_ | refine .block ?_ | refine .skip ?_ | refine .ret ?_ | refine .exit ?_ | refine cndT rfl ?_ | refine cndF rfl ?_ | refine c_dec rfl (fun hc => ?_) (fun hc => ?_) | refine c_ndec rfl (fun hc => ?_) (fun hc => ?_) | refine cnd rfl (fun hc => ?_) (fun hc => ?_) | refine gd rfl rfl rfl (fun hg => ?_) (fun hg => ?_) | refine gn rfl rfl rfl (fun hg => ?_) (fun hg => ?_)
      all_goals first
        | (exfalso; omega)
        | skip
      refine f_end (n0 := 0) (t'' := [(4, .st (.sl 1 (out.map rowS)))]) (h'' := []) (Wk.then (Wk.frz 1 [4] rfl rfl rfl (by (repeat' first | exact trivial | refine And.intro ?_ ?_ | rfl); first | done | fail) (by (repeat' first | exact trivial | refine And.intro ?_ ?_ | rfl); first | done | fail) rfl rfl) (WkR.of [] (by (repeat' first | exact trivial | refine And.intro ?_ ?_ | rfl); first | done | fail) (by (repeat' first | exact trivial | refine And.intro ?_ ?_ | rfl); first | done | fail) rfl)) rfl rfl ⟨?_, rfl⟩
      rfl
    have hat := at_rowE hk'
    have hun := under_ok t l[k].path ht (hp _ (List.getElem_mem hk'))
    have htk : belL' (l.take (k + 1)) t = belL' (l.take k) t ++ (if belP t l[k] = true then [l[k].path] else []) := by
      rw [List.take_succ_eq_append_getElem hk']
      unfold belL'
      rw [List.filter_append, List.map_append]
      congr 1
      cases hbp : belP t l[k] <;> simp [hbp]
    rw [← g2] at htk
    generalize l[k] = e at *
    obtain ⟨p, z, ks⟩ := e
    simp only at hun htk
    have hr : List.map rowS out ++ [[SV.str p]] = List.map rowS (out ++ [p]) := by rw [List.map_append]; rfl
    by_cases hte : t = ⟨#[]⟩
    · have hb1 : belP t ⟨p, z, ks⟩ = true := by simp [belP, hte]
      rw [if_pos hb1] at htk
      repeat' first | refine wr (by omega) ?_ | refine ln ?_ | refine stp lay_ok rfl ?_ | refine fin ?_ | refine n_thn ?_ | refine n_blk ?_ | refine e_thn ?_ | refine e_hit ?_ | refine e_miss rfl ?_ | refine r_thn ?_ | refine r_blk ?_ | refine e_rr ?_ | refine r_rr ?_ | refine e_cr ?_ | refine r_cr ?_ | refine .seq ?_ | refine reg ?_ | refine .block ?_ | refine .skip ?_ | refine .ret ?_ | refine .exit ?_ | refine cndT rfl ?_ | refine cndF rfl ?_ | refine c_dec rfl (fun hc => ?_) (fun hc => ?_) | refine c_ndec rfl (fun hc => ?_) (fun hc => ?_) | refine cnd rfl (fun hc => ?_) (fun hc => ?_) | ((first | refine o_none rfl ?_ | refine o_none_ ?_ | refine o_yes rfl rfl rfl ?_ | refine o_yes_ rfl rfl ?_); first | refine st_index (rowE ⟨p, z, ks⟩) lay_ok rfl rfl rfl rfl (by omega) hat ?_ | refine st_pure (hun) b44 rfl rfl rfl rfl ?_ | refine st_append lay_ok rfl rfl rfl rfl rfl rfl rfl rfl (.lsl rfl rfl) .sl rfl (rowS_one (b := [p])) (by simp only [List.length_cons, List.length_nil]; omega) (by simp only [List.length_cons, List.length_nil]; omega) ?_) | refine gd rfl rfl rfl (fun hg => ?_) (fun hg => ?_) | refine gn rfl rfl rfl (fun hg => ?_) (fun hg => ?_)
      all_goals first
        | (exfalso; omega)
        | (exfalso; contradiction)
        | skip
      rw [hr]
      refine n_rr ((k + 1, out ++ [p])) ?_ (.of [3] (by (repeat' first | exact trivial | refine And.intro ?_ ?_ | rfl | exact congrArg (fun z : Int => some (AV.st (.int .i64 z))) (show (k : Int) + 1 = ((k + 1 : Nat) : Int) by omega)); first | done | fail) (by (repeat' first | exact trivial | refine And.intro ?_ ?_ | rfl | exact congrArg (fun z : Int => some (AV.st (.int .i64 z))) (show (k : Int) + 1 = ((k + 1 : Nat) : Int) by omega)); first | done | fail) rfl) ?_
      · show l.length - (k + 1) < l.length - k; omega
      · exact ⟨hk', htk.symm, by simp; omega⟩
    · cases hu : under t p
      · have hb1 : belP t ⟨p, z, ks⟩ = false := by simp [belP, hte, hu]
        rw [hb1, if_neg (by simp), List.append_nil] at htk
        rw [hu] at hun
        repeat' first | refine wr (by omega) ?_ | refine ln ?_ | refine stp lay_ok rfl ?_ | refine fin ?_ | refine n_thn ?_ | refine n_blk ?_ | refine e_thn ?_ | refine e_hit ?_ | refine e_miss rfl ?_ | refine r_thn ?_ | refine r_blk ?_ | refine e_rr ?_ | refine r_rr ?_ | refine e_cr ?_ | refine r_cr ?_ | refine .seq ?_ | refine reg ?_ | refine .block ?_ | refine .skip ?_ | refine .ret ?_ | refine .exit ?_ | refine cndT rfl ?_ | refine cndF rfl ?_ | refine c_dec rfl (fun hc => ?_) (fun hc => ?_) | refine c_ndec rfl (fun hc => ?_) (fun hc => ?_) | refine cnd rfl (fun hc => ?_) (fun hc => ?_) | ((first | refine o_none rfl ?_ | refine o_none_ ?_ | refine o_yes rfl rfl rfl ?_ | refine o_yes_ rfl rfl ?_); first | refine st_index (rowE ⟨p, z, ks⟩) lay_ok rfl rfl rfl rfl (by omega) hat ?_ | refine st_pure (hun) b44 rfl rfl rfl rfl ?_) | refine gd rfl rfl rfl (fun hg => ?_) (fun hg => ?_) | refine gn rfl rfl rfl (fun hg => ?_) (fun hg => ?_)
        all_goals first
          | (exfalso; omega)
          | (exfalso; contradiction)
          | skip
        refine n_rr ((k + 1, out)) ?_ (.of [1] (by (repeat' first | exact trivial | refine And.intro ?_ ?_ | rfl | exact congrArg (fun z : Int => some (AV.st (.int .i64 z))) (show (k : Int) + 1 = ((k + 1 : Nat) : Int) by omega)); first | done | fail) (by (repeat' first | exact trivial | refine And.intro ?_ ?_ | rfl | exact congrArg (fun z : Int => some (AV.st (.int .i64 z))) (show (k : Int) + 1 = ((k + 1 : Nat) : Int) by omega)); first | done | fail) rfl) ?_
        · show l.length - (k + 1) < l.length - k; omega
        · exact ⟨hk', htk.symm, by omega⟩
      · have hb1 : belP t ⟨p, z, ks⟩ = true := by simp [belP, hu]
        rw [if_pos hb1] at htk
        rw [hu] at hun
        repeat' first | refine wr (by omega) ?_ | refine ln ?_ | refine stp lay_ok rfl ?_ | refine fin ?_ | refine n_thn ?_ | refine n_blk ?_ | refine e_thn ?_ | refine e_hit ?_ | refine e_miss rfl ?_ | refine r_thn ?_ | refine r_blk ?_ | refine e_rr ?_ | refine r_rr ?_ | refine e_cr ?_ | refine r_cr ?_ | refine .seq ?_ | refine reg ?_ | refine .block ?_ | refine .skip ?_ | refine .ret ?_ | refine .exit ?_ | refine cndT rfl ?_ | refine cndF rfl ?_ | refine c_dec rfl (fun hc => ?_) (fun hc => ?_) | refine c_ndec rfl (fun hc => ?_) (fun hc => ?_) | refine cnd rfl (fun hc => ?_) (fun hc => ?_) | ((first | refine o_none rfl ?_ | refine o_none_ ?_ | refine o_yes rfl rfl rfl ?_ | refine o_yes_ rfl rfl ?_); first | refine st_index (rowE ⟨p, z, ks⟩) lay_ok rfl rfl rfl rfl (by omega) hat ?_ | refine st_pure (hun) b44 rfl rfl rfl rfl ?_ | refine st_append lay_ok rfl rfl rfl rfl rfl rfl rfl rfl (.lsl rfl rfl) .sl rfl (rowS_one (b := [p])) (by simp only [List.length_cons, List.length_nil]; omega) (by simp only [List.length_cons, List.length_nil]; omega) ?_) | refine gd rfl rfl rfl (fun hg => ?_) (fun hg => ?_) | refine gn rfl rfl rfl (fun hg => ?_) (fun hg => ?_)
        all_goals first
          | (exfalso; omega)
          | (exfalso; contradiction)
          | skip
        rw [hr]
        refine n_rr ((k + 1, out ++ [p])) ?_ (.of [3] (by (repeat' first | exact trivial | refine And.intro ?_ ?_ | rfl | exact congrArg (fun z : Int => some (AV.st (.int .i64 z))) (show (k : Int) + 1 = ((k + 1 : Nat) : Int) by omega)); first | done | fail) (by (repeat' first | exact trivial | refine And.intro ?_ ?_ | rfl | exact congrArg (fun z : Int => some (AV.st (.int .i64 z))) (show (k : Int) + 1 = ((k + 1 : Nat) : Int) by omega)); first | done | fail) rfl) ?_
        · show l.length - (k + 1) < l.length - k; omega
        · exact ⟨hk', htk.symm, by simp; omega⟩
end Go.Proofs.YtmekcbbieacioaaGreatDoorFn
namespace Go.Proofs.YtmekcbbieacioaaGreatDoorFn
open Go.Proofs.YtmekcbbieacioaaGreatDoorAl Go.Proofs.Tryz
/-! ### what a tree is known to be -/
theorem tree_path {l : List EV} (hb : badFrom l l.length 0 = none) (i : Nat) (hi : i < l.length) : pathOk l[i].path = true := by
  have h := badFrom_none l l.length 0 hb i (Nat.zero_le _) (by omega) hi
  unfold entryC at h
  cases hp : pathOk l[i].path with
  | true => rfl
  | false => rw [hp] at h; cases h
theorem tree_whole {l : List EV} (hb : badFrom l l.length 0 = none) (i : Nat) (hi : i < l.length) : wholeB l[i] = true := by
  have h := badFrom_none l l.length 0 hb i (Nat.zero_le _) (by omega) hi
  unfold entryC at h
  rw [if_pos (tree_path hb i hi)] at h
  have key : ∀ (X W : Bool), (if X = true then some (4 : Int) else if W = true then none else some 1) = none → W = true := by
    intro X W h; cases X <;> cases W <;> simp at h ⊢
  exact key _ _ h
/-- Where a path's entry is, in a tree. -/
theorem find_at {l : List EV} (hb : badFrom l l.length 0 = none) (i : Nat) (hi : i < l.length) : loE l l[i].path = i := by
  refine loE_eq (by omega) (fun q hq hqi => ?_) (fun q hq hiq => ?_)
  · rw [cmS_lt]; exact tree_sorted hb q i hqi hi
  · rw [cmS_lt]
    intro h
    by_cases hiq' : i = q
    · subst hiq'
      rw [strLt_iff] at h
      exact List.lt_irrefl _ h
    · have h2 := tree_sorted hb i q (by omega) hq
      rw [strLt_iff] at h h2
      exact List.lt_irrefl _ (List.lt_trans h h2)
theorem findR_hit {l : List EV} (h32 : ¬ 32 < l.length) (hb : badFrom l l.length 0 = none) (i : Nat) (hi : i < l.length) : findR l l[i].path = .tuple [.st (.agg (rowE l[i])), nilE] := by
  unfold findR
  rw [if_neg h32, hb]
  simp only
  rw [find_at hb i hi, List.getElem?_eq_getElem hi]
  simp
theorem findR_miss {l : List EV} {t : ByteArray} (h32 : ¬ 32 < l.length) (hb : badFrom l l.length 0 = none) (h : ∀ e ∈ l, e.path ≠ t) : findR l t = .tuple [.st (.agg zE), errE 3] := by
  unfold findR
  rw [if_neg h32, hb]
  simp only
  split
  · rename_i e he
    rw [if_neg (h e (List.mem_of_getElem? he))]
  · rfl
theorem badFrom_nat (l : List EV) : ∀ f i {k : Nat} {n : Int}, badFrom l f i = some (k, n) → n = 2 ∨ n = 4 ∨ n = 1
  | 0, i, k, n, h => by simp [badFrom] at h
  | f + 1, i, k, n, h => by
    simp only [badFrom] at h
    split at h
    · cases h
    · split at h
      · rename_i e he hx
        cases h
        unfold entryC at hx
        have key : ∀ (P X W : Bool) (m : Int), (if P = true then (if X = true then some (4 : Int) else if W = true then none else some 1) else some 2) = some m → m = 2 ∨ m = 4 ∨ m = 1 := by
          intro P X W m h; cases P <;> cases X <;> cases W <;> simp at h <;> omega
        exact key _ _ _ _ hx
      · exact badFrom_nat l f (i + 1) h
end Go.Proofs.YtmekcbbieacioaaGreatDoorFn
namespace Go.Proofs.YtmekcbbieacioaaGreatDoorFn
open Go.Proofs.YtmekcbbieacioaaGreatDoorAl Go.Proofs.Tryz
attribute [local irreducible] IntKind.wrap CodeOk OpsL OpG ACalls thn inBlk rndR cutR WkR Wk fnR DW ExtOk partsOf
theorem b28 : HasBody prog 28 := ⟨f28, func28, Option.some_ne_none _, by decide⟩
/-! ### what is told may be changed: arrays of ours -/
set_option maxHeartbeats 8000000 in
set_option maxRecDepth 4000 in
theorem buildO_ok (l : List FV) (c : CV) (hok : c.ok = true) (h32 : ¬ 32 < l.length) (hbf : badFile l l.length 0 = none) (hl : l.length ≤ 4000000000) (hp : ∀ e ∈ l, e.path.size ≤ 4000000000 - 1) (hb : ∀ e ∈ l, e.bytes.size ≤ 4000000000) :
    ACalls prog 12 0 [.st (.sl 2 (l.map rowF)), cutE c] [] fun r h => r = .tuple [.lsl 0 3 0 ((srtE (l.map (fileE c))).map rowE).length, nilE] ∧ h = [(0, .arr 3 ((srtE (l.map (fileE c))).map rowE))] := by
  have hmay := may3_ok c
  have hm : (List.map rowF l).length = l.length := List.length_map _
  refine fnC lay_ok func12 rfl rfl rfl rfl rfl ?_
  rw [hok] at hmay
  repeat' first | refine wr (by omega) ?_ | refine ln ?_ | refine stp lay_ok rfl ?_ | refine fin ?_ | refine n_thn ?_ | refine n_blk ?_ | refine e_thn ?_ | refine e_hit ?_ | refine e_miss rfl ?_ | refine r_thn ?_ | refine r_blk ?_ | refine e_rr ?_ | refine r_rr ?_ | refine e_cr ?_ | refine r_cr ?_ | refine .seq ?_ | refine reg ?_ | refine .block ?_ | refine .skip ?_ | refine .ret ?_ | refine .exit ?_ | refine cndT rfl ?_ | refine cndF rfl ?_ | refine c_dec rfl (fun hc => ?_) (fun hc => ?_) | refine c_ndec rfl (fun hc => ?_) (fun hc => ?_) | refine cnd rfl (fun hc => ?_) (fun hc => ?_) | ((first | refine o_none rfl ?_ | refine o_none_ ?_ | refine o_yes rfl rfl rfl ?_ | refine o_yes_ rfl rfl ?_); first | refine st_pure (hmay) b29 rfl rfl rfl rfl ?_) | refine gd rfl rfl rfl (fun hg => ?_) (fun hg => ?_) | refine gn rfl rfl rfl (fun hg => ?_) (fun hg => ?_)
  all_goals first
    | (exfalso; omega)
    | skip
  refine CodeOk.wk (Wk.nilT 3 6 rfl rfl) (Nat.le_succ _) ?_
  refine nrm rfl rfl ?_
  refine lpR (fun (k, out) => k ≤ l.length ∧ badFile l l.length 0 = badFile l (l.length - k) k ∧ out = (l.take k).map (fileE c)) (fun (k, out) => l.length - k) (fun (k, out) => [(24, I k), (6, .lsl 2 3 0 (out.map rowE).length)]) (fun (k, out) => [(2, .arr 3 (out.map rowE))]) ((0, [])) [0, 3, 22, 23] [] [1] rfl rfl rfl (.of [1] (by (repeat' first | exact trivial | refine And.intro ?_ ?_ | rfl); first | done | fail) (by (repeat' first | exact trivial | refine And.intro ?_ ?_ | rfl); first | done | fail) rfl) ?_ ?_
  · exact ⟨Nat.zero_le _, rfl, rfl⟩
  rintro ⟨k, out⟩ ⟨g1, g2, g3⟩
  refine nrm rfl rfl ?_
  have hmo : (List.map rowE out).length = out.length := List.length_map _
  have hol : out.length = k := by rw [g3]; simp; omega
  by_cases hk : k < l.length
  case neg =>
    have hke : k = l.length := by omega
    subst hke
    rw [List.take_length] at g3
    rw [Nat.sub_self] at g2
    rw [← g3]
    have hs := sort_ok out (by omega)
    have hlen : out.length = (List.map rowE (srtE out)).length := by rw [List.length_map, (srtE_facts out).1.length_eq]
    rw [hmo]
    generalize srtE out = so at *
    rw [hlen] at hs ⊢
    repeat' first | refine wr (by omega) ?_ | refine ln ?_ | refine stp lay_ok rfl ?_ | refine fin ?_ | refine n_thn ?_ | refine n_blk ?_ | refine e_thn ?_ | refine e_hit ?_ | refine e_miss rfl ?_ | refine r_thn ?_ | refine r_blk ?_ | refine e_rr ?_ | refine r_rr ?_ | refine e_cr ?_ | refine r_cr ?_ | refine .seq ?_ | refine reg ?_ | refine .block ?_ | refine .skip ?_ | refine .ret ?_ | refine .exit ?_ | refine cndT rfl ?_ | refine cndF rfl ?_ | refine c_dec rfl (fun hc => ?_) (fun hc => ?_) | refine c_ndec rfl (fun hc => ?_) (fun hc => ?_) | refine cnd rfl (fun hc => ?_) (fun hc => ?_) | ((first | refine o_none rfl ?_ | refine o_none_ ?_ | refine o_yes rfl rfl rfl ?_ | refine o_yes_ rfl rfl ?_); first | refine st_callF 0 (hs) b32 rfl rfl rfl rfl rfl rfl (by (repeat' first | exact trivial | refine And.intro ?_ ?_ | rfl); first | done | fail) rfl ?_) | refine gd rfl rfl rfl (fun hg => ?_) (fun hg => ?_) | refine gn rfl rfl rfl (fun hg => ?_) (fun hg => ?_)
    all_goals first
      | (exfalso; omega)
      | skip
    refine f_end (n0 := 1) (t'' := [(4, .lsl 0 3 0 (so.map rowE).length), (5, nilE)]) (h'' := [(0, .arr 3 (so.map rowE))]) (WkR.of [2] (by (repeat' first | exact trivial | refine And.intro ?_ ?_ | rfl); first | done | fail) (by (repeat' first | exact trivial | refine And.intro ?_ ?_ | rfl); first | done | fail) rfl) rfl rfl ⟨?_, rfl⟩
    rfl
  have hat := at_rowF hk
  have hf := file_ok l k hk hl hp
  have hst := badFile_step l k hk
  have hbk := hb _ (List.getElem_mem hk)
  have htk : (l.take (k + 1)).map (fileE c) = out ++ [fileE c l[k]] := by
    rw [g3, List.take_succ_eq_append_getElem hk, List.map_append]; rfl
  generalize he : l[k] = e at *
  have hsp := split3_ok c e.bytes hbk
  have hr : List.map rowE out ++ [rowE (fileE c e)] = List.map rowE (out ++ [fileE c e]) := by rw [List.map_append]; rfl
  cases hx : fileC l k e with
  | some n =>
    rw [hx] at hf hst
    rw [hst] at g2
    rw [hbf] at g2; cases g2
  | none =>
    have hz := fileC_size hx
    rw [hx] at hf hst
    rw [hst] at g2
    rw [splR, if_neg (by rw [hok]; simp), if_neg (by omega)] at hsp
    obtain ⟨p, z⟩ := e
    repeat' first | refine wr (by omega) ?_ | refine ln ?_ | refine stp lay_ok rfl ?_ | refine fin ?_ | refine n_thn ?_ | refine n_blk ?_ | refine e_thn ?_ | refine e_hit ?_ | refine e_miss rfl ?_ | refine r_thn ?_ | refine r_blk ?_ | refine e_rr ?_ | refine r_rr ?_ | refine e_cr ?_ | refine r_cr ?_ | refine .seq ?_ | refine reg ?_ | refine .block ?_ | refine .skip ?_ | refine .ret ?_ | refine .exit ?_ | refine cndT rfl ?_ | refine cndF rfl ?_ | refine c_dec rfl (fun hc => ?_) (fun hc => ?_) | refine c_ndec rfl (fun hc => ?_) (fun hc => ?_) | refine cnd rfl (fun hc => ?_) (fun hc => ?_) | ((first | refine o_none rfl ?_ | refine o_none_ ?_ | refine o_yes rfl rfl rfl ?_ | refine o_yes_ rfl rfl ?_); first | refine st_index (rowF ⟨p, z⟩) lay_ok rfl rfl rfl rfl (by omega) hat ?_ | refine st_pure (hf) b30 rfl rfl rfl rfl ?_ | refine st_pure (hsp) b31 rfl rfl rfl rfl ?_ | refine st_append lay_ok rfl rfl rfl rfl rfl rfl rfl rfl (.lsl rfl rfl) (.sl (rows := [rowE (fileE c ⟨p, z⟩)])) rfl (rowE1_one (fileE c ⟨p, z⟩)) (by simp only [List.length_cons, List.length_nil]; omega) (by simp only [List.length_cons, List.length_nil]; omega) ?_) | refine gd rfl rfl rfl (fun hg => ?_) (fun hg => ?_) | refine gn rfl rfl rfl (fun hg => ?_) (fun hg => ?_)
    all_goals first
      | (exfalso; omega)
      | skip
    rw [hr]
    refine n_rr ((k + 1, out ++ [fileE c ⟨p, z⟩])) ?_ (.of [4] (by (repeat' first | exact trivial | refine And.intro ?_ ?_ | rfl); first | done | fail) (by (repeat' first | exact trivial | refine And.intro ?_ ?_ | rfl); first | done | fail) rfl) ?_
    · show l.length - (k + 1) < l.length - k
      omega
    · exact ⟨hk, g2, htk.symm⟩
theorem cloneSO_ok (b : List ByteArray) (hb : b.length ≤ 4000000000) : ACalls prog 43 0 [.st (.sl 1 (b.map rowS))] [] fun r h => r = .lsl 0 1 0 (b.map rowS).length ∧ h = [(0, .arr 1 (b.map rowS))] := by
  refine fnC lay_ok func43 rfl rfl rfl rfl rfl ?_
  have hm : (List.map rowS b).length = b.length := List.length_map _
  repeat' first | refine wr (by omega) ?_ | refine ln ?_ | refine stp lay_ok rfl ?_ | refine fin ?_ | refine n_thn ?_ | refine n_blk ?_ | refine e_thn ?_ | refine e_hit ?_ | refine e_miss rfl ?_ | refine r_thn ?_ | refine r_blk ?_ | refine e_rr ?_ | refine r_rr ?_ | refine e_cr ?_ | refine r_cr ?_ | refine .seq ?_ | refine reg ?_ | refine .block ?_ | refine .skip ?_ | refine .ret ?_ | refine .exit ?_ | refine cndT rfl ?_ | refine cndF rfl ?_ | refine c_dec rfl (fun hc => ?_) (fun hc => ?_) | refine c_ndec rfl (fun hc => ?_) (fun hc => ?_) | refine cnd rfl (fun hc => ?_) (fun hc => ?_) | ((first | refine o_none rfl ?_ | refine o_none_ ?_ | refine o_yes rfl rfl rfl ?_ | refine o_yes_ rfl rfl ?_); first | refine st_nilSl lay_ok rfl rfl rfl rfl (fun z hz => ?_) | refine st_append lay_ok rfl rfl rfl rfl rfl rfl rfl rfl .sl0 .sl rfl rowS_one (by simp only [List.length_nil]; omega) (by simp only [List.length_nil]; omega) ?_) | refine gd rfl rfl rfl (fun hg => ?_) (fun hg => ?_) | refine gn rfl rfl rfl (fun hg => ?_) (fun hg => ?_)
  · cases z with
    | false => cases hc
    | true =>
      rw [hz rfl]
      refine f_end (n0 := 1) (t'' := [(2, .lsl 0 1 0 0)]) (h'' := [(0, .arr 1 [])]) (Wk.then (Wk.nilT 1 2 rfl rfl) (WkR.of [0] (by (repeat' first | exact trivial | refine And.intro ?_ ?_ | rfl); first | done | fail) (by (repeat' first | exact trivial | refine And.intro ?_ ?_ | rfl); first | done | fail) rfl)) rfl rfl ⟨?_, rfl⟩
      rfl
  · refine f_end (n0 := 1) (t'' := [(2, .lsl 0 1 0 (b.map rowS).length)]) (h'' := [(0, .arr 1 (b.map rowS))]) (WkR.of [0] (by (repeat' first | exact trivial | refine And.intro ?_ ?_ | rfl); first | done | fail) (by (repeat' first | exact trivial | refine And.intro ?_ ?_ | rfl); first | done | fail) rfl) rfl rfl ⟨?_, rfl⟩
    rfl
set_option maxHeartbeats 4000000 in
theorem findO_ok (l : List EV) (k : Nat) (hkl : k < l.length) (h32 : ¬ 32 < l.length) (hb : badFrom l l.length 0 = none) (hlo : loE l l[k].path = k) (hp : ∀ e ∈ l, e.path.size ≤ 4000000000 - 1) (hk : ∀ e ∈ l, e.keys.length ≤ 4000000000) :
    ACalls prog 18 0 [.st (.sl 3 (l.map rowE)), Sx l[k].path] [] fun r h => r = .tuple [.agg [.st (.str l[k].path), .st (.int .i64 l[k].size), .lsl 0 1 0 (l[k].keys.map rowS).length], nilE] ∧ h = [(0, .arr 1 (l[k].keys.map rowS))] := by
  have hl : l.length ≤ 4000000000 := by omega
  have hck := treeCheck_ok l hl hp hk
  have hm : (List.map rowE l).length = l.length := List.length_map _
  unfold treeC at hck
  rw [if_neg h32, hb] at hck
  have hbs := bs_ok l l[k].path hl (tree_below hb _)
  have hhit : hitE l l[k].path = true := by
    unfold hitE
    rw [hlo, List.getElem?_eq_getElem hkl]
    simp [cmS_zero]
  rw [hlo, hhit] at hbs
  have hat := at_rowE hkl
  have hcl := cloneSO_ok l[k].keys (hk _ (List.getElem_mem hkl))
  generalize l[k] = e at *
  obtain ⟨p, z, ks⟩ := e
  simp only at hck hbs hcl
  refine ACalls.drop1 (h1 := [(0, .arr 1 (ks.map rowS)), (1, .cells [.st (.str p), .st (.int .i64 z), .lsl 0 1 0 (ks.map rowS).length])]) ⟨rfl, trivial⟩ ?_
  refine fnC lay_ok func18 rfl rfl rfl rfl rfl ?_
  repeat' first | refine wr (by omega) ?_ | refine ln ?_ | refine stp lay_ok rfl ?_ | refine fin ?_ | refine n_thn ?_ | refine n_blk ?_ | refine e_thn ?_ | refine e_hit ?_ | refine e_miss rfl ?_ | refine r_thn ?_ | refine r_blk ?_ | refine e_rr ?_ | refine r_rr ?_ | refine e_cr ?_ | refine r_cr ?_ | refine .seq ?_ | refine reg ?_ | refine .block ?_ | refine .skip ?_ | refine .ret ?_ | refine .exit ?_ | refine cndT rfl ?_ | refine cndF rfl ?_ | refine c_dec rfl (fun hc => ?_) (fun hc => ?_) | refine c_ndec rfl (fun hc => ?_) (fun hc => ?_) | refine cnd rfl (fun hc => ?_) (fun hc => ?_) | ((first | refine o_none rfl ?_ | refine o_none_ ?_ | refine o_yes rfl rfl rfl ?_ | refine o_yes_ rfl rfl ?_); first | refine st_pure (hck) b17 rfl rfl rfl rfl ?_ | refine st_pure (hbs) b41 rfl rfl rfl rfl ?_ | refine st_index (rowE ⟨p, z, ks⟩) lay_ok rfl rfl rfl rfl (by omega) hat ?_ | refine st_callF 1 (hcl) b43 rfl rfl rfl rfl rfl rfl (by (repeat' first | exact trivial | refine And.intro ?_ ?_ | rfl); first | done | fail) rfl ?_) | refine gd rfl rfl rfl (fun hg => ?_) (fun hg => ?_) | refine gn rfl rfl rfl (fun hg => ?_) (fun hg => ?_)
  refine f_end (n0 := 2) (t'' := [(4, .ptr 1 0), (5, nilE)]) (h'' := [(0, .arr 1 (ks.map rowS)), (1, .cells [.st (.str p), .st (.int .i64 z), .lsl 0 1 0 (ks.map rowS).length])]) (WkR.of [2, 0] (by (repeat' first | exact trivial | refine And.intro ?_ ?_ | rfl); first | done | fail) (by (repeat' first | exact trivial | refine And.intro ?_ ?_ | rfl); first | done | fail) rfl) rfl rfl ⟨?_, rfl⟩
  rfl
set_option maxHeartbeats 4000000 in
theorem copy_ok (l : List EV) (hl : l.length ≤ 4000000) (hk : ∀ e ∈ l, e.keys.length ≤ 4000000000) :
    ACalls prog 28 0 [.st (.sl 3 (l.map rowE))] [] fun r h => r = .st (.sl 3 (l.map rowE)) ∧ h = [] := by
  have hm : (List.map rowE l).length = l.length := List.length_map _
  refine fnC lay_ok func28 rfl rfl rfl rfl rfl ?_
  repeat' first | refine wr (by omega) ?_ | refine ln ?_ | refine stp lay_ok rfl ?_ | refine fin ?_ | refine n_thn ?_ | refine n_blk ?_ | refine e_thn ?_ | refine e_hit ?_ | refine e_miss rfl ?_ | refine r_thn ?_ | refine r_blk ?_ | refine e_rr ?_ | refine r_rr ?_ | refine e_cr ?_ | refine r_cr ?_ | refine .seq ?_ | refine reg ?_ | refine .block ?_ | refine .skip ?_ | refine .ret ?_ | refine .exit ?_ | refine cndT rfl ?_ | refine cndF rfl ?_ | refine c_dec rfl (fun hc => ?_) (fun hc => ?_) | refine c_ndec rfl (fun hc => ?_) (fun hc => ?_) | refine cnd rfl (fun hc => ?_) (fun hc => ?_) | refine gd rfl rfl rfl (fun hg => ?_) (fun hg => ?_) | refine gn rfl rfl rfl (fun hg => ?_) (fun hg => ?_)
  refine CodeOk.wk (Wk.nilT 3 3 rfl rfl) (Nat.le_succ _) ?_
  refine nrm rfl rfl ?_
  refine lpR (fun (k, out) => k ≤ l.length ∧ out = l.take k) (fun (k, out) => l.length - k) (fun (k, out) => [(4, I k), (3, .lsl 1 3 0 (out.map rowE).length)]) (fun (k, out) => [(1, .arr 3 (out.map rowE))]) ((0, [])) [0] [] [0] rfl rfl rfl (.of [0] (by (repeat' first | exact trivial | refine And.intro ?_ ?_ | rfl); first | done | fail) (by (repeat' first | exact trivial | refine And.intro ?_ ?_ | rfl); first | done | fail) rfl) ?_ ?_
  · exact ⟨Nat.zero_le _, rfl⟩
  rintro ⟨k, out⟩ ⟨g1, g2⟩
  refine nrm rfl rfl ?_
  have hmo : (List.map rowE out).length = out.length := List.length_map _
  have hol : out.length = k := by rw [g2]; simp; omega
  by_cases hk' : k < l.length
  case neg =>
    have hke : k = l.length := by omega
    subst hke
    rw [List.take_length] at g2
    rw [← g2]
    repeat' first | refine wr (by omega) ?_ | refine ln ?_ | refine stp lay_ok rfl ?_ | refine fin ?_ | refine n_thn ?_ | refine n_blk ?_ | refine e_thn ?_ | refine e_hit ?_ | refine e_miss rfl ?_ | refine r_thn ?_ | refine r_blk ?_ | refine e_rr ?_ | refine r_rr ?_ | refine e_cr ?_ | refine r_cr ?_ | refine .seq ?_ | refine reg ?_ | refine .block ?_ | refine .skip ?_ | refine .ret ?_ | refine .exit ?_ | refine cndT rfl ?_ | refine cndF rfl ?_ | refine c_dec rfl (fun hc => ?_) (fun hc => ?_) | refine c_ndec rfl (fun hc => ?_) (fun hc => ?_) | refine cnd rfl (fun hc => ?_) (fun hc => ?_) | refine gd rfl rfl rfl (fun hg => ?_) (fun hg => ?_) | refine gn rfl rfl rfl (fun hg => ?_) (fun hg => ?_)
    all_goals first
      | (exfalso; omega)
      | skip
    refine f_end (n0 := 0) (t'' := [(2, .st (.sl 3 (out.map rowE)))]) (h'' := []) (Wk.then (Wk.frz 1 [2] rfl rfl rfl (by (repeat' first | exact trivial | refine And.intro ?_ ?_ | rfl); first | done | fail) (by (repeat' first | exact trivial | refine And.intro ?_ ?_ | rfl); first | done | fail) rfl rfl) (WkR.of [] (by (repeat' first | exact trivial | refine And.intro ?_ ?_ | rfl); first | done | fail) (by (repeat' first | exact trivial | refine And.intro ?_ ?_ | rfl); first | done | fail) rfl)) rfl rfl ⟨?_, rfl⟩
    rfl
  have hat := at_rowE hk'
  have htk : l.take (k + 1) = out ++ [l[k]] := by rw [g2, List.take_succ_eq_append_getElem hk']
  have hkk := hk _ (List.getElem_mem hk')
  generalize l[k] = e at *
  obtain ⟨p, z, ks⟩ := e
  simp only at hkk
  have hr : List.map rowE out ++ [rowE ⟨p, z, ks⟩] = List.map rowE (out ++ [⟨p, z, ks⟩]) := by rw [List.map_append]; rfl
  repeat' first | refine wr (by omega) ?_ | refine ln ?_ | refine stp lay_ok rfl ?_ | refine fin ?_ | refine n_thn ?_ | refine n_blk ?_ | refine e_thn ?_ | refine e_hit ?_ | refine e_miss rfl ?_ | refine r_thn ?_ | refine r_blk ?_ | refine e_rr ?_ | refine r_rr ?_ | refine e_cr ?_ | refine r_cr ?_ | refine .seq ?_ | refine reg ?_ | refine .block ?_ | refine .skip ?_ | refine .ret ?_ | refine .exit ?_ | refine cndT rfl ?_ | refine cndF rfl ?_ | refine c_dec rfl (fun hc => ?_) (fun hc => ?_) | refine c_ndec rfl (fun hc => ?_) (fun hc => ?_) | refine cnd rfl (fun hc => ?_) (fun hc => ?_) | ((first | refine o_none rfl ?_ | refine o_none_ ?_ | refine o_yes rfl rfl rfl ?_ | refine o_yes_ rfl rfl ?_); first | refine st_index (rowE ⟨p, z, ks⟩) lay_ok rfl rfl rfl rfl (by omega) hat ?_ | refine st_append lay_ok rfl rfl rfl rfl rfl rfl rfl rfl .sl0 .sl rfl rowS_one (by simp only [List.length_nil, List.length_map]; omega) (by simp only [List.length_nil, List.length_map]; omega) ?_) | refine gd rfl rfl rfl (fun hg => ?_) (fun hg => ?_) | refine gn rfl rfl rfl (fun hg => ?_) (fun hg => ?_)
  all_goals first
    | (exfalso; omega)
    | skip
  refine OpsL.wk (Wk.frz 3 [ 25, 24, 4, 0] rfl rfl rfl (by (repeat' first | exact trivial | refine And.intro ?_ ?_ | rfl); first | done | fail) (by (repeat' first | exact trivial | refine And.intro ?_ ?_ | rfl); first | done | fail) rfl rfl) (Nat.le_refl _) ?_; refine nrmO rfl rfl ?_
  repeat' first | refine wr (by omega) ?_ | refine ln ?_ | refine stp lay_ok rfl ?_ | refine fin ?_ | refine n_thn ?_ | refine n_blk ?_ | refine e_thn ?_ | refine e_hit ?_ | refine e_miss rfl ?_ | refine r_thn ?_ | refine r_blk ?_ | refine e_rr ?_ | refine r_rr ?_ | refine e_cr ?_ | refine r_cr ?_ | refine .seq ?_ | refine reg ?_ | refine .block ?_ | refine .skip ?_ | refine .ret ?_ | refine .exit ?_ | refine cndT rfl ?_ | refine cndF rfl ?_ | refine c_dec rfl (fun hc => ?_) (fun hc => ?_) | refine c_ndec rfl (fun hc => ?_) (fun hc => ?_) | refine cnd rfl (fun hc => ?_) (fun hc => ?_) | ((first | refine o_none rfl ?_ | refine o_none_ ?_ | refine o_yes rfl rfl rfl ?_ | refine o_yes_ rfl rfl ?_); first | refine st_append lay_ok rfl rfl rfl rfl rfl rfl rfl rfl (.lsl rfl rfl) (.sl (rows := [rowE ⟨p, z, ks⟩])) rfl (rowE1_one ⟨p, z, ks⟩) (by simp only [List.length_cons, List.length_nil]; omega) (by simp only [List.length_cons, List.length_nil]; omega) ?_) | refine gd rfl rfl rfl (fun hg => ?_) (fun hg => ?_) | refine gn rfl rfl rfl (fun hg => ?_) (fun hg => ?_)
  rw [hr]
  refine n_rr ((k + 1, out ++ [⟨p, z, ks⟩])) ?_ (.of [4] (by (repeat' first | exact trivial | refine And.intro ?_ ?_ | rfl | exact congrArg (fun z : Int => some (AV.st (.int .i64 z))) (show (k : Int) + 1 = ((k + 1 : Nat) : Int) by omega)); first | done | fail) (by (repeat' first | exact trivial | refine And.intro ?_ ?_ | rfl | exact congrArg (fun z : Int => some (AV.st (.int .i64 z))) (show (k : Int) + 1 = ((k + 1 : Nat) : Int) by omega)); first | done | fail) rfl) ?_
  · show l.length - (k + 1) < l.length - k; omega
  · exact ⟨hk', htk.symm⟩
set_option maxHeartbeats 4000000 in
theorem copyO_ok (l : List EV) (hl : l.length ≤ 4000000) (hk : ∀ e ∈ l, e.keys.length ≤ 4000000000) :
    ACalls prog 28 1 [.lsl 0 3 0 (l.map rowE).length] [(0, .arr 3 (l.map rowE))] fun r h => r = .st (.sl 3 (l.map rowE)) ∧ h = [(0, .arr 3 (l.map rowE))] := by
  have hm : (List.map rowE l).length = l.length := List.length_map _
  refine fnC lay_ok func28 rfl rfl rfl rfl rfl ?_
  repeat' first | refine wr (by omega) ?_ | refine ln ?_ | refine stp lay_ok rfl ?_ | refine fin ?_ | refine n_thn ?_ | refine n_blk ?_ | refine e_thn ?_ | refine e_hit ?_ | refine e_miss rfl ?_ | refine r_thn ?_ | refine r_blk ?_ | refine e_rr ?_ | refine r_rr ?_ | refine e_cr ?_ | refine r_cr ?_ | refine .seq ?_ | refine reg ?_ | refine .block ?_ | refine .skip ?_ | refine .ret ?_ | refine .exit ?_ | refine cndT rfl ?_ | refine cndF rfl ?_ | refine c_dec rfl (fun hc => ?_) (fun hc => ?_) | refine c_ndec rfl (fun hc => ?_) (fun hc => ?_) | refine cnd rfl (fun hc => ?_) (fun hc => ?_) | refine gd rfl rfl rfl (fun hg => ?_) (fun hg => ?_) | refine gn rfl rfl rfl (fun hg => ?_) (fun hg => ?_)
  refine CodeOk.wk (Wk.nilT 3 3 rfl rfl) (Nat.le_succ _) ?_
  refine nrm rfl rfl ?_
  refine lpR (fun (k, out) => k ≤ l.length ∧ out = l.take k) (fun (k, out) => l.length - k) (fun (k, out) => [(4, I k), (3, .lsl 2 3 0 (out.map rowE).length)]) (fun (k, out) => [(2, .arr 3 (out.map rowE))]) ((0, [])) [0] [] [1] rfl rfl rfl (.of [1] (by (repeat' first | exact trivial | refine And.intro ?_ ?_ | rfl); first | done | fail) (by (repeat' first | exact trivial | refine And.intro ?_ ?_ | rfl); first | done | fail) rfl) ?_ ?_
  · exact ⟨Nat.zero_le _, rfl⟩
  rintro ⟨k, out⟩ ⟨g1, g2⟩
  refine nrm rfl rfl ?_
  have hmo : (List.map rowE out).length = out.length := List.length_map _
  have hol : out.length = k := by rw [g2]; simp; omega
  by_cases hk' : k < l.length
  case neg =>
    have hke : k = l.length := by omega
    subst hke
    rw [List.take_length] at g2
    subst g2
    repeat' first | refine wr (by omega) ?_ | refine ln ?_ | refine stp lay_ok rfl ?_ | refine fin ?_ | refine n_thn ?_ | refine n_blk ?_ | refine e_thn ?_ | refine e_hit ?_ | refine e_miss rfl ?_ | refine r_thn ?_ | refine r_blk ?_ | refine e_rr ?_ | refine r_rr ?_ | refine e_cr ?_ | refine r_cr ?_ | refine .seq ?_ | refine reg ?_ | refine .block ?_ | refine .skip ?_ | refine .ret ?_ | refine .exit ?_ | refine cndT rfl ?_ | refine cndF rfl ?_ | refine c_dec rfl (fun hc => ?_) (fun hc => ?_) | refine c_ndec rfl (fun hc => ?_) (fun hc => ?_) | refine cnd rfl (fun hc => ?_) (fun hc => ?_) | refine gd rfl rfl rfl (fun hg => ?_) (fun hg => ?_) | refine gn rfl rfl rfl (fun hg => ?_) (fun hg => ?_)
    all_goals first
      | (exfalso; omega)
      | skip
    refine f_end (n0 := 1) (t'' := [(2, .st (.sl 3 (out.map rowE)))]) (h'' := [(0, .arr 3 (out.map rowE))]) (Wk.then (Wk.frz 2 [2] rfl rfl rfl (by (repeat' first | exact trivial | refine And.intro ?_ ?_ | rfl); first | done | fail) (by (repeat' first | exact trivial | refine And.intro ?_ ?_ | rfl); first | done | fail) rfl rfl) (WkR.of [0] (by (repeat' first | exact trivial | refine And.intro ?_ ?_ | rfl); first | done | fail) (by (repeat' first | exact trivial | refine And.intro ?_ ?_ | rfl); first | done | fail) rfl)) rfl rfl ⟨?_, rfl⟩
    rfl
  have hat : (List.map rowE l)[0 + ((k : Nat) : Int).toNat]? = some (rowE l[k]) := by rw [Nat.zero_add]; exact at_rowE hk'
  have htk : l.take (k + 1) = out ++ [l[k]] := by rw [g2, List.take_succ_eq_append_getElem hk']
  have hkk := hk _ (List.getElem_mem hk')
  generalize l[k] = e at *
  obtain ⟨p, z, ks⟩ := e
  simp only at hkk
  have hr : List.map rowE out ++ [rowE ⟨p, z, ks⟩] = List.map rowE (out ++ [⟨p, z, ks⟩]) := by rw [List.map_append]; rfl
  repeat' first | refine wr (by omega) ?_ | refine ln ?_ | refine stp lay_ok rfl ?_ | refine fin ?_ | refine n_thn ?_ | refine n_blk ?_ | refine e_thn ?_ | refine e_hit ?_ | refine e_miss rfl ?_ | refine r_thn ?_ | refine r_blk ?_ | refine e_rr ?_ | refine r_rr ?_ | refine e_cr ?_ | refine r_cr ?_ | refine .seq ?_ | refine reg ?_ | refine .block ?_ | refine .skip ?_ | refine .ret ?_ | refine .exit ?_ | refine cndT rfl ?_ | refine cndF rfl ?_ | refine c_dec rfl (fun hc => ?_) (fun hc => ?_) | refine c_ndec rfl (fun hc => ?_) (fun hc => ?_) | refine cnd rfl (fun hc => ?_) (fun hc => ?_) | ((first | refine o_none rfl ?_ | refine o_none_ ?_ | refine o_yes rfl rfl rfl ?_ | refine o_yes_ rfl rfl ?_); first | refine st_indexL lay_ok rfl rfl rfl rfl (by omega) (by omega) ?_ | refine st_loadE (rowE ⟨p, z, ks⟩) lay_ok rfl rfl rfl hat rfl rfl rfl ?_ | refine st_append lay_ok rfl rfl rfl rfl rfl rfl rfl rfl .sl0 .sl rfl rowS_one (by simp only [List.length_nil, List.length_map]; omega) (by simp only [List.length_nil, List.length_map]; omega) ?_) | refine gd rfl rfl rfl (fun hg => ?_) (fun hg => ?_) | refine gn rfl rfl rfl (fun hg => ?_) (fun hg => ?_)
  all_goals first
    | (exfalso; omega)
    | skip
  refine OpsL.wk (Wk.frz 4 [ 25, 24, 4, 0] rfl rfl rfl (by (repeat' first | exact trivial | refine And.intro ?_ ?_ | rfl); first | done | fail) (by (repeat' first | exact trivial | refine And.intro ?_ ?_ | rfl); first | done | fail) rfl rfl) (Nat.le_refl _) ?_; refine nrmO rfl rfl ?_
  repeat' first | refine wr (by omega) ?_ | refine ln ?_ | refine stp lay_ok rfl ?_ | refine fin ?_ | refine n_thn ?_ | refine n_blk ?_ | refine e_thn ?_ | refine e_hit ?_ | refine e_miss rfl ?_ | refine r_thn ?_ | refine r_blk ?_ | refine e_rr ?_ | refine r_rr ?_ | refine e_cr ?_ | refine r_cr ?_ | refine .seq ?_ | refine reg ?_ | refine .block ?_ | refine .skip ?_ | refine .ret ?_ | refine .exit ?_ | refine cndT rfl ?_ | refine cndF rfl ?_ | refine c_dec rfl (fun hc => ?_) (fun hc => ?_) | refine c_ndec rfl (fun hc => ?_) (fun hc => ?_) | refine cnd rfl (fun hc => ?_) (fun hc => ?_) | ((first | refine o_none rfl ?_ | refine o_none_ ?_ | refine o_yes rfl rfl rfl ?_ | refine o_yes_ rfl rfl ?_); first | refine st_append lay_ok rfl rfl rfl rfl rfl rfl rfl rfl (.lsl rfl rfl) (.sl (rows := [rowE ⟨p, z, ks⟩])) rfl (rowE1_one ⟨p, z, ks⟩) (by simp only [List.length_cons, List.length_nil]; omega) (by simp only [List.length_cons, List.length_nil]; omega) ?_) | refine gd rfl rfl rfl (fun hg => ?_) (fun hg => ?_) | refine gn rfl rfl rfl (fun hg => ?_) (fun hg => ?_)
  rw [hr]
  refine n_rr ((k + 1, out ++ [⟨p, z, ks⟩])) ?_ (.of [5] (by (repeat' first | exact trivial | refine And.intro ?_ ?_ | rfl | exact congrArg (fun z : Int => some (AV.st (.int .i64 z))) (show (k : Int) + 1 = ((k + 1 : Nat) : Int) by omega)); first | done | fail) (by (repeat' first | exact trivial | refine And.intro ?_ ?_ | rfl | exact congrArg (fun z : Int => some (AV.st (.int .i64 z))) (show (k : Int) + 1 = ((k + 1 : Nat) : Int) by omega)); first | done | fail) rfl) ?_
  · show l.length - (k + 1) < l.length - k; omega
  · exact ⟨hk', htk.symm⟩
end Go.Proofs.YtmekcbbieacioaaGreatDoorFn
namespace Go.Proofs.YtmekcbbieacioaaGreatDoorFn
open Go Go.Proofs Go.Shelf Go.RowKit
def joinLay_ren : Go.Shelf.Ren := ⟨fun | 156 => 69 | 165 => 91 | 166 => 92 | 169 => 93 | 240 => 106 | 241 => 107 | 276 => 111 | 277 => 112 | n => n, fun | 31 => 39 | 9 => 9 | 3 => 3 | 4 => 4 | 0 => 0 | 20 => 20 | 72 => 133 | 76 => 135 | 70 => 130 | 37 => 131 | 75 => 29 | 127 => 163 | 164 => 103 | 5 => 5 | 80 => 137 | n => n, fun | n => n⟩
theorem joinLay : Go.Proofs.Lays.n156 Go.Proofs.Tryz.prog joinLay_ren where
  mixed := by kernel_rfl
  f156 := Tryz.func69.trans (congrArg some (by kernel_rfl))
  f165 := Tryz.func91.trans (congrArg some (by kernel_rfl))
  f166 := Tryz.func92.trans (congrArg some (by kernel_rfl))
  f169 := Tryz.func93.trans (congrArg some (by kernel_rfl))
  f240 := Tryz.func106.trans (congrArg some (by kernel_rfl))
  f241 := Tryz.func107.trans (congrArg some (by kernel_rfl))
  f276 := Tryz.func111.trans (congrArg some (by kernel_rfl))
  f277 := Tryz.func112.trans (congrArg some (by kernel_rfl))
  t0 := Tryz.underlying0
  a0 := Tryz.isAgg0
  z0 := Tryz.sizeOf0
  v0 := Tryz.zeroValue0
  t3 := Tryz.underlying3
  a3 := Tryz.isAgg3
  z3 := Tryz.sizeOf3
  v3 := Tryz.zeroValue3
  t4 := Tryz.underlying4
  a4 := Tryz.isAgg4
  z4 := Tryz.sizeOf4
  v4 := Tryz.zeroValue4
  t9 := Tryz.underlying9
  a9 := Tryz.isAgg9
  z9 := Tryz.sizeOf9
  v9 := Tryz.zeroValue9
  t20 := Tryz.underlying20
  a20 := Tryz.isAgg20
  z20 := Tryz.sizeOf20
  v20 := Tryz.zeroValue20
  t31 := Tryz.underlying39
  a31 := Tryz.isAgg39
  z31 := Tryz.sizeOf39
  v31 := Tryz.zeroValue39
  t37 := Tryz.underlying131
  a37 := Tryz.isAgg131
  z37 := Tryz.sizeOf131
  v37 := Tryz.zeroValue131
  t70 := Tryz.underlying130
  a70 := Tryz.isAgg130
  z70 := Tryz.sizeOf130
  v70 := Tryz.zeroValue130
  t72 := Tryz.underlying133
  a72 := Tryz.isAgg133
  z72 := Tryz.sizeOf133
  v72 := Tryz.zeroValue133
  t75 := Tryz.underlying29
  a75 := Tryz.isAgg29
  z75 := Tryz.sizeOf29
  v75 := Tryz.zeroValue29
  t76 := Tryz.underlying135
  a76 := Tryz.isAgg135
  z76 := Tryz.sizeOf135
  v76 := Tryz.zeroValue135
  t127 := Tryz.underlying163
  a127 := Tryz.isAgg163
  z127 := Tryz.sizeOf163
  v127 := Tryz.zeroValue163
  t164 := Tryz.underlying103
  a164 := Tryz.isAgg103
  z164 := Tryz.sizeOf103
  v164 := Tryz.zeroValue103
end Go.Proofs.YtmekcbbieacioaaGreatDoorFn
namespace Go.Proofs.YtmekcbbieacioaaGreatDoorFn
open Go.Proofs.YtmekcbbieacioaaGreatDoorAl Go.Proofs.Tryz Go.Proofs
/-! ### strings.Join, by the library's contract -/
theorem joinX : Builder.Extra prog joinLay_ren where
  sizeBuilder := by kernel_rfl
  liesBuilder := by kernel_rfl
  t5 := underlying5
  a5 := isAgg5
  z5 := sizeOf5
  v5 := zeroValue5
  infoByte := by kernel_rfl
  cellsByte := by kernel_rfl
  sizeByte := by kernel_rfl
  neB5 := by decide
/-- Texts, one behind the other. -/
def joinB (ks : List ByteArray) : ByteArray := ⟨(ks.flatMap fun k => k.data.toList).toArray⟩
theorem inter_flat : ∀ l : List (List UInt8), (l.intersperse []).flatten = l.flatten
  | [] => rfl
  | [x] => rfl
  | x :: y :: r => by
    have := inter_flat (y :: r)
    rw [List.intersperse_cons₂, List.flatten_cons, List.flatten_cons, this, List.nil_append, List.flatten_cons (l := x)]
theorem join_flat (l : List (List UInt8)) : Lib.join l [] = l.flatten := inter_flat l
theorem joinB_eq (ks : List ByteArray) : (⟨(Lib.join (ks.map (·.data.toList)) (⟨#[]⟩ : ByteArray).data.toList).toArray⟩ : ByteArray) = joinB ks := by
  unfold joinB
  rw [show (⟨#[]⟩ : ByteArray).data.toList = [] from rfl, join_flat, List.flatMap_def]
theorem joinB_size (ks : List ByteArray) : (joinB ks).size = (ks.flatMap fun k => k.data.toList).length := by
  unfold joinB
  show (Array.size (List.toArray _)) = _
  rw [List.size_toArray]
theorem sJoin_ok (ks : List ByteArray) (hk : ks.length ≤ 140737488355328) (hs : (joinB ks).size ≤ 140737488355328) :
    ACalls prog 69 0 [.st (.sl 1 (ks.map rowS)), Sx ⟨#[]⟩] [] fun r h => r = Sx (joinB ks) ∧ h = [] := by
  refine ACalls.raw0 (svs := [.sl 1 (ks.map rowS), .str ⟨#[]⟩]) fun St w vals hst hv => ?_
  cases hv with
  | cons _ v1 _ vs a1 hv =>
  cases hv with
  | cons _ v2 _ vs a2 hv =>
  cases hv
  cases a2
  rw [joinB_size, List.flatMap_def, ← join_flat] at hs
  rw [← joinB_eq]
  have hm : (ks.map rowS).length = ks.length := List.length_map _
  generalize hrow : ks.map rowS = rows at *
  cases a1 with
  | slnil k a cap =>
    have hk0 : ks = [] := by
      cases ks with
      | nil => rfl
      | cons _ _ => cases hrow
    subst hk0
    exact (Any.strings_Join_none joinLay joinX a cap ⟨#[]⟩ w).mono fun e w' ⟨he, hw⟩ => ⟨⟨_, he, fun c => .st _ _ (.str _)⟩, hw ▸ RowKit.Below.refl _ _⟩
  | sl k b off cap _ hb hr hc =>
    have hcells : ∀ (j : Nat) x, ks[j]? = some x → w.cell? ⟨b, off + j, none⟩ = some (.string x) := fun j x hx => by
      obtain ⟨_, h2⟩ := hr.get j [.str x] (by rw [← hrow, List.getElem?_map, hx]; rfl)
      rw [Nat.mul_one] at h2
      cases h2 with
      | cons _ _ _ v _ h3 h4 _ => cases h4; exact h3
    rw [hm]
    exact (Any.strings_Join joinLay joinX b off cap ks ⟨#[]⟩ w hcells (hst b hb) hk (by omega) hs).mono fun e w' ⟨he, hw⟩ => ⟨⟨_, he, fun c => .st _ _ (.str _)⟩, hw⟩
end Go.Proofs.YtmekcbbieacioaaGreatDoorFn
namespace Go.Proofs.YtmekcbbieacioaaGreatDoorFn
open Go.Proofs.YtmekcbbieacioaaGreatDoorAl Go.Proofs.Tryz
attribute [local irreducible] IntKind.wrap CodeOk OpsL OpG ACalls thn inBlk rndR cutR WkR Wk fnR DW ExtOk partsOf
theorem b69 : HasBody prog 69 := ⟨f69, func69, Option.some_ne_none _, by decide⟩
theorem b48 : HasBody prog 48 := ⟨f48, func48, Option.some_ne_none _, by decide⟩
theorem b49 : HasBody prog 49 := ⟨f49, func49, Option.some_ne_none _, by decide⟩
theorem b23 : HasBody prog 23 := ⟨f23, func23, Option.some_ne_none _, by decide⟩
/-! ### a set of texts, as a map -/
def ent (k : ByteArray) : SV × SV := (.str k, .bool true)
def memB (k : ByteArray) (S : List ByteArray) : Bool := S.any fun x => decide (k = x)
theorem memB_iff {k : ByteArray} {S : List ByteArray} : memB k S = true ↔ k ∈ S := by
  unfold memB; rw [List.any_eq_true]
  exact ⟨fun ⟨x, h, e⟩ => by rw [of_decide_eq_true e]; exact h, fun h => ⟨k, h, decide_eq_true rfl⟩⟩
theorem memB_cons (k a : ByteArray) (S : List ByteArray) : memB k (a :: S) = (decide (k = a) || memB k S) := rfl
def addS (S : List ByteArray) (k : ByteArray) : List ByteArray := if memB k S = true then S else S ++ [k]
theorem mput_ent (k : ByteArray) : ∀ S : List ByteArray, mput (.str k) (.bool true) (S.map ent) = (addS S k).map ent
  | [] => rfl
  | a :: S => by
    have ih := mput_ent k S
    unfold addS at ih ⊢
    rw [memB_cons]
    simp only [List.map_cons, ent, mput, skEq, decide_eq_true_eq]
    by_cases h : k = a
    · subst h; simp [ent]
    · rw [if_neg h, decide_eq_false h, Bool.false_or]
      show _ :: mput (.str k) (.bool true) (S.map ent) = _
      rw [ih]
      cases memB k S <;> simp [ent]
theorem mfind_ent (k : ByteArray) : ∀ S : List ByteArray, mfind (.str k) (S.map ent) = if memB k S = true then some (.bool true) else none
  | [] => rfl
  | a :: S => by
    have ih := mfind_ent k S
    rw [memB_cons]
    simp only [List.map_cons, ent, mfind, skEq, decide_eq_true_eq]
    by_cases h : k = a
    · subst h; simp
    · rw [if_neg h, decide_eq_false h, Bool.false_or]
      exact ih
theorem kind_ent (S : List ByteArray) : ∀ e ∈ S.map ent, kindK .string e.1 = true := fun e he => by
  obtain ⟨k, _, rfl⟩ := List.mem_map.1 he
  rfl
theorem mem_addS {S : List ByteArray} {k x : ByteArray} : memB x (addS S k) = (memB x S || decide (x = k)) := by
  unfold addS
  cases h : memB k S with
  | true =>
    rw [if_pos rfl]
    by_cases hx : x = k
    · subst hx; rw [h]; rfl
    · rw [decide_eq_false hx, Bool.or_false]
  | false =>
    rw [if_neg (by simp)]
    unfold memB
    rw [List.any_append]; simp
abbrev setH (S : List ByteArray) : Heap := [(0, .cells [.map 1]), (1, .map (S.map ent))]
abbrev fnR1 : AV := .fn (.func 48) [] [.ptr 0 0]
theorem rest1_ok (S : List ByteArray) (k : ByteArray) : ACalls prog 48 2 [Sx k, .ptr 0 0] (setH S) fun r h => r = B (!memB k S) ∧ h = setH S := by
  have hk := kind_ent S
  have hf := mfind_ent k S
  refine fnC lay_ok func48 rfl rfl rfl rfl rfl ?_
  cases h : memB k S <;> rw [h] at hf
  rotate_left
  · rw [if_pos rfl] at hf
    repeat' first | refine wr (by omega) ?_ | refine ln ?_ | refine stp lay_ok rfl ?_ | refine fin ?_ | refine n_thn ?_ | refine n_blk ?_ | refine e_thn ?_ | refine e_hit ?_ | refine e_miss rfl ?_ | refine r_thn ?_ | refine r_blk ?_ | refine e_rr ?_ | refine r_rr ?_ | refine e_cr ?_ | refine r_cr ?_ | refine .seq ?_ | refine reg ?_ | refine .block ?_ | refine .skip ?_ | refine .ret ?_ | refine .exit ?_ | refine cndT rfl ?_ | refine cndF rfl ?_ | refine c_dec rfl (fun hc => ?_) (fun hc => ?_) | refine c_ndec rfl (fun hc => ?_) (fun hc => ?_) | refine cnd rfl (fun hc => ?_) (fun hc => ?_) | ((first | refine o_none rfl ?_ | refine o_none_ ?_ | refine o_yes rfl rfl rfl ?_ | refine o_yes_ rfl rfl ?_); first | refine st_lookup (.bool true) lay_ok rfl rfl rfl rfl rfl rfl rfl rfl rfl hk (by rw [hf]; rfl) ?_) | refine gd rfl rfl rfl (fun hg => ?_) (fun hg => ?_) | refine gn rfl rfl rfl (fun hg => ?_) (fun hg => ?_)
    refine f_r [(0, .cells [.map 1]), (1, .map (S.map ent))] rfl (by (repeat' first | exact trivial | refine And.intro ?_ ?_ | rfl); first | done | fail) rfl ⟨?_, rfl⟩
    simp [retOf, h]
  · rw [if_neg (by simp)] at hf
    repeat' first | refine wr (by omega) ?_ | refine ln ?_ | refine stp lay_ok rfl ?_ | refine fin ?_ | refine n_thn ?_ | refine n_blk ?_ | refine e_thn ?_ | refine e_hit ?_ | refine e_miss rfl ?_ | refine r_thn ?_ | refine r_blk ?_ | refine e_rr ?_ | refine r_rr ?_ | refine e_cr ?_ | refine r_cr ?_ | refine .seq ?_ | refine reg ?_ | refine .block ?_ | refine .skip ?_ | refine .ret ?_ | refine .exit ?_ | refine cndT rfl ?_ | refine cndF rfl ?_ | refine c_dec rfl (fun hc => ?_) (fun hc => ?_) | refine c_ndec rfl (fun hc => ?_) (fun hc => ?_) | refine cnd rfl (fun hc => ?_) (fun hc => ?_) | ((first | refine o_none rfl ?_ | refine o_none_ ?_ | refine o_yes rfl rfl rfl ?_ | refine o_yes_ rfl rfl ?_); first | refine st_lookup (.bool false) lay_ok rfl rfl rfl rfl rfl rfl rfl rfl rfl hk (by rw [hf]; rfl) ?_) | refine gd rfl rfl rfl (fun hg => ?_) (fun hg => ?_) | refine gn rfl rfl rfl (fun hg => ?_) (fun hg => ?_)
    refine f_r [(0, .cells [.map 1]), (1, .map (S.map ent))] rfl (by (repeat' first | exact trivial | refine And.intro ?_ ?_ | rfl); first | done | fail) rfl ⟨?_, rfl⟩
    simp [retOf, h]
set_option maxHeartbeats 1000000 in
theorem idxR_ok (S : List ByteArray) (l : List ByteArray) (hl : l.length ≤ 4000000000) : ACalls prog 68 2 [.st (.sl 1 (l.map rowS)), fnR1] (setH S) fun r h => r = I (fidx (fun k => !memB k S) l) ∧ h = setH S := by
  refine fnC lay_ok func68 rfl rfl rfl rfl rfl ?_
  repeat' first | refine wr (by omega) ?_ | refine ln ?_ | refine stp lay_ok rfl ?_ | refine fin ?_ | refine n_thn ?_ | refine n_blk ?_ | refine e_thn ?_ | refine e_hit ?_ | refine e_miss rfl ?_ | refine r_thn ?_ | refine r_blk ?_ | refine e_rr ?_ | refine r_rr ?_ | refine e_cr ?_ | refine r_cr ?_ | refine .seq ?_ | refine reg ?_ | refine .block ?_ | refine .skip ?_ | refine .ret ?_ | refine .exit ?_ | refine cndT rfl ?_ | refine cndF rfl ?_ | refine c_dec rfl (fun hc => ?_) (fun hc => ?_) | refine c_ndec rfl (fun hc => ?_) (fun hc => ?_) | refine cnd rfl (fun hc => ?_) (fun hc => ?_) | refine gd rfl rfl rfl (fun hg => ?_) (fun hg => ?_) | refine gn rfl rfl rfl (fun hg => ?_) (fun hg => ?_)
  refine lpR (fun k => k ≤ l.length ∧ ∀ j (h : j < k), ∀ h2 : j < l.length, (!memB l[j] S) = false) (fun k => l.length - k) (fun k => [(8, I k)]) (fun k => []) (0) [0, 1, 7] [] [] rfl rfl rfl (.of [] (by (repeat' first | exact trivial | refine And.intro ?_ ?_ | rfl); first | done | fail) (by (repeat' first | exact trivial | refine And.intro ?_ ?_ | rfl); first | done | fail) rfl) ?_ ?_
  · exact ⟨Nat.zero_le _, fun j h => by omega⟩
  rintro k ⟨hk, hall⟩
  refine nrm rfl rfl ?_
  have hm : (List.map rowS l).length = l.length := List.length_map _
  by_cases hk' : k < l.length
  case neg =>
    repeat' first | refine wr (by omega) ?_ | refine ln ?_ | refine stp lay_ok rfl ?_ | refine fin ?_ | refine n_thn ?_ | refine n_blk ?_ | refine e_thn ?_ | refine e_hit ?_ | refine e_miss rfl ?_ | refine r_thn ?_ | refine r_blk ?_ | refine e_rr ?_ | refine r_rr ?_ | refine e_cr ?_ | refine r_cr ?_ | refine .seq ?_ | refine reg ?_ | refine .block ?_ | refine .skip ?_ | refine .ret ?_ | refine .exit ?_ | refine cndT rfl ?_ | refine cndF rfl ?_ | refine c_dec rfl (fun hc => ?_) (fun hc => ?_) | refine c_ndec rfl (fun hc => ?_) (fun hc => ?_) | refine cnd rfl (fun hc => ?_) (fun hc => ?_) | refine gd rfl rfl rfl (fun hg => ?_) (fun hg => ?_) | refine gn rfl rfl rfl (fun hg => ?_) (fun hg => ?_)
    all_goals first
      | (exfalso; omega)
      | skip
    refine f_r [(0, .cells [.map 1]), (1, .map (S.map ent))] rfl (by (repeat' first | exact trivial | refine And.intro ?_ ?_ | rfl); first | done | fail) rfl ⟨?_, rfl⟩
    rw [fidx_none _ l (fun j h => hall j (by omega) h)]; rfl
  have hat := at_rowS hk'
  have h1 := rest1_ok S l[k]
  cases hp : memB l[k] S with
  | false =>
    rw [hp] at h1
    repeat' first | refine wr (by omega) ?_ | refine ln ?_ | refine stp lay_ok rfl ?_ | refine fin ?_ | refine n_thn ?_ | refine n_blk ?_ | refine e_thn ?_ | refine e_hit ?_ | refine e_miss rfl ?_ | refine r_thn ?_ | refine r_blk ?_ | refine e_rr ?_ | refine r_rr ?_ | refine e_cr ?_ | refine r_cr ?_ | refine .seq ?_ | refine reg ?_ | refine .block ?_ | refine .skip ?_ | refine .ret ?_ | refine .exit ?_ | refine cndT rfl ?_ | refine cndF rfl ?_ | refine c_dec rfl (fun hc => ?_) (fun hc => ?_) | refine c_ndec rfl (fun hc => ?_) (fun hc => ?_) | refine cnd rfl (fun hc => ?_) (fun hc => ?_) | ((first | refine o_none rfl ?_ | refine o_none_ ?_ | refine o_yes rfl rfl rfl ?_ | refine o_yes_ rfl rfl ?_); first | refine st_index (rowS l[k]) lay_ok rfl rfl rfl rfl (by omega) hat ?_ | refine st_callK [0,1] (h1) b48 rfl rfl rfl rfl rfl (by (repeat' first | exact trivial | refine And.intro ?_ ?_ | rfl); first | done | fail) ?_) | refine gd rfl rfl rfl (fun hg => ?_) (fun hg => ?_) | refine gn rfl rfl rfl (fun hg => ?_) (fun hg => ?_)
    all_goals first
      | (exfalso; omega)
      | skip
    refine f_r [(0, .cells [.map 1]), (1, .map (S.map ent))] rfl (by (repeat' first | exact trivial | refine And.intro ?_ ?_ | rfl); first | done | fail) rfl ⟨?_, rfl⟩
    rw [fidx_step _ l k hk' (fun j h => hall j h _) (by rw [hp]; rfl)]; rfl
  | true =>
    rw [hp] at h1
    repeat' first | refine wr (by omega) ?_ | refine ln ?_ | refine stp lay_ok rfl ?_ | refine fin ?_ | refine n_thn ?_ | refine n_blk ?_ | refine e_thn ?_ | refine e_hit ?_ | refine e_miss rfl ?_ | refine r_thn ?_ | refine r_blk ?_ | refine e_rr ?_ | refine r_rr ?_ | refine e_cr ?_ | refine r_cr ?_ | refine .seq ?_ | refine reg ?_ | refine .block ?_ | refine .skip ?_ | refine .ret ?_ | refine .exit ?_ | refine cndT rfl ?_ | refine cndF rfl ?_ | refine c_dec rfl (fun hc => ?_) (fun hc => ?_) | refine c_ndec rfl (fun hc => ?_) (fun hc => ?_) | refine cnd rfl (fun hc => ?_) (fun hc => ?_) | ((first | refine o_none rfl ?_ | refine o_none_ ?_ | refine o_yes rfl rfl rfl ?_ | refine o_yes_ rfl rfl ?_); first | refine st_index (rowS l[k]) lay_ok rfl rfl rfl rfl (by omega) hat ?_ | refine st_callK [0,1] (h1) b48 rfl rfl rfl rfl rfl (by (repeat' first | exact trivial | refine And.intro ?_ ?_ | rfl); first | done | fail) ?_) | refine gd rfl rfl rfl (fun hg => ?_) (fun hg => ?_) | refine gn rfl rfl rfl (fun hg => ?_) (fun hg => ?_)
    all_goals first
      | (exfalso; omega)
      | skip
    refine n_rr (k + 1) ?_ (.of [] (by (repeat' first | exact trivial | refine And.intro ?_ ?_ | rfl); first | done | fail) (by (repeat' first | exact trivial | refine And.intro ?_ ?_ | rfl); first | done | fail) rfl) ?_
    · omega
    · refine ⟨hk', fun j h h2 => ?_⟩
      by_cases hj : j = k
      · subst hj; rw [hp]; rfl
      · exact hall j (by omega) h2
theorem conR_ok (S : List ByteArray) (l : List ByteArray) (hl : l.length ≤ 4000000000) : ACalls prog 47 2 [.st (.sl 1 (l.map rowS)), fnR1] (setH S) fun r h => r = B (l.any fun k => !memB k S) ∧ h = setH S := by
  have h1 := idxR_ok S l hl
  refine fnC lay_ok func47 rfl rfl rfl rfl rfl ?_
  repeat' first | refine wr (by omega) ?_ | refine ln ?_ | refine stp lay_ok rfl ?_ | refine fin ?_ | refine n_thn ?_ | refine n_blk ?_ | refine e_thn ?_ | refine e_hit ?_ | refine e_miss rfl ?_ | refine r_thn ?_ | refine r_blk ?_ | refine e_rr ?_ | refine r_rr ?_ | refine e_cr ?_ | refine r_cr ?_ | refine .seq ?_ | refine reg ?_ | refine .block ?_ | refine .skip ?_ | refine .ret ?_ | refine .exit ?_ | refine cndT rfl ?_ | refine cndF rfl ?_ | refine c_dec rfl (fun hc => ?_) (fun hc => ?_) | refine c_ndec rfl (fun hc => ?_) (fun hc => ?_) | refine cnd rfl (fun hc => ?_) (fun hc => ?_) | ((first | refine o_none rfl ?_ | refine o_none_ ?_ | refine o_yes rfl rfl rfl ?_ | refine o_yes_ rfl rfl ?_); first | refine st_callK [0,1] (h1) b68 rfl rfl rfl rfl rfl (by (repeat' first | exact trivial | refine And.intro ?_ ?_ | rfl); first | done | fail) ?_) | refine gd rfl rfl rfl (fun hg => ?_) (fun hg => ?_) | refine gn rfl rfl rfl (fun hg => ?_) (fun hg => ?_)
  refine f_r [(0, .cells [.map 1]), (1, .map (S.map ent))] rfl (by (repeat' first | exact trivial | refine And.intro ?_ ?_ | rfl); first | done | fail) rfl ⟨?_, rfl⟩
  rw [← fidx_any]; rfl
theorem cJoin_ok (ks : List ByteArray) (hk : ks.length ≤ 140737488355328) (hs : (joinB ks).size ≤ 140737488355328) : ACalls prog 49 0 [.st (.sl 1 (ks.map rowS))] [] fun r h => r = Sx (joinB ks) ∧ h = [] := by
  have h1 := sJoin_ok ks hk hs
  refine fnC lay_ok func49 rfl rfl rfl rfl rfl ?_
  repeat' first | refine wr (by omega) ?_ | refine ln ?_ | refine stp lay_ok rfl ?_ | refine fin ?_ | refine n_thn ?_ | refine n_blk ?_ | refine e_thn ?_ | refine e_hit ?_ | refine e_miss rfl ?_ | refine r_thn ?_ | refine r_blk ?_ | refine e_rr ?_ | refine r_rr ?_ | refine e_cr ?_ | refine r_cr ?_ | refine .seq ?_ | refine reg ?_ | refine .block ?_ | refine .skip ?_ | refine .ret ?_ | refine .exit ?_ | refine cndT rfl ?_ | refine cndF rfl ?_ | refine c_dec rfl (fun hc => ?_) (fun hc => ?_) | refine c_ndec rfl (fun hc => ?_) (fun hc => ?_) | refine cnd rfl (fun hc => ?_) (fun hc => ?_) | ((first | refine o_none rfl ?_ | refine o_none_ ?_ | refine o_yes rfl rfl rfl ?_ | refine o_yes_ rfl rfl ?_); first | refine st_pure (h1) b69 rfl rfl rfl rfl ?_) | refine gd rfl rfl rfl (fun hg => ?_) (fun hg => ?_) | refine gn rfl rfl rfl (fun hg => ?_) (fun hg => ?_)
  refine f_r [] rfl trivial rfl ⟨?_, rfl⟩
  rfl
end Go.Proofs.YtmekcbbieacioaaGreatDoorFn
namespace Go.Proofs.YtmekcbbieacioaaGreatDoorFn
open Go.Proofs.YtmekcbbieacioaaGreatDoorAl Go.Proofs.Tryz
attribute [local irreducible] IntKind.wrap CodeOk OpsL OpG ACalls thn inBlk rndR cutR WkR Wk fnR DW ExtOk partsOf
/-! ### a tree's files -/
def backF (e : EV) : FV := ⟨e.path, joinB e.keys⟩
def lostB (cs : List ByteArray) (e : EV) : Bool := e.keys.any fun k => !memB k cs
def lostAt (cs : List ByteArray) : List EV → Nat → Option Nat
  | [], _ => none
  | e :: r, i => if lostB cs e = true then some i else lostAt cs r (i + 1)
theorem lostAt_step (cs : List ByteArray) {l : List EV} {k : Nat} (h : k < l.length) : lostAt cs (l.drop k) k = if lostB cs l[k] = true then some k else lostAt cs (l.drop (k + 1)) (k + 1) := by
  rw [List.drop_eq_getElem_cons h]; rfl
theorem memB_take {cs : List ByteArray} {k : Nat} (h : k < cs.length) (x : ByteArray) : memB x (cs.take (k + 1)) = (memB x (cs.take k) || decide (x = cs[k])) := by
  unfold memB
  rw [List.take_succ_eq_append_getElem h, List.any_append]; simp
theorem join_tot (ks : List ByteArray) : (joinB ks).size = tot ks := by
  rw [joinB_size]
  induction ks with
  | nil => rfl
  | cons k r ih =>
    rw [List.flatMap_cons, List.length_append, ih]
    simp only [tot]
    congr 1
theorem whole_join {e : EV} (h : wholeB e = true) : (joinB e.keys).size ≤ 1024 := by
  rw [join_tot]
  unfold wholeB at h
  simp only [Bool.and_eq_true, decide_eq_true_eq] at h
  omega
def restR (l : List EV) (cs : List ByteArray) : AV := if 32 < l.length then .tuple [.st .nilsl, errE 7] else match badFrom l l.length 0 with
  | some (i, n) => .tuple [.st .nilsl, spotE i n]
  | none => match lostAt cs l 0 with
    | some i => .tuple [.st .nilsl, spotE i 3]
    | none => .tuple [.st (.sl 2 ((l.map backF).map rowF)), nilE]
set_option maxHeartbeats 8000000 in
set_option maxRecDepth 4000 in
theorem restore_ok (l : List EV) (cs : List ByteArray) (hl : l.length ≤ 4000000000) (hp : ∀ e ∈ l, e.path.size ≤ 4000000000 - 1) (hk : ∀ e ∈ l, e.keys.length ≤ 4000000000) (hcs : cs.length ≤ 4000000000) :
    ACalls prog 23 0 [.st (.sl 3 (l.map rowE)), .st (.sl 1 (cs.map rowS))] [] fun r h => r = restR l cs ∧ h = [] := by
  have hck := treeCheck_ok l hl hp hk
  have hm : (List.map rowE l).length = l.length := List.length_map _
  have hmc : (List.map rowS cs).length = cs.length := List.length_map _
  unfold restR
  unfold treeC at hck
  refine fnC lay_ok func23 rfl rfl rfl rfl rfl ?_
  by_cases h32 : 32 < l.length
  · rw [if_pos h32] at hck ⊢
    repeat' first | refine wr (by omega) ?_ | refine ln ?_ | refine stp lay_ok rfl ?_ | refine fin ?_ | refine n_thn ?_ | refine n_blk ?_ | refine e_thn ?_ | refine e_hit ?_ | refine e_miss rfl ?_ | refine r_thn ?_ | refine r_blk ?_ | refine e_rr ?_ | refine r_rr ?_ | refine e_cr ?_ | refine r_cr ?_ | refine .seq ?_ | refine reg ?_ | refine .block ?_ | refine .skip ?_ | refine .ret ?_ | refine .exit ?_ | refine cndT rfl ?_ | refine cndF rfl ?_ | refine c_dec rfl (fun hc => ?_) (fun hc => ?_) | refine c_ndec rfl (fun hc => ?_) (fun hc => ?_) | refine cnd rfl (fun hc => ?_) (fun hc => ?_) | ((first | refine o_none rfl ?_ | refine o_none_ ?_ | refine o_yes rfl rfl rfl ?_ | refine o_yes_ rfl rfl ?_); first | refine st_pure (hck) b17 rfl rfl rfl rfl ?_) | refine gd rfl rfl rfl (fun hg => ?_) (fun hg => ?_) | refine gn rfl rfl rfl (fun hg => ?_) (fun hg => ?_) | refine dwr (by omega) ?_ | refine dwl ?_ | refine dws lay_ok rfl rfl rfl rfl rfl rfl rfl ?_ | refine dwu lay_ok rfl rfl rfl rfl rfl rfl rfl rfl rfl ?_ | refine dw_end ?_ | refine dw_skip rfl rfl rfl ?_ | refine dwn lay_ok rfl rfl rfl rfl rfl ?_ | refine dwb rfl rfl rfl rfl rfl (by (first | refine st_pure (hck) b17 rfl rfl rfl rfl ?_); exact fin rfl) rfl rfl ?_ | refine dwg rfl rfl rfl rfl rfl (by (first | refine st_pure (hck) b17 rfl rfl rfl rfl ?_); exact fin rfl) rfl rfl rfl rfl rfl ?_ | refine dw_dec rfl rfl rfl (fun hg => ?_) (fun hg => ?_) | refine dw_ndec rfl rfl rfl (fun hg => ?_) (fun hg => ?_)
    refine f_r [] rfl trivial rfl ⟨?_, rfl⟩
    rfl
  rw [if_neg h32] at hck ⊢
  cases hb : badFrom l l.length 0 with
  | some x =>
    obtain ⟨i, n⟩ := x
    rw [hb] at hck
    simp only at hck ⊢
    repeat' first | refine wr (by omega) ?_ | refine ln ?_ | refine stp lay_ok rfl ?_ | refine fin ?_ | refine n_thn ?_ | refine n_blk ?_ | refine e_thn ?_ | refine e_hit ?_ | refine e_miss rfl ?_ | refine r_thn ?_ | refine r_blk ?_ | refine e_rr ?_ | refine r_rr ?_ | refine e_cr ?_ | refine r_cr ?_ | refine .seq ?_ | refine reg ?_ | refine .block ?_ | refine .skip ?_ | refine .ret ?_ | refine .exit ?_ | refine cndT rfl ?_ | refine cndF rfl ?_ | refine c_dec rfl (fun hc => ?_) (fun hc => ?_) | refine c_ndec rfl (fun hc => ?_) (fun hc => ?_) | refine cnd rfl (fun hc => ?_) (fun hc => ?_) | ((first | refine o_none rfl ?_ | refine o_none_ ?_ | refine o_yes rfl rfl rfl ?_ | refine o_yes_ rfl rfl ?_); first | refine st_pure (hck) b17 rfl rfl rfl rfl ?_) | refine gd rfl rfl rfl (fun hg => ?_) (fun hg => ?_) | refine gn rfl rfl rfl (fun hg => ?_) (fun hg => ?_) | refine dwr (by omega) ?_ | refine dwl ?_ | refine dws lay_ok rfl rfl rfl rfl rfl rfl rfl ?_ | refine dwu lay_ok rfl rfl rfl rfl rfl rfl rfl rfl rfl ?_ | refine dw_end ?_ | refine dw_skip rfl rfl rfl ?_ | refine dwn lay_ok rfl rfl rfl rfl rfl ?_ | refine dwb rfl rfl rfl rfl rfl (by (first | refine st_pure (hck) b17 rfl rfl rfl rfl ?_); exact fin rfl) rfl rfl ?_ | refine dwg rfl rfl rfl rfl rfl (by (first | refine st_pure (hck) b17 rfl rfl rfl rfl ?_); exact fin rfl) rfl rfl rfl rfl rfl ?_ | refine dw_dec rfl rfl rfl (fun hg => ?_) (fun hg => ?_) | refine dw_ndec rfl rfl rfl (fun hg => ?_) (fun hg => ?_)
    refine f_r [] rfl trivial rfl ⟨?_, rfl⟩
    rfl
  | none =>
    rw [hb] at hck
    simp only at hck ⊢
    repeat' first | refine wr (by omega) ?_ | refine ln ?_ | refine stp lay_ok rfl ?_ | refine fin ?_ | refine n_thn ?_ | refine n_blk ?_ | refine e_thn ?_ | refine e_hit ?_ | refine e_miss rfl ?_ | refine r_thn ?_ | refine r_blk ?_ | refine e_rr ?_ | refine r_rr ?_ | refine e_cr ?_ | refine r_cr ?_ | refine .seq ?_ | refine reg ?_ | refine .block ?_ | refine .skip ?_ | refine .ret ?_ | refine .exit ?_ | refine cndT rfl ?_ | refine cndF rfl ?_ | refine c_dec rfl (fun hc => ?_) (fun hc => ?_) | refine c_ndec rfl (fun hc => ?_) (fun hc => ?_) | refine cnd rfl (fun hc => ?_) (fun hc => ?_) | ((first | refine o_none rfl ?_ | refine o_none_ ?_ | refine o_yes rfl rfl rfl ?_ | refine o_yes_ rfl rfl ?_); first | refine st_pure (hck) b17 rfl rfl rfl rfl ?_ | refine st_makeMap ?_) | refine gd rfl rfl rfl (fun hg => ?_) (fun hg => ?_) | refine gn rfl rfl rfl (fun hg => ?_) (fun hg => ?_) | refine dwr (by omega) ?_ | refine dwl ?_ | refine dws lay_ok rfl rfl rfl rfl rfl rfl rfl ?_ | refine dwu lay_ok rfl rfl rfl rfl rfl rfl rfl rfl rfl ?_ | refine dw_end ?_ | refine dw_skip rfl rfl rfl ?_ | refine dwn lay_ok rfl rfl rfl rfl rfl ?_ | refine dwb rfl rfl rfl rfl rfl (by (first | refine st_pure (hck) b17 rfl rfl rfl rfl ?_ | refine st_makeMap ?_); exact fin rfl) rfl rfl ?_ | refine dwg rfl rfl rfl rfl rfl (by (first | refine st_pure (hck) b17 rfl rfl rfl rfl ?_ | refine st_makeMap ?_); exact fin rfl) rfl rfl rfl rfl rfl ?_ | refine dw_dec rfl rfl rfl (fun hg => ?_) (fun hg => ?_) | refine dw_ndec rfl rfl rfl (fun hg => ?_) (fun hg => ?_)
    refine lpR (fun (k, S) => k ≤ cs.length ∧ ∀ x, memB x S = memB x (cs.take k)) (fun (k, S) => cs.length - k) (fun (k, S) => [(21, I k)]) (fun (k, S) => [(0, .map (S.map ent))]) ((0, [])) [0, 7, 19, 20] [0] [] rfl rfl rfl (.of [] (by (repeat' first | exact trivial | refine And.intro ?_ ?_ | rfl); first | done | fail) (by (repeat' first | exact trivial | refine And.intro ?_ ?_ | rfl); first | done | fail) rfl) ?_ ?_
    · exact ⟨Nat.zero_le _, fun x => rfl⟩
    rintro ⟨k, S⟩ ⟨g1, g2⟩
    refine nrm rfl rfl ?_
    by_cases hkc : k < cs.length
    · have hat := at_rowS hkc
      have htk := fun x => memB_take hkc x
      have hput := mput_ent cs[k] S
      have hkind := kind_ent S
      generalize cs[k] = c at *
      repeat' first | refine wr (by omega) ?_ | refine ln ?_ | refine stp lay_ok rfl ?_ | refine fin ?_ | refine n_thn ?_ | refine n_blk ?_ | refine e_thn ?_ | refine e_hit ?_ | refine e_miss rfl ?_ | refine r_thn ?_ | refine r_blk ?_ | refine e_rr ?_ | refine r_rr ?_ | refine e_cr ?_ | refine r_cr ?_ | refine .seq ?_ | refine reg ?_ | refine .block ?_ | refine .skip ?_ | refine .ret ?_ | refine .exit ?_ | refine cndT rfl ?_ | refine cndF rfl ?_ | refine c_dec rfl (fun hc => ?_) (fun hc => ?_) | refine c_ndec rfl (fun hc => ?_) (fun hc => ?_) | refine cnd rfl (fun hc => ?_) (fun hc => ?_) | ((first | refine o_none rfl ?_ | refine o_none_ ?_ | refine o_yes rfl rfl rfl ?_ | refine o_yes_ rfl rfl ?_); first | refine st_index (rowS c) lay_ok rfl rfl rfl rfl (by omega) hat ?_ | refine st_mapUpdate lay_ok rfl rfl rfl rfl rfl rfl rfl rfl rfl rfl hkind ?_) | refine gd rfl rfl rfl (fun hg => ?_) (fun hg => ?_) | refine gn rfl rfl rfl (fun hg => ?_) (fun hg => ?_) | refine dwr (by omega) ?_ | refine dwl ?_ | refine dws lay_ok rfl rfl rfl rfl rfl rfl rfl ?_ | refine dwu lay_ok rfl rfl rfl rfl rfl rfl rfl rfl rfl ?_ | refine dw_end ?_ | refine dw_skip rfl rfl rfl ?_ | refine dwn lay_ok rfl rfl rfl rfl rfl ?_ | refine dwb rfl rfl rfl rfl rfl (by (first | refine st_index (rowS c) lay_ok rfl rfl rfl rfl (by omega) hat ?_ | refine st_mapUpdate lay_ok rfl rfl rfl rfl rfl rfl rfl rfl rfl rfl hkind ?_); exact fin rfl) rfl rfl ?_ | refine dwg rfl rfl rfl rfl rfl (by (first | refine st_index (rowS c) lay_ok rfl rfl rfl rfl (by omega) hat ?_ | refine st_mapUpdate lay_ok rfl rfl rfl rfl rfl rfl rfl rfl rfl rfl hkind ?_); exact fin rfl) rfl rfl rfl rfl rfl ?_ | refine dw_dec rfl rfl rfl (fun hg => ?_) (fun hg => ?_) | refine dw_ndec rfl rfl rfl (fun hg => ?_) (fun hg => ?_)
      all_goals first
        | (exfalso; omega)
        | skip
      refine n_rr ((k + 1, addS S c)) ?_ (.of [] (by (repeat' first | exact trivial | refine And.intro ?_ ?_ | rfl | (rw [← hput]; rfl)); first | done | fail) (by (repeat' first | exact trivial | refine And.intro ?_ ?_ | rfl | (rw [← hput]; rfl)); first | done | fail) rfl) ?_
      · show cs.length - (k + 1) < cs.length - k; omega
      · exact ⟨hkc, fun x => by rw [mem_addS, g2 x, htk x]⟩
    have hke : k = cs.length := by omega
    subst hke
    rw [List.take_length] at g2
    have hlost : ∀ e : EV, (e.keys.any fun k => !memB k S) = lostB cs e := fun e => by
      unfold lostB
      congr 1
      funext k
      rw [g2 k]
    repeat' first | refine wr (by omega) ?_ | refine ln ?_ | refine stp lay_ok rfl ?_ | refine fin ?_ | refine n_thn ?_ | refine n_blk ?_ | refine e_thn ?_ | refine e_hit ?_ | refine e_miss rfl ?_ | refine r_thn ?_ | refine r_blk ?_ | refine e_rr ?_ | refine r_rr ?_ | refine e_cr ?_ | refine r_cr ?_ | refine .seq ?_ | refine reg ?_ | refine .block ?_ | refine .skip ?_ | refine .ret ?_ | refine .exit ?_ | refine cndT rfl ?_ | refine cndF rfl ?_ | refine c_dec rfl (fun hc => ?_) (fun hc => ?_) | refine c_ndec rfl (fun hc => ?_) (fun hc => ?_) | refine cnd rfl (fun hc => ?_) (fun hc => ?_) | refine gd rfl rfl rfl (fun hg => ?_) (fun hg => ?_) | refine gn rfl rfl rfl (fun hg => ?_) (fun hg => ?_) | refine dwr (by omega) ?_ | refine dwl ?_ | refine dws lay_ok rfl rfl rfl rfl rfl rfl rfl ?_ | refine dwu lay_ok rfl rfl rfl rfl rfl rfl rfl rfl rfl ?_ | refine dw_end ?_ | refine dw_skip rfl rfl rfl ?_ | refine dwn lay_ok rfl rfl rfl rfl rfl ?_ | refine dw_dec rfl rfl rfl (fun hg => ?_) (fun hg => ?_) | refine dw_ndec rfl rfl rfl (fun hg => ?_) (fun hg => ?_)
    all_goals first
      | (exfalso; omega)
      | skip
    refine CodeOk.wk (Wk.nilT 2 10 rfl rfl) (Nat.le_succ _) ?_
    refine nrm rfl rfl ?_
    refine lpR (fun (k, out) => k ≤ l.length ∧ out = (l.take k).map backF ∧ lostAt cs l 0 = lostAt cs (l.drop k) k) (fun (k, out) => l.length - k) (fun (k, out) => [(30, I k), (10, .lsl 3 2 0 (out.map rowF).length)]) (fun (k, out) => [(3, .arr 2 (out.map rowF))]) ((0, [])) [7, 28, 29] [] [2] rfl rfl rfl (.of [2] (by (repeat' first | exact trivial | refine And.intro ?_ ?_ | rfl); first | done | fail) (by (repeat' first | exact trivial | refine And.intro ?_ ?_ | rfl); first | done | fail) rfl) ?_ ?_
    · exact ⟨Nat.zero_le _, rfl, rfl⟩
    rintro ⟨k, out⟩ ⟨q1, q2, q3⟩
    refine nrm rfl rfl ?_
    have hmo : (List.map rowF out).length = out.length := List.length_map _
    have hol : out.length = k := by rw [q2]; simp; omega
    by_cases hk' : k < l.length
    case neg =>
      have hke : k = l.length := by omega
      subst hke
      rw [List.take_length] at q2
      rw [List.drop_length] at q3
      rw [q3, lostAt, ← q2]
      repeat' first | refine wr (by omega) ?_ | refine ln ?_ | refine stp lay_ok rfl ?_ | refine fin ?_ | refine n_thn ?_ | refine n_blk ?_ | refine e_thn ?_ | refine e_hit ?_ | refine e_miss rfl ?_ | refine r_thn ?_ | refine r_blk ?_ | refine e_rr ?_ | refine r_rr ?_ | refine e_cr ?_ | refine r_cr ?_ | refine .seq ?_ | refine reg ?_ | refine .block ?_ | refine .skip ?_ | refine .ret ?_ | refine .exit ?_ | refine cndT rfl ?_ | refine cndF rfl ?_ | refine c_dec rfl (fun hc => ?_) (fun hc => ?_) | refine c_ndec rfl (fun hc => ?_) (fun hc => ?_) | refine cnd rfl (fun hc => ?_) (fun hc => ?_) | refine gd rfl rfl rfl (fun hg => ?_) (fun hg => ?_) | refine gn rfl rfl rfl (fun hg => ?_) (fun hg => ?_) | refine dwr (by omega) ?_ | refine dwl ?_ | refine dws lay_ok rfl rfl rfl rfl rfl rfl rfl ?_ | refine dwu lay_ok rfl rfl rfl rfl rfl rfl rfl rfl rfl ?_ | refine dw_end ?_ | refine dw_skip rfl rfl rfl ?_ | refine dwn lay_ok rfl rfl rfl rfl rfl ?_ | refine dw_dec rfl rfl rfl (fun hg => ?_) (fun hg => ?_) | refine dw_ndec rfl rfl rfl (fun hg => ?_) (fun hg => ?_)
      all_goals first
        | (exfalso; omega)
        | skip
      refine f_end (n0 := 0) (t'' := [(4, .st (.sl 2 (out.map rowF))), (5, nilE)]) (h'' := []) (Wk.then (Wk.frz 3 [4, 5] rfl rfl rfl (by (repeat' first | exact trivial | refine And.intro ?_ ?_ | rfl); first | done | fail) (by (repeat' first | exact trivial | refine And.intro ?_ ?_ | rfl); first | done | fail) rfl rfl) (WkR.of [] (by (repeat' first | exact trivial | refine And.intro ?_ ?_ | rfl); first | done | fail) (by (repeat' first | exact trivial | refine And.intro ?_ ?_ | rfl); first | done | fail) rfl)) rfl rfl ⟨?_, rfl⟩
      rfl
    have hat := at_rowE hk'
    have hst := lostAt_step cs hk'
    rw [← q3] at hst
    have hkl := hk _ (List.getElem_mem hk')
    have hcon := conR_ok S l[k].keys hkl
    rw [hlost] at hcon
    have hwh := whole_join (tree_whole hb k hk')
    have hj := cJoin_ok l[k].keys (by omega) (by omega)
    have htk : (l.take (k + 1)).map backF = out ++ [backF l[k]] := by
      rw [q2, List.take_succ_eq_append_getElem hk', List.map_append]; rfl
    generalize l[k] = e at *
    obtain ⟨p, z, ks⟩ := e
    simp only at hcon hj hwh
    have hr : List.map rowF out ++ [[SV.str p, SV.str (joinB ks)]] = List.map rowF (out ++ [backF ⟨p, z, ks⟩]) := by rw [List.map_append]; rfl
    have hone : ∀ row ∈ [[SV.str p, SV.str (joinB ks)]], ∀ y ∈ row, SV.one y = true := by
      intro row hrow y hy
      simp only [List.mem_singleton] at hrow
      subst hrow
      simp only [List.mem_cons, List.not_mem_nil, or_false] at hy
      rcases hy with rfl | rfl <;> rfl
    cases hlo : lostB cs ⟨p, z, ks⟩ <;> rw [hlo] at hcon hst
    · rw [if_neg (by simp)] at hst
      repeat' first | refine wr (by omega) ?_ | refine ln ?_ | refine stp lay_ok rfl ?_ | refine fin ?_ | refine n_thn ?_ | refine n_blk ?_ | refine e_thn ?_ | refine e_hit ?_ | refine e_miss rfl ?_ | refine r_thn ?_ | refine r_blk ?_ | refine e_rr ?_ | refine r_rr ?_ | refine e_cr ?_ | refine r_cr ?_ | refine .seq ?_ | refine reg ?_ | refine .block ?_ | refine .skip ?_ | refine .ret ?_ | refine .exit ?_ | refine cndT rfl ?_ | refine cndF rfl ?_ | refine c_dec rfl (fun hc => ?_) (fun hc => ?_) | refine c_ndec rfl (fun hc => ?_) (fun hc => ?_) | refine cnd rfl (fun hc => ?_) (fun hc => ?_) | ((first | refine o_none rfl ?_ | refine o_none_ ?_ | refine o_yes rfl rfl rfl ?_ | refine o_yes_ rfl rfl ?_); first | refine st_index (rowE ⟨p, z, ks⟩) lay_ok rfl rfl rfl rfl (by omega) hat ?_ | refine st_callK [1,0] (hcon) b47 rfl rfl rfl rfl rfl (by (repeat' first | exact trivial | refine And.intro ?_ ?_ | rfl); first | done | fail) ?_) | refine gd rfl rfl rfl (fun hg => ?_) (fun hg => ?_) | refine gn rfl rfl rfl (fun hg => ?_) (fun hg => ?_) | refine dwr (by omega) ?_ | refine dwl ?_ | refine dws lay_ok rfl rfl rfl rfl rfl rfl rfl ?_ | refine dwu lay_ok rfl rfl rfl rfl rfl rfl rfl rfl rfl ?_ | refine dw_end ?_ | refine dw_skip rfl rfl rfl ?_ | refine dwn lay_ok rfl rfl rfl rfl rfl ?_ | refine dwb rfl rfl rfl rfl rfl (by (first | refine st_index (rowE ⟨p, z, ks⟩) lay_ok rfl rfl rfl rfl (by omega) hat ?_ | refine st_callK [1,0] (hcon) b47 rfl rfl rfl rfl rfl (by (repeat' first | exact trivial | refine And.intro ?_ ?_ | rfl); first | done | fail) ?_); exact fin rfl) rfl rfl ?_ | refine dwg rfl rfl rfl rfl rfl (by (first | refine st_index (rowE ⟨p, z, ks⟩) lay_ok rfl rfl rfl rfl (by omega) hat ?_ | refine st_callK [1,0] (hcon) b47 rfl rfl rfl rfl rfl (by (repeat' first | exact trivial | refine And.intro ?_ ?_ | rfl); first | done | fail) ?_); exact fin rfl) rfl rfl rfl rfl rfl ?_ | refine dw_dec rfl rfl rfl (fun hg => ?_) (fun hg => ?_) | refine dw_ndec rfl rfl rfl (fun hg => ?_) (fun hg => ?_)
      all_goals first
        | (exfalso; omega)
        | skip
      refine dreg [(0, [], [45, 46, 47, 48, 49, 50, 51]), (1, [], [44, 47, 48, 49]), (2, [1], [44, 47, 48, 49]), (3, [], [44, 45, 46]), (4, [3], [44, 45, 46]), (5, [3, 4], [44, 45, 46]), (6, [1, 2, 3, 4, 5], [44]), (7, [1, 2, 3, 4, 5, 6], [44]), (8, [0, 1, 2, 3, 4, 5, 6, 7], []), (9, [0, 1, 2, 3, 4, 5, 6, 7, 8], [])] mixed (by kernel_rfl) ?_
      repeat' first | refine wr (by omega) ?_ | refine ln ?_ | refine stp lay_ok rfl ?_ | refine fin ?_ | refine n_thn ?_ | refine n_blk ?_ | refine e_thn ?_ | refine e_hit ?_ | refine e_miss rfl ?_ | refine r_thn ?_ | refine r_blk ?_ | refine e_rr ?_ | refine r_rr ?_ | refine e_cr ?_ | refine r_cr ?_ | refine .seq ?_ | refine reg ?_ | refine .block ?_ | refine .skip ?_ | refine .ret ?_ | refine .exit ?_ | refine cndT rfl ?_ | refine cndF rfl ?_ | refine c_dec rfl (fun hc => ?_) (fun hc => ?_) | refine c_ndec rfl (fun hc => ?_) (fun hc => ?_) | refine cnd rfl (fun hc => ?_) (fun hc => ?_) | ((first | refine o_none rfl ?_ | refine o_none_ ?_ | refine o_yes rfl rfl rfl ?_ | refine o_yes_ rfl rfl ?_); first | refine st_pure (hj) b49 rfl rfl rfl rfl ?_ | refine st_append lay_ok rfl rfl rfl rfl rfl rfl rfl rfl (.lsl rfl rfl) (.sl (rows := [[SV.str p, SV.str (joinB ks)]])) rfl hone (by simp only [List.length_cons, List.length_nil]; omega) (by simp only [List.length_cons, List.length_nil]; omega) ?_) | refine gd rfl rfl rfl (fun hg => ?_) (fun hg => ?_) | refine gn rfl rfl rfl (fun hg => ?_) (fun hg => ?_) | refine dwr (by omega) ?_ | refine dwl ?_ | refine dws lay_ok rfl rfl rfl rfl rfl rfl rfl ?_ | refine dwu lay_ok rfl rfl rfl rfl rfl rfl rfl rfl rfl ?_ | refine dw_end ?_ | refine dw_skip rfl rfl rfl ?_ | refine dwn lay_ok rfl rfl rfl rfl rfl ?_ | refine dwb rfl rfl rfl rfl rfl (by (first | refine st_pure (hj) b49 rfl rfl rfl rfl ?_ | refine st_append lay_ok rfl rfl rfl rfl rfl rfl rfl rfl (.lsl rfl rfl) (.sl (rows := [[SV.str p, SV.str (joinB ks)]])) rfl hone (by simp only [List.length_cons, List.length_nil]; omega) (by simp only [List.length_cons, List.length_nil]; omega) ?_); exact fin rfl) rfl rfl ?_ | refine dwg rfl rfl rfl rfl rfl (by (first | refine st_pure (hj) b49 rfl rfl rfl rfl ?_ | refine st_append lay_ok rfl rfl rfl rfl rfl rfl rfl rfl (.lsl rfl rfl) (.sl (rows := [[SV.str p, SV.str (joinB ks)]])) rfl hone (by simp only [List.length_cons, List.length_nil]; omega) (by simp only [List.length_cons, List.length_nil]; omega) ?_); exact fin rfl) rfl rfl rfl rfl rfl ?_ | refine dw_dec rfl rfl rfl (fun hg => ?_) (fun hg => ?_) | refine dw_ndec rfl rfl rfl (fun hg => ?_) (fun hg => ?_)
      rw [hr]
      refine n_rr ((k + 1, out ++ [backF ⟨p, z, ks⟩])) ?_ (.of [5] (by (repeat' first | exact trivial | refine And.intro ?_ ?_ | rfl | exact congrArg (fun z : Int => some (AV.st (.int .i64 z))) (show (k : Int) + 1 = ((k + 1 : Nat) : Int) by omega)); first | done | fail) (by (repeat' first | exact trivial | refine And.intro ?_ ?_ | rfl | exact congrArg (fun z : Int => some (AV.st (.int .i64 z))) (show (k : Int) + 1 = ((k + 1 : Nat) : Int) by omega)); first | done | fail) rfl) ?_
      · show l.length - (k + 1) < l.length - k; omega
      · exact ⟨hk', htk.symm, hst⟩
    · rw [if_pos rfl] at hst
      rw [hst]
      repeat' first | refine o_frb 5 [.int .i64 k, .iface 49 (.int .i64 3)] rfl rfl rfl (by (repeat' first | exact trivial | refine And.intro ?_ ?_ | rfl); first | done | fail) (by (repeat' first | exact trivial | refine And.intro ?_ ?_ | rfl); first | done | fail) rfl rfl ?_ | refine wr (by omega) ?_ | refine ln ?_ | refine stp lay_ok rfl ?_ | refine fin ?_ | refine n_thn ?_ | refine n_blk ?_ | refine e_thn ?_ | refine e_hit ?_ | refine e_miss rfl ?_ | refine r_thn ?_ | refine r_blk ?_ | refine e_rr ?_ | refine r_rr ?_ | refine e_cr ?_ | refine r_cr ?_ | refine .seq ?_ | refine reg ?_ | refine .block ?_ | refine .skip ?_ | refine .ret ?_ | refine .exit ?_ | refine cndT rfl ?_ | refine cndF rfl ?_ | refine c_dec rfl (fun hc => ?_) (fun hc => ?_) | refine c_ndec rfl (fun hc => ?_) (fun hc => ?_) | refine cnd rfl (fun hc => ?_) (fun hc => ?_) | ((first | refine o_none rfl ?_ | refine o_none_ ?_ | refine o_yes rfl rfl rfl ?_ | refine o_yes_ rfl rfl ?_); first | refine st_index (rowE ⟨p, z, ks⟩) lay_ok rfl rfl rfl rfl (by omega) hat ?_ | refine st_callK [1,0] (hcon) b47 rfl rfl rfl rfl rfl (by (repeat' first | exact trivial | refine And.intro ?_ ?_ | rfl); first | done | fail) ?_) | refine gd rfl rfl rfl (fun hg => ?_) (fun hg => ?_) | refine gn rfl rfl rfl (fun hg => ?_) (fun hg => ?_) | refine dwr (by omega) ?_ | refine dwl ?_ | refine dws lay_ok rfl rfl rfl rfl rfl rfl rfl ?_ | refine dwu lay_ok rfl rfl rfl rfl rfl rfl rfl rfl rfl ?_ | refine dw_end ?_ | refine dw_skip rfl rfl rfl ?_ | refine dwn lay_ok rfl rfl rfl rfl rfl ?_ | refine dwb rfl rfl rfl rfl rfl (by (first | refine st_index (rowE ⟨p, z, ks⟩) lay_ok rfl rfl rfl rfl (by omega) hat ?_ | refine st_callK [1,0] (hcon) b47 rfl rfl rfl rfl rfl (by (repeat' first | exact trivial | refine And.intro ?_ ?_ | rfl); first | done | fail) ?_); exact fin rfl) rfl rfl ?_ | refine dwg rfl rfl rfl rfl rfl (by (first | refine st_index (rowE ⟨p, z, ks⟩) lay_ok rfl rfl rfl rfl (by omega) hat ?_ | refine st_callK [1,0] (hcon) b47 rfl rfl rfl rfl rfl (by (repeat' first | exact trivial | refine And.intro ?_ ?_ | rfl); first | done | fail) ?_); exact fin rfl) rfl rfl rfl rfl rfl ?_ | refine dw_dec rfl rfl rfl (fun hg => ?_) (fun hg => ?_) | refine dw_ndec rfl rfl rfl (fun hg => ?_) (fun hg => ?_)
      all_goals first
        | (exfalso; omega)
        | skip
      refine f_r [] rfl trivial rfl ⟨?_, rfl⟩
      rfl
end Go.Proofs.YtmekcbbieacioaaGreatDoorFn
namespace Go.Proofs.YtmekcbbieacioaaGreatDoorFn
open Go.Proofs.YtmekcbbieacioaaGreatDoorAl Go.Proofs.Tryz
attribute [local irreducible] IntKind.wrap CodeOk OpsL OpG ACalls thn inBlk rndR cutR WkR Wk fnR DW ExtOk partsOf
theorem b26 : HasBody prog 26 := ⟨f26, func26, Option.some_ne_none _, by decide⟩
/-! ### files compared; a text among others -/
instance : DecidableEq FV := fun f e => decidable_of_iff (f.path = e.path ∧ f.bytes = e.bytes) (by cases f; cases e; simp)
theorem eqF (f e : FV) (St : Nat → Prop) (w : World) (vx vy : List Value) (hx : SList St w (rowF f) vx) (hy : SList St w (rowF e) vy) : (Op.equalIn 10000 58 (.agg vx.toArray) (.agg vy.toArray)).run prog w = .ok (decide (f.path = e.path ∧ f.bytes = e.bytes)) w := by
  obtain ⟨p, z⟩ := f
  obtain ⟨p', z'⟩ := e
  cases hx with
  | cons _ v1 _ vs a1 hx =>
  cases hx with
  | cons _ v2 _ vs a2 hx =>
  cases hx
  cases hy with
  | cons _ u1 _ vs b1 hy =>
  cases hy with
  | cons _ u2 _ vs b2 hy =>
  cases hy
  cases a1; cases a2; cases b1; cases b2
  have u9 := underlying9
  have a9 := isAgg9
  have z9 := sizeOf9
  have hS : prog.underlying 58 = some (.struct (prog.fieldsOf 58)) := by kernel_rfl
  have hp : prog.stoodInHeld 58 = false := by kernel_rfl
  rw [show (10000 : Nat) = 9999 + 1 from rfl, run_equalIn_agg w 9999 58 _ _ hS hp]
  simp only [Program.fieldsOf, underlying58]
  have e1 : (Op.equalIn 9999 9 (.string p) (.string p')).run prog w = .ok (decide (p = p')) w := by
    rw [show (9999 : Nat) = 9998 + 1 from rfl, Op.equalIn]
    simp [run_underlying u9, bb_eq]
  have e2 : (Op.equalIn 9999 9 (.string z) (.string z')).run prog w = .ok (decide (z = z')) w := by
    rw [show (9999 : Nat) = 9998 + 1 from rfl, Op.equalIn]
    simp [run_underlying u9, bb_eq]
  simp only [Op.eqFields, part]
  by_cases h1 : p = p' <;> by_cases h2 : z = z' <;> simp [h1, h2, a9, z9, e1, e2] <;> simp_all
theorem gF : prog.eqGuardType prog.depth 58 = false := by kernel_rfl
theorem has_ok (l : List ByteArray) (s : ByteArray) (hl : l.length ≤ 4000000000) : ACalls prog 26 0 [.st (.sl 1 (l.map rowS)), Sx s] [] fun r h => r = B (memB s l) ∧ h = [] := by
  have hm : (List.map rowS l).length = l.length := List.length_map _
  refine fnC lay_ok func26 rfl rfl rfl rfl rfl ?_
  repeat' first | refine wr (by omega) ?_ | refine ln ?_ | refine stp lay_ok rfl ?_ | refine fin ?_ | refine n_thn ?_ | refine n_blk ?_ | refine e_thn ?_ | refine e_hit ?_ | refine e_miss rfl ?_ | refine r_thn ?_ | refine r_blk ?_ | refine e_rr ?_ | refine r_rr ?_ | refine e_cr ?_ | refine r_cr ?_ | refine .seq ?_ | refine reg ?_ | refine .block ?_ | refine .skip ?_ | refine .ret ?_ | refine .exit ?_ | refine cndT rfl ?_ | refine cndF rfl ?_ | refine c_dec rfl (fun hc => ?_) (fun hc => ?_) | refine c_ndec rfl (fun hc => ?_) (fun hc => ?_) | refine cnd rfl (fun hc => ?_) (fun hc => ?_) | refine gd rfl rfl rfl (fun hg => ?_) (fun hg => ?_) | refine gn rfl rfl rfl (fun hg => ?_) (fun hg => ?_)
  refine lpR (fun k => k ≤ l.length ∧ memB s (l.take k) = false) (fun k => l.length - k) (fun k => [(5, I k)]) (fun k => []) (0) [0, 1] [] [] rfl rfl rfl (.of [] (by (repeat' first | exact trivial | refine And.intro ?_ ?_ | rfl); first | done | fail) (by (repeat' first | exact trivial | refine And.intro ?_ ?_ | rfl); first | done | fail) rfl) ?_ ?_
  · exact ⟨Nat.zero_le _, rfl⟩
  rintro k ⟨g1, g2⟩
  refine nrm rfl rfl ?_
  by_cases hk : k < l.length
  case neg =>
    have hke : k = l.length := by omega
    subst hke
    rw [List.take_length] at g2
    repeat' first | refine wr (by omega) ?_ | refine ln ?_ | refine stp lay_ok rfl ?_ | refine fin ?_ | refine n_thn ?_ | refine n_blk ?_ | refine e_thn ?_ | refine e_hit ?_ | refine e_miss rfl ?_ | refine r_thn ?_ | refine r_blk ?_ | refine e_rr ?_ | refine r_rr ?_ | refine e_cr ?_ | refine r_cr ?_ | refine .seq ?_ | refine reg ?_ | refine .block ?_ | refine .skip ?_ | refine .ret ?_ | refine .exit ?_ | refine cndT rfl ?_ | refine cndF rfl ?_ | refine c_dec rfl (fun hc => ?_) (fun hc => ?_) | refine c_ndec rfl (fun hc => ?_) (fun hc => ?_) | refine cnd rfl (fun hc => ?_) (fun hc => ?_) | refine gd rfl rfl rfl (fun hg => ?_) (fun hg => ?_) | refine gn rfl rfl rfl (fun hg => ?_) (fun hg => ?_)
    all_goals first
      | (exfalso; omega)
      | skip
    refine f_r [] rfl trivial rfl ⟨?_, rfl⟩
    rw [g2]; rfl
  have hat := at_rowS hk
  have htk := memB_take hk s
  have hin : s = l[k] → memB s l = true := fun h => memB_iff.2 (by rw [h]; exact List.getElem_mem hk)
  generalize l[k] = c at *
  repeat' first | refine wr (by omega) ?_ | refine ln ?_ | refine stp lay_ok rfl ?_ | refine fin ?_ | refine n_thn ?_ | refine n_blk ?_ | refine e_thn ?_ | refine e_hit ?_ | refine e_miss rfl ?_ | refine r_thn ?_ | refine r_blk ?_ | refine e_rr ?_ | refine r_rr ?_ | refine e_cr ?_ | refine r_cr ?_ | refine .seq ?_ | refine reg ?_ | refine .block ?_ | refine .skip ?_ | refine .ret ?_ | refine .exit ?_ | refine cndT rfl ?_ | refine cndF rfl ?_ | refine c_dec rfl (fun hc => ?_) (fun hc => ?_) | refine c_ndec rfl (fun hc => ?_) (fun hc => ?_) | refine cnd rfl (fun hc => ?_) (fun hc => ?_) | ((first | refine o_none rfl ?_ | refine o_none_ ?_ | refine o_yes rfl rfl rfl ?_ | refine o_yes_ rfl rfl ?_); first | refine st_index (rowS c) lay_ok rfl rfl rfl rfl (by omega) hat ?_) | refine gd rfl rfl rfl (fun hg => ?_) (fun hg => ?_) | refine gn rfl rfl rfl (fun hg => ?_) (fun hg => ?_)
  all_goals first
    | (exfalso; omega)
    | skip
  · rename_i hcs
    refine f_r [] rfl trivial rfl ⟨?_, rfl⟩
    rw [hin (by first | exact hcs.symm | exact (by assumption : c = s).symm)]; rfl
  · refine n_rr (k + 1) ?_ (.of [] (by (repeat' first | exact trivial | refine And.intro ?_ ?_ | rfl | exact congrArg (fun z : Int => some (AV.st (.int .i64 z))) (show (k : Int) + 1 = ((k + 1 : Nat) : Int) by omega)); first | done | fail) (by (repeat' first | exact trivial | refine And.intro ?_ ?_ | rfl | exact congrArg (fun z : Int => some (AV.st (.int .i64 z))) (show (k : Int) + 1 = ((k + 1 : Nat) : Int) by omega)); first | done | fail) rfl) ?_
    · omega
    · refine ⟨hk, ?_⟩
      rw [htk, g2, decide_eq_false (fun h => by first | exact absurd h.symm (by assumption) | simp_all)]; rfl
end Go.Proofs.YtmekcbbieacioaaGreatDoorFn
namespace Go.Proofs.YtmekcbbieacioaaGreatDoorFn
open Go.Proofs.YtmekcbbieacioaaGreatDoorAl Go.Proofs.Tryz
attribute [local irreducible] IntKind.wrap CodeOk OpsL OpG ACalls thn inBlk rndR cutR WkR Wk fnR DW ExtOk partsOf
theorem b25 : HasBody prog 25 := ⟨f25, func25, Option.some_ne_none _, by decide⟩
/-! ### rows of files compared -/
theorem files_ok (a b : List FV) (ha : a.length ≤ 4000000000) (hb : b.length ≤ 4000000000) : ACalls prog 25 0 [.st (.sl 2 (a.map rowF)), .st (.sl 2 (b.map rowF))] [] fun r h => r = B (decide (a = b)) ∧ h = [] := by
  have hma : (List.map rowF a).length = a.length := List.length_map _
  have hmb : (List.map rowF b).length = b.length := List.length_map _
  refine fnC lay_ok func25 rfl rfl rfl rfl rfl ?_
  repeat' first | refine wr (by omega) ?_ | refine ln ?_ | refine stp lay_ok rfl ?_ | refine fin ?_ | refine n_thn ?_ | refine n_blk ?_ | refine e_thn ?_ | refine e_hit ?_ | refine e_miss rfl ?_ | refine r_thn ?_ | refine r_blk ?_ | refine e_rr ?_ | refine r_rr ?_ | refine e_cr ?_ | refine r_cr ?_ | refine .seq ?_ | refine reg ?_ | refine .block ?_ | refine .skip ?_ | refine .ret ?_ | refine .exit ?_ | refine cndT rfl ?_ | refine cndF rfl ?_ | refine c_dec rfl (fun hc => ?_) (fun hc => ?_) | refine c_ndec rfl (fun hc => ?_) (fun hc => ?_) | refine cnd rfl (fun hc => ?_) (fun hc => ?_) | refine gd rfl rfl rfl (fun hg => ?_) (fun hg => ?_) | refine gn rfl rfl rfl (fun hg => ?_) (fun hg => ?_) | refine dwr (by omega) ?_ | refine dwl ?_ | refine dws lay_ok rfl rfl rfl rfl rfl rfl rfl ?_ | refine dwu lay_ok rfl rfl rfl rfl rfl rfl rfl rfl rfl ?_ | refine dw_end ?_ | refine dw_skip rfl rfl rfl ?_ | refine dwn lay_ok rfl rfl rfl rfl rfl ?_ | refine dw_dec rfl rfl rfl (fun hg => ?_) (fun hg => ?_) | refine dw_ndec rfl rfl rfl (fun hg => ?_) (fun hg => ?_)
  · refine f_r [] rfl trivial rfl ⟨?_, rfl⟩
    rw [decide_eq_false (by rintro rfl; omega)]; rfl
  · have hl : a.length = b.length := by omega
    refine lpR (fun k => k ≤ a.length ∧ ∀ j (h1 : j < a.length) (h2 : j < b.length), j < k → a[j] = b[j]) (fun k => a.length - k) (fun k => [(5, I k)]) (fun k => []) (0) [0, 1] [] [] rfl rfl rfl (.of [] (by (repeat' first | exact trivial | refine And.intro ?_ ?_ | rfl); first | done | fail) (by (repeat' first | exact trivial | refine And.intro ?_ ?_ | rfl); first | done | fail) rfl) ?_ ?_
    · exact ⟨Nat.zero_le _, fun j h1 h2 h3 => by omega⟩
    rintro k ⟨hk, hall⟩
    refine nrm rfl rfl ?_
    by_cases hka : k < a.length
    case neg =>
      repeat' first | refine wr (by omega) ?_ | refine ln ?_ | refine stp lay_ok rfl ?_ | refine fin ?_ | refine n_thn ?_ | refine n_blk ?_ | refine e_thn ?_ | refine e_hit ?_ | refine e_miss rfl ?_ | refine r_thn ?_ | refine r_blk ?_ | refine e_rr ?_ | refine r_rr ?_ | refine e_cr ?_ | refine r_cr ?_ | refine .seq ?_ | refine reg ?_ | refine .block ?_ | refine .skip ?_ | refine .ret ?_ | refine .exit ?_ | refine cndT rfl ?_ | refine cndF rfl ?_ | refine c_dec rfl (fun hc => ?_) (fun hc => ?_) | refine c_ndec rfl (fun hc => ?_) (fun hc => ?_) | refine cnd rfl (fun hc => ?_) (fun hc => ?_) | refine gd rfl rfl rfl (fun hg => ?_) (fun hg => ?_) | refine gn rfl rfl rfl (fun hg => ?_) (fun hg => ?_) | refine dwr (by omega) ?_ | refine dwl ?_ | refine dws lay_ok rfl rfl rfl rfl rfl rfl rfl ?_ | refine dwu lay_ok rfl rfl rfl rfl rfl rfl rfl rfl rfl ?_ | refine dw_end ?_ | refine dw_skip rfl rfl rfl ?_ | refine dwn lay_ok rfl rfl rfl rfl rfl ?_ | refine dw_dec rfl rfl rfl (fun hg => ?_) (fun hg => ?_) | refine dw_ndec rfl rfl rfl (fun hg => ?_) (fun hg => ?_)
      all_goals first
        | (exfalso; omega)
        | skip
      refine f_r [] rfl trivial rfl ⟨?_, rfl⟩
      rw [decide_eq_true (List.ext_getElem hl fun j h1 h2 => hall j h1 h2 (by omega))]; rfl
    have hkb : k < b.length := by omega
    have hat := at_rowF hka
    have hbt := at_rowF hkb
    have hex : a[k] ≠ b[k] → decide (a = b) = false := fun h => decide_eq_false (fun e => h (by subst e; rfl))
    have hnx : a[k] = b[k] → ∀ j (h1 : j < a.length) (h2 : j < b.length), j < k + 1 → a[j] = b[j] := fun h j h1 h2 h3 => by
      by_cases hj : j = k
      · subst hj; exact h
      · exact hall j h1 h2 (by omega)
    generalize a[k] = x at *
    generalize b[k] = y at *
    have hq := eqF x y
    obtain ⟨p, z⟩ := x
    obtain ⟨p', z'⟩ := y
    simp only at hq
    by_cases he : p = p' ∧ z = z'
    · rw [decide_eq_true he] at hq
      repeat' first | refine wr (by omega) ?_ | refine ln ?_ | refine stp lay_ok rfl ?_ | refine fin ?_ | refine n_thn ?_ | refine n_blk ?_ | refine e_thn ?_ | refine e_hit ?_ | refine e_miss rfl ?_ | refine r_thn ?_ | refine r_blk ?_ | refine e_rr ?_ | refine r_rr ?_ | refine e_cr ?_ | refine r_cr ?_ | refine .seq ?_ | refine reg ?_ | refine .block ?_ | refine .skip ?_ | refine .ret ?_ | refine .exit ?_ | refine cndT rfl ?_ | refine cndF rfl ?_ | refine c_dec rfl (fun hc => ?_) (fun hc => ?_) | refine c_ndec rfl (fun hc => ?_) (fun hc => ?_) | refine cnd rfl (fun hc => ?_) (fun hc => ?_) | refine gd rfl rfl rfl (fun hg => ?_) (fun hg => ?_) | refine gn rfl rfl rfl (fun hg => ?_) (fun hg => ?_) | refine dwr (by omega) ?_ | refine dwl ?_ | refine dws lay_ok rfl rfl rfl rfl rfl rfl rfl ?_ | refine dwu lay_ok rfl rfl rfl rfl rfl rfl rfl rfl rfl ?_ | refine dw_end ?_ | refine dw_skip rfl rfl rfl ?_ | refine dwn lay_ok rfl rfl rfl rfl rfl ?_ | refine dw_dec rfl rfl rfl (fun hg => ?_) (fun hg => ?_) | refine dw_ndec rfl rfl rfl (fun hg => ?_) (fun hg => ?_)
      all_goals first
        | (exfalso; omega)
        | skip
      refine dreg [(0, [], [18, 21, 22, 23, 24]), (1, [], [17, 21, 22, 23, 24]), (2, [0, 1], [21, 22, 23, 24]), (3, [0, 1, 2], [21, 22, 23, 24]), (4, [], [17, 18, 19, 20, 22]), (5, [], [17, 18, 19, 20, 21]), (6, [4, 5], [17, 18, 19, 20]), (7, [4, 5, 6], [17, 18, 19, 20]), (8, [0, 1, 2, 3, 4, 5, 6, 7], [])] mixed (by kernel_rfl) ?_
      repeat' first | refine wr (by omega) ?_ | refine ln ?_ | refine stp lay_ok rfl ?_ | refine fin ?_ | refine n_thn ?_ | refine n_blk ?_ | refine e_thn ?_ | refine e_hit ?_ | refine e_miss rfl ?_ | refine r_thn ?_ | refine r_blk ?_ | refine e_rr ?_ | refine r_rr ?_ | refine e_cr ?_ | refine r_cr ?_ | refine .seq ?_ | refine reg ?_ | refine .block ?_ | refine .skip ?_ | refine .ret ?_ | refine .exit ?_ | refine cndT rfl ?_ | refine cndF rfl ?_ | refine c_dec rfl (fun hc => ?_) (fun hc => ?_) | refine c_ndec rfl (fun hc => ?_) (fun hc => ?_) | refine cnd rfl (fun hc => ?_) (fun hc => ?_) | ((first | refine o_none rfl ?_ | refine o_none_ ?_ | refine o_yes rfl rfl rfl ?_ | refine o_yes_ rfl rfl ?_); first | refine st_index (rowF ⟨p, z⟩) lay_ok rfl rfl rfl rfl (by omega) hat ?_ | refine st_index (rowF ⟨p', z'⟩) lay_ok rfl rfl rfl rfl (by omega) hbt ?_ | refine st_eqAgg rfl rfl hq gF rfl ?_) | refine gd rfl rfl rfl (fun hg => ?_) (fun hg => ?_) | refine gn rfl rfl rfl (fun hg => ?_) (fun hg => ?_) | refine dwr (by omega) ?_ | refine dwl ?_ | refine dws lay_ok rfl rfl rfl rfl rfl rfl rfl ?_ | refine dwu lay_ok rfl rfl rfl rfl rfl rfl rfl rfl rfl ?_ | refine dw_end ?_ | refine dw_skip rfl rfl rfl ?_ | refine dwn lay_ok rfl rfl rfl rfl rfl ?_ | refine dwb rfl rfl rfl rfl rfl (by (first | refine st_index (rowF ⟨p, z⟩) lay_ok rfl rfl rfl rfl (by omega) hat ?_ | refine st_index (rowF ⟨p', z'⟩) lay_ok rfl rfl rfl rfl (by omega) hbt ?_ | refine st_eqAgg rfl rfl hq gF rfl ?_); exact fin rfl) rfl rfl ?_ | refine dwg rfl rfl rfl rfl rfl (by (first | refine st_index (rowF ⟨p, z⟩) lay_ok rfl rfl rfl rfl (by omega) hat ?_ | refine st_index (rowF ⟨p', z'⟩) lay_ok rfl rfl rfl rfl (by omega) hbt ?_ | refine st_eqAgg rfl rfl hq gF rfl ?_); exact fin rfl) rfl rfl rfl rfl rfl ?_ | refine dw_dec rfl rfl rfl (fun hg => ?_) (fun hg => ?_) | refine dw_ndec rfl rfl rfl (fun hg => ?_) (fun hg => ?_)
      refine n_rr (k + 1) ?_ (.of [] (by (repeat' first | exact trivial | refine And.intro ?_ ?_ | rfl | exact congrArg (fun z : Int => some (AV.st (.int .i64 z))) (show (k : Int) + 1 = ((k + 1 : Nat) : Int) by omega)); first | done | fail) (by (repeat' first | exact trivial | refine And.intro ?_ ?_ | rfl | exact congrArg (fun z : Int => some (AV.st (.int .i64 z))) (show (k : Int) + 1 = ((k + 1 : Nat) : Int) by omega)); first | done | fail) rfl) ?_
      · omega
      · exact ⟨hka, hnx (by rw [he.1, he.2])⟩
    · rw [decide_eq_false he] at hq
      repeat' first | refine wr (by omega) ?_ | refine ln ?_ | refine stp lay_ok rfl ?_ | refine fin ?_ | refine n_thn ?_ | refine n_blk ?_ | refine e_thn ?_ | refine e_hit ?_ | refine e_miss rfl ?_ | refine r_thn ?_ | refine r_blk ?_ | refine e_rr ?_ | refine r_rr ?_ | refine e_cr ?_ | refine r_cr ?_ | refine .seq ?_ | refine reg ?_ | refine .block ?_ | refine .skip ?_ | refine .ret ?_ | refine .exit ?_ | refine cndT rfl ?_ | refine cndF rfl ?_ | refine c_dec rfl (fun hc => ?_) (fun hc => ?_) | refine c_ndec rfl (fun hc => ?_) (fun hc => ?_) | refine cnd rfl (fun hc => ?_) (fun hc => ?_) | refine gd rfl rfl rfl (fun hg => ?_) (fun hg => ?_) | refine gn rfl rfl rfl (fun hg => ?_) (fun hg => ?_) | refine dwr (by omega) ?_ | refine dwl ?_ | refine dws lay_ok rfl rfl rfl rfl rfl rfl rfl ?_ | refine dwu lay_ok rfl rfl rfl rfl rfl rfl rfl rfl rfl ?_ | refine dw_end ?_ | refine dw_skip rfl rfl rfl ?_ | refine dwn lay_ok rfl rfl rfl rfl rfl ?_ | refine dw_dec rfl rfl rfl (fun hg => ?_) (fun hg => ?_) | refine dw_ndec rfl rfl rfl (fun hg => ?_) (fun hg => ?_)
      all_goals first
        | (exfalso; omega)
        | skip
      refine dreg [(0, [], [18, 21, 22, 23, 24]), (1, [], [17, 21, 22, 23, 24]), (2, [0, 1], [21, 22, 23, 24]), (3, [0, 1, 2], [21, 22, 23, 24]), (4, [], [17, 18, 19, 20, 22]), (5, [], [17, 18, 19, 20, 21]), (6, [4, 5], [17, 18, 19, 20]), (7, [4, 5, 6], [17, 18, 19, 20]), (8, [0, 1, 2, 3, 4, 5, 6, 7], [])] mixed (by kernel_rfl) ?_
      repeat' first | refine wr (by omega) ?_ | refine ln ?_ | refine stp lay_ok rfl ?_ | refine fin ?_ | refine n_thn ?_ | refine n_blk ?_ | refine e_thn ?_ | refine e_hit ?_ | refine e_miss rfl ?_ | refine r_thn ?_ | refine r_blk ?_ | refine e_rr ?_ | refine r_rr ?_ | refine e_cr ?_ | refine r_cr ?_ | refine .seq ?_ | refine reg ?_ | refine .block ?_ | refine .skip ?_ | refine .ret ?_ | refine .exit ?_ | refine cndT rfl ?_ | refine cndF rfl ?_ | refine c_dec rfl (fun hc => ?_) (fun hc => ?_) | refine c_ndec rfl (fun hc => ?_) (fun hc => ?_) | refine cnd rfl (fun hc => ?_) (fun hc => ?_) | ((first | refine o_none rfl ?_ | refine o_none_ ?_ | refine o_yes rfl rfl rfl ?_ | refine o_yes_ rfl rfl ?_); first | refine st_index (rowF ⟨p, z⟩) lay_ok rfl rfl rfl rfl (by omega) hat ?_ | refine st_index (rowF ⟨p', z'⟩) lay_ok rfl rfl rfl rfl (by omega) hbt ?_ | refine st_eqAgg rfl rfl hq gF rfl ?_) | refine gd rfl rfl rfl (fun hg => ?_) (fun hg => ?_) | refine gn rfl rfl rfl (fun hg => ?_) (fun hg => ?_) | refine dwr (by omega) ?_ | refine dwl ?_ | refine dws lay_ok rfl rfl rfl rfl rfl rfl rfl ?_ | refine dwu lay_ok rfl rfl rfl rfl rfl rfl rfl rfl rfl ?_ | refine dw_end ?_ | refine dw_skip rfl rfl rfl ?_ | refine dwn lay_ok rfl rfl rfl rfl rfl ?_ | refine dwb rfl rfl rfl rfl rfl (by (first | refine st_index (rowF ⟨p, z⟩) lay_ok rfl rfl rfl rfl (by omega) hat ?_ | refine st_index (rowF ⟨p', z'⟩) lay_ok rfl rfl rfl rfl (by omega) hbt ?_ | refine st_eqAgg rfl rfl hq gF rfl ?_); exact fin rfl) rfl rfl ?_ | refine dwg rfl rfl rfl rfl rfl (by (first | refine st_index (rowF ⟨p, z⟩) lay_ok rfl rfl rfl rfl (by omega) hat ?_ | refine st_index (rowF ⟨p', z'⟩) lay_ok rfl rfl rfl rfl (by omega) hbt ?_ | refine st_eqAgg rfl rfl hq gF rfl ?_); exact fin rfl) rfl rfl rfl rfl rfl ?_ | refine dw_dec rfl rfl rfl (fun hg => ?_) (fun hg => ?_) | refine dw_ndec rfl rfl rfl (fun hg => ?_) (fun hg => ?_)
      refine f_r [] rfl trivial rfl ⟨?_, rfl⟩
      rw [hex (fun e => he (by cases e; exact ⟨rfl, rfl⟩))]; rfl
end Go.Proofs.YtmekcbbieacioaaGreatDoorFn
namespace Go.Proofs.YtmekcbbieacioaaGreatDoorFn
open Go.Proofs.YtmekcbbieacioaaGreatDoorAl Go.Proofs.Tryz
attribute [local irreducible] IntKind.wrap CodeOk OpsL OpG ACalls thn inBlk rndR cutR WkR Wk fnR DW ExtOk partsOf
theorem b22 : HasBody prog 22 := ⟨f22, func22, Option.some_ne_none _, by decide⟩
theorem b21 : HasBody prog 21 := ⟨f21, func21, Option.some_ne_none _, by decide⟩
theorem b15 : HasBody prog 15 := ⟨f15, func15, Option.some_ne_none _, by decide⟩
theorem list_ext {α : Type} {a b : List α} (hl : a.length = b.length) (h : ∀ j (h1 : j < a.length) (h2 : j < b.length), a[j] = b[j]) : a = b := List.ext_getElem hl h
theorem same3_ok (a b : List ByteArray) (ha : a.length ≤ 4000000000) (hb : b.length ≤ 4000000000) : ACalls prog 22 0 [.st (.sl 1 (a.map rowS)), .st (.sl 1 (b.map rowS))] [] fun r h => r = B (decide (a = b)) ∧ h = [] := by
  have hma : (List.map rowS a).length = a.length := List.length_map _
  have hmb : (List.map rowS b).length = b.length := List.length_map _
  refine fnC lay_ok func22 rfl rfl rfl rfl rfl ?_
  repeat' first | refine wr (by omega) ?_ | refine ln ?_ | refine stp lay_ok rfl ?_ | refine fin ?_ | refine n_thn ?_ | refine n_blk ?_ | refine e_thn ?_ | refine e_hit ?_ | refine e_miss rfl ?_ | refine r_thn ?_ | refine r_blk ?_ | refine e_rr ?_ | refine r_rr ?_ | refine e_cr ?_ | refine r_cr ?_ | refine .seq ?_ | refine reg ?_ | refine .block ?_ | refine .skip ?_ | refine .ret ?_ | refine .exit ?_ | refine cndT rfl ?_ | refine cndF rfl ?_ | refine c_dec rfl (fun hc => ?_) (fun hc => ?_) | refine c_ndec rfl (fun hc => ?_) (fun hc => ?_) | refine cnd rfl (fun hc => ?_) (fun hc => ?_) | refine gd rfl rfl rfl (fun hg => ?_) (fun hg => ?_) | refine gn rfl rfl rfl (fun hg => ?_) (fun hg => ?_) | refine dwr (by omega) ?_ | refine dwl ?_ | refine dws lay_ok rfl rfl rfl rfl rfl rfl rfl ?_ | refine dwu lay_ok rfl rfl rfl rfl rfl rfl rfl rfl rfl ?_ | refine dw_end ?_ | refine dw_skip rfl rfl rfl ?_ | refine dwn lay_ok rfl rfl rfl rfl rfl ?_ | refine dw_dec rfl rfl rfl (fun hg => ?_) (fun hg => ?_) | refine dw_ndec rfl rfl rfl (fun hg => ?_) (fun hg => ?_)
  · refine f_r [] rfl trivial rfl ⟨?_, rfl⟩
    rw [decide_eq_false (by rintro rfl; omega)]; rfl
  · have hl : a.length = b.length := by omega
    refine lpR (fun k => k ≤ a.length ∧ ∀ j (h1 : j < a.length) (h2 : j < b.length), j < k → a[j] = b[j]) (fun k => a.length - k) (fun k => [(5, I k)]) (fun k => []) (0) [0, 1] [] [] rfl rfl rfl (.of [] (by (repeat' first | exact trivial | refine And.intro ?_ ?_ | rfl); first | done | fail) (by (repeat' first | exact trivial | refine And.intro ?_ ?_ | rfl); first | done | fail) rfl) ?_ ?_
    · exact ⟨Nat.zero_le _, fun j h1 h2 h3 => by omega⟩
    rintro k ⟨hk, hall⟩
    refine nrm rfl rfl ?_
    repeat' first | refine wr (by omega) ?_ | refine ln ?_ | refine stp lay_ok rfl ?_ | refine fin ?_ | refine n_thn ?_ | refine n_blk ?_ | refine e_thn ?_ | refine e_hit ?_ | refine e_miss rfl ?_ | refine r_thn ?_ | refine r_blk ?_ | refine e_rr ?_ | refine r_rr ?_ | refine e_cr ?_ | refine r_cr ?_ | refine .seq ?_ | refine reg ?_ | refine .block ?_ | refine .skip ?_ | refine .ret ?_ | refine .exit ?_ | refine cndT rfl ?_ | refine cndF rfl ?_ | refine c_dec rfl (fun hc => ?_) (fun hc => ?_) | refine c_ndec rfl (fun hc => ?_) (fun hc => ?_) | refine cnd rfl (fun hc => ?_) (fun hc => ?_) | refine gd rfl rfl rfl (fun hg => ?_) (fun hg => ?_) | refine gn rfl rfl rfl (fun hg => ?_) (fun hg => ?_) | refine dwr (by omega) ?_ | refine dwl ?_ | refine dws lay_ok rfl rfl rfl rfl rfl rfl rfl ?_ | refine dwu lay_ok rfl rfl rfl rfl rfl rfl rfl rfl rfl ?_ | refine dw_end ?_ | refine dw_skip rfl rfl rfl ?_ | refine dwn lay_ok rfl rfl rfl rfl rfl ?_ | refine dw_dec rfl rfl rfl (fun hg => ?_) (fun hg => ?_) | refine dw_ndec rfl rfl rfl (fun hg => ?_) (fun hg => ?_)
    · have hka : k < a.length := by omega
      have hkb : k < b.length := by omega
      have hat := at_rowS hka
      have hbt := at_rowS hkb
      refine dreg [(0, [], [18, 21, 22, 23, 24]), (1, [], [17, 21, 22, 23, 24]), (2, [0, 1], [21, 22, 23, 24]), (3, [0, 1, 2], [21, 22, 23, 24]), (4, [], [17, 18, 19, 20, 22]), (5, [], [17, 18, 19, 20, 21]), (6, [4, 5], [17, 18, 19, 20]), (7, [4, 5, 6], [17, 18, 19, 20]), (8, [0, 1, 2, 3, 4, 5, 6, 7], [])] mixed (by kernel_rfl) ?_
      repeat' first | refine wr (by omega) ?_ | refine ln ?_ | refine stp lay_ok rfl ?_ | refine fin ?_ | refine n_thn ?_ | refine n_blk ?_ | refine e_thn ?_ | refine e_hit ?_ | refine e_miss rfl ?_ | refine r_thn ?_ | refine r_blk ?_ | refine e_rr ?_ | refine r_rr ?_ | refine e_cr ?_ | refine r_cr ?_ | refine .seq ?_ | refine reg ?_ | refine .block ?_ | refine .skip ?_ | refine .ret ?_ | refine .exit ?_ | refine cndT rfl ?_ | refine cndF rfl ?_ | refine c_dec rfl (fun hc => ?_) (fun hc => ?_) | refine c_ndec rfl (fun hc => ?_) (fun hc => ?_) | refine cnd rfl (fun hc => ?_) (fun hc => ?_) | ((first | refine o_none rfl ?_ | refine o_none_ ?_ | refine o_yes rfl rfl rfl ?_ | refine o_yes_ rfl rfl ?_); first | refine st_index (rowS a[k]) lay_ok rfl rfl rfl rfl (by omega) hat ?_ | refine st_index (rowS b[k]) lay_ok rfl rfl rfl rfl (by omega) hbt ?_) | refine gd rfl rfl rfl (fun hg => ?_) (fun hg => ?_) | refine gn rfl rfl rfl (fun hg => ?_) (fun hg => ?_) | refine dwr (by omega) ?_ | refine dwl ?_ | refine dws lay_ok rfl rfl rfl rfl rfl rfl rfl ?_ | refine dwu lay_ok rfl rfl rfl rfl rfl rfl rfl rfl rfl ?_ | refine dw_end ?_ | refine dw_skip rfl rfl rfl ?_ | refine dwn lay_ok rfl rfl rfl rfl rfl ?_ | refine dwb rfl rfl rfl rfl rfl (by (first | refine st_index (rowS a[k]) lay_ok rfl rfl rfl rfl (by omega) hat ?_ | refine st_index (rowS b[k]) lay_ok rfl rfl rfl rfl (by omega) hbt ?_); exact fin rfl) rfl rfl ?_ | refine dwg rfl rfl rfl rfl rfl (by (first | refine st_index (rowS a[k]) lay_ok rfl rfl rfl rfl (by omega) hat ?_ | refine st_index (rowS b[k]) lay_ok rfl rfl rfl rfl (by omega) hbt ?_); exact fin rfl) rfl rfl rfl rfl rfl ?_ | refine dw_dec rfl rfl rfl (fun hg => ?_) (fun hg => ?_) | refine dw_ndec rfl rfl rfl (fun hg => ?_) (fun hg => ?_)
      · refine f_r [] rfl trivial rfl ⟨?_, rfl⟩
        rw [decide_eq_false (fun e => hc (by subst e; rfl))]; rfl
      · refine n_rr (k + 1) ?_ (.of [] (by (repeat' first | exact trivial | refine And.intro ?_ ?_ | rfl); first | done | fail) (by (repeat' first | exact trivial | refine And.intro ?_ ?_ | rfl); first | done | fail) rfl) ?_
        · omega
        · refine ⟨hka, fun j h1 h2 h3 => ?_⟩
          by_cases hj : j = k
          · subst hj; exact Decidable.not_not.1 hc
          · exact hall j h1 h2 (by omega)
    · refine f_r [] rfl trivial rfl ⟨?_, rfl⟩
      rw [decide_eq_true (list_ext hl fun j h1 h2 => hall j h1 h2 (by omega))]; rfl
theorem same4_ok (x y : EV) (ha : x.keys.length ≤ 4000000000) (hb : y.keys.length ≤ 4000000000) : ACalls prog 21 0 [.st (.agg (rowE x)), .st (.agg (rowE y))] [] fun r h => r = B (decide (x = y)) ∧ h = [] := by
  have h1 := same3_ok x.keys y.keys ha hb
  obtain ⟨p, z, ks⟩ := x
  obtain ⟨p', z', ks'⟩ := y
  simp only at *
  refine fnC lay_ok func21 rfl rfl rfl rfl rfl ?_
  repeat' first | refine wr (by omega) ?_ | refine ln ?_ | refine stp lay_ok rfl ?_ | refine fin ?_ | refine n_thn ?_ | refine n_blk ?_ | refine e_thn ?_ | refine e_hit ?_ | refine e_miss rfl ?_ | refine r_thn ?_ | refine r_blk ?_ | refine e_rr ?_ | refine r_rr ?_ | refine e_cr ?_ | refine r_cr ?_ | refine .seq ?_ | refine reg ?_ | refine .block ?_ | refine .skip ?_ | refine .ret ?_ | refine .exit ?_ | refine cndT rfl ?_ | refine cndF rfl ?_ | refine c_dec rfl (fun hc => ?_) (fun hc => ?_) | refine c_ndec rfl (fun hc => ?_) (fun hc => ?_) | refine cnd rfl (fun hc => ?_) (fun hc => ?_) | ((first | refine o_none rfl ?_ | refine o_none_ ?_ | refine o_yes rfl rfl rfl ?_ | refine o_yes_ rfl rfl ?_); first | refine st_pure (h1) b22 rfl rfl rfl rfl ?_) | refine gd rfl rfl rfl (fun hg => ?_) (fun hg => ?_) | refine gn rfl rfl rfl (fun hg => ?_) (fun hg => ?_) | refine dwr (by omega) ?_ | refine dwl ?_ | refine dws lay_ok rfl rfl rfl rfl rfl rfl rfl ?_ | refine dwu lay_ok rfl rfl rfl rfl rfl rfl rfl rfl rfl ?_ | refine dw_end ?_ | refine dw_skip rfl rfl rfl ?_ | refine dwn lay_ok rfl rfl rfl rfl rfl ?_ | refine dwb rfl rfl rfl rfl rfl (by (first | refine st_pure (h1) b22 rfl rfl rfl rfl ?_); exact fin rfl) rfl rfl ?_ | refine dwg rfl rfl rfl rfl rfl (by (first | refine st_pure (h1) b22 rfl rfl rfl rfl ?_); exact fin rfl) rfl rfl rfl rfl rfl ?_ | refine dw_dec rfl rfl rfl (fun hg => ?_) (fun hg => ?_) | refine dw_ndec rfl rfl rfl (fun hg => ?_) (fun hg => ?_)
  all_goals
    refine f_r [] rfl trivial rfl ⟨?_, rfl⟩
    simp_all [retOf, B]
theorem sameAll_ok (a b : List EV) (ha : a.length ≤ 4000000000) (hb : b.length ≤ 4000000000) (ga : ∀ e ∈ a, e.keys.length ≤ 4000000000) (gb : ∀ e ∈ b, e.keys.length ≤ 4000000000) : ACalls prog 15 0 [.st (.sl 3 (a.map rowE)), .st (.sl 3 (b.map rowE))] [] fun r h => r = B (decide (a = b)) ∧ h = [] := by
  have hma : (List.map rowE a).length = a.length := List.length_map _
  have hmb : (List.map rowE b).length = b.length := List.length_map _
  refine fnC lay_ok func15 rfl rfl rfl rfl rfl ?_
  repeat' first | refine wr (by omega) ?_ | refine ln ?_ | refine stp lay_ok rfl ?_ | refine fin ?_ | refine n_thn ?_ | refine n_blk ?_ | refine e_thn ?_ | refine e_hit ?_ | refine e_miss rfl ?_ | refine r_thn ?_ | refine r_blk ?_ | refine e_rr ?_ | refine r_rr ?_ | refine e_cr ?_ | refine r_cr ?_ | refine .seq ?_ | refine reg ?_ | refine .block ?_ | refine .skip ?_ | refine .ret ?_ | refine .exit ?_ | refine cndT rfl ?_ | refine cndF rfl ?_ | refine c_dec rfl (fun hc => ?_) (fun hc => ?_) | refine c_ndec rfl (fun hc => ?_) (fun hc => ?_) | refine cnd rfl (fun hc => ?_) (fun hc => ?_) | refine gd rfl rfl rfl (fun hg => ?_) (fun hg => ?_) | refine gn rfl rfl rfl (fun hg => ?_) (fun hg => ?_) | refine dwr (by omega) ?_ | refine dwl ?_ | refine dws lay_ok rfl rfl rfl rfl rfl rfl rfl ?_ | refine dwu lay_ok rfl rfl rfl rfl rfl rfl rfl rfl rfl ?_ | refine dw_end ?_ | refine dw_skip rfl rfl rfl ?_ | refine dwn lay_ok rfl rfl rfl rfl rfl ?_ | refine dw_dec rfl rfl rfl (fun hg => ?_) (fun hg => ?_) | refine dw_ndec rfl rfl rfl (fun hg => ?_) (fun hg => ?_)
  · refine f_r [] rfl trivial rfl ⟨?_, rfl⟩
    rw [decide_eq_false (by rintro rfl; omega)]; rfl
  · have hl : a.length = b.length := by omega
    refine lpR (fun k => k ≤ a.length ∧ ∀ j (h1 : j < a.length) (h2 : j < b.length), j < k → a[j] = b[j]) (fun k => a.length - k) (fun k => [(5, I k)]) (fun k => []) (0) [0, 1] [] [] rfl rfl rfl (.of [] (by (repeat' first | exact trivial | refine And.intro ?_ ?_ | rfl); first | done | fail) (by (repeat' first | exact trivial | refine And.intro ?_ ?_ | rfl); first | done | fail) rfl) ?_ ?_
    · exact ⟨Nat.zero_le _, fun j h1 h2 h3 => by omega⟩
    rintro k ⟨hk, hall⟩
    refine nrm rfl rfl ?_
    repeat' first | refine wr (by omega) ?_ | refine ln ?_ | refine stp lay_ok rfl ?_ | refine fin ?_ | refine n_thn ?_ | refine n_blk ?_ | refine e_thn ?_ | refine e_hit ?_ | refine e_miss rfl ?_ | refine r_thn ?_ | refine r_blk ?_ | refine e_rr ?_ | refine r_rr ?_ | refine e_cr ?_ | refine r_cr ?_ | refine .seq ?_ | refine reg ?_ | refine .block ?_ | refine .skip ?_ | refine .ret ?_ | refine .exit ?_ | refine cndT rfl ?_ | refine cndF rfl ?_ | refine c_dec rfl (fun hc => ?_) (fun hc => ?_) | refine c_ndec rfl (fun hc => ?_) (fun hc => ?_) | refine cnd rfl (fun hc => ?_) (fun hc => ?_) | refine gd rfl rfl rfl (fun hg => ?_) (fun hg => ?_) | refine gn rfl rfl rfl (fun hg => ?_) (fun hg => ?_) | refine dwr (by omega) ?_ | refine dwl ?_ | refine dws lay_ok rfl rfl rfl rfl rfl rfl rfl ?_ | refine dwu lay_ok rfl rfl rfl rfl rfl rfl rfl rfl rfl ?_ | refine dw_end ?_ | refine dw_skip rfl rfl rfl ?_ | refine dwn lay_ok rfl rfl rfl rfl rfl ?_ | refine dw_dec rfl rfl rfl (fun hg => ?_) (fun hg => ?_) | refine dw_ndec rfl rfl rfl (fun hg => ?_) (fun hg => ?_)
    · have hka : k < a.length := by omega
      have hkb : k < b.length := by omega
      have hat := at_rowE hka
      have hbt := at_rowE hkb
      have h1 := same4_ok a[k] b[k] (ga _ (List.getElem_mem hka)) (gb _ (List.getElem_mem hkb))
      by_cases he : a[k] = b[k]
      · rw [decide_eq_true he] at h1
        refine dreg [(0, [], [18, 21, 22, 23, 24]), (1, [], [17, 21, 22, 23, 24]), (2, [0, 1], [21, 22, 23, 24]), (3, [0, 1, 2], [21, 22, 23, 24]), (4, [], [17, 18, 19, 20, 22]), (5, [], [17, 18, 19, 20, 21]), (6, [4, 5], [17, 18, 19, 20]), (7, [4, 5, 6], [17, 18, 19, 20]), (8, [0, 1, 2, 3, 4, 5, 6, 7], []), (9, [0, 1, 2, 3, 4, 5, 6, 7, 8], [])] mixed (by kernel_rfl) ?_
        repeat' first | refine wr (by omega) ?_ | refine ln ?_ | refine stp lay_ok rfl ?_ | refine fin ?_ | refine n_thn ?_ | refine n_blk ?_ | refine e_thn ?_ | refine e_hit ?_ | refine e_miss rfl ?_ | refine r_thn ?_ | refine r_blk ?_ | refine e_rr ?_ | refine r_rr ?_ | refine e_cr ?_ | refine r_cr ?_ | refine .seq ?_ | refine reg ?_ | refine .block ?_ | refine .skip ?_ | refine .ret ?_ | refine .exit ?_ | refine cndT rfl ?_ | refine cndF rfl ?_ | refine c_dec rfl (fun hc => ?_) (fun hc => ?_) | refine c_ndec rfl (fun hc => ?_) (fun hc => ?_) | refine cnd rfl (fun hc => ?_) (fun hc => ?_) | ((first | refine o_none rfl ?_ | refine o_none_ ?_ | refine o_yes rfl rfl rfl ?_ | refine o_yes_ rfl rfl ?_); first | refine st_index (rowE a[k]) lay_ok rfl rfl rfl rfl (by omega) hat ?_ | refine st_index (rowE b[k]) lay_ok rfl rfl rfl rfl (by omega) hbt ?_ | refine st_pure (h1) b21 rfl rfl rfl rfl ?_) | refine gd rfl rfl rfl (fun hg => ?_) (fun hg => ?_) | refine gn rfl rfl rfl (fun hg => ?_) (fun hg => ?_) | refine dwr (by omega) ?_ | refine dwl ?_ | refine dws lay_ok rfl rfl rfl rfl rfl rfl rfl ?_ | refine dwu lay_ok rfl rfl rfl rfl rfl rfl rfl rfl rfl ?_ | refine dw_end ?_ | refine dw_skip rfl rfl rfl ?_ | refine dwn lay_ok rfl rfl rfl rfl rfl ?_ | refine dwb rfl rfl rfl rfl rfl (by (first | refine st_index (rowE a[k]) lay_ok rfl rfl rfl rfl (by omega) hat ?_ | refine st_index (rowE b[k]) lay_ok rfl rfl rfl rfl (by omega) hbt ?_ | refine st_pure (h1) b21 rfl rfl rfl rfl ?_); exact fin rfl) rfl rfl ?_ | refine dwg rfl rfl rfl rfl rfl (by (first | refine st_index (rowE a[k]) lay_ok rfl rfl rfl rfl (by omega) hat ?_ | refine st_index (rowE b[k]) lay_ok rfl rfl rfl rfl (by omega) hbt ?_ | refine st_pure (h1) b21 rfl rfl rfl rfl ?_); exact fin rfl) rfl rfl rfl rfl rfl ?_ | refine dw_dec rfl rfl rfl (fun hg => ?_) (fun hg => ?_) | refine dw_ndec rfl rfl rfl (fun hg => ?_) (fun hg => ?_)
        refine n_rr (k + 1) ?_ (.of [] (by (repeat' first | exact trivial | refine And.intro ?_ ?_ | rfl); first | done | fail) (by (repeat' first | exact trivial | refine And.intro ?_ ?_ | rfl); first | done | fail) rfl) ?_
        · omega
        · refine ⟨hka, fun j h1 h2 h3 => ?_⟩
          by_cases hj : j = k
          · subst hj; exact he
          · exact hall j h1 h2 (by omega)
      · rw [decide_eq_false he] at h1
        refine dreg [(0, [], [18, 21, 22, 23, 24]), (1, [], [17, 21, 22, 23, 24]), (2, [0, 1], [21, 22, 23, 24]), (3, [0, 1, 2], [21, 22, 23, 24]), (4, [], [17, 18, 19, 20, 22]), (5, [], [17, 18, 19, 20, 21]), (6, [4, 5], [17, 18, 19, 20]), (7, [4, 5, 6], [17, 18, 19, 20]), (8, [0, 1, 2, 3, 4, 5, 6, 7], []), (9, [0, 1, 2, 3, 4, 5, 6, 7, 8], [])] mixed (by kernel_rfl) ?_
        repeat' first | refine wr (by omega) ?_ | refine ln ?_ | refine stp lay_ok rfl ?_ | refine fin ?_ | refine n_thn ?_ | refine n_blk ?_ | refine e_thn ?_ | refine e_hit ?_ | refine e_miss rfl ?_ | refine r_thn ?_ | refine r_blk ?_ | refine e_rr ?_ | refine r_rr ?_ | refine e_cr ?_ | refine r_cr ?_ | refine .seq ?_ | refine reg ?_ | refine .block ?_ | refine .skip ?_ | refine .ret ?_ | refine .exit ?_ | refine cndT rfl ?_ | refine cndF rfl ?_ | refine c_dec rfl (fun hc => ?_) (fun hc => ?_) | refine c_ndec rfl (fun hc => ?_) (fun hc => ?_) | refine cnd rfl (fun hc => ?_) (fun hc => ?_) | ((first | refine o_none rfl ?_ | refine o_none_ ?_ | refine o_yes rfl rfl rfl ?_ | refine o_yes_ rfl rfl ?_); first | refine st_index (rowE a[k]) lay_ok rfl rfl rfl rfl (by omega) hat ?_ | refine st_index (rowE b[k]) lay_ok rfl rfl rfl rfl (by omega) hbt ?_ | refine st_pure (h1) b21 rfl rfl rfl rfl ?_) | refine gd rfl rfl rfl (fun hg => ?_) (fun hg => ?_) | refine gn rfl rfl rfl (fun hg => ?_) (fun hg => ?_) | refine dwr (by omega) ?_ | refine dwl ?_ | refine dws lay_ok rfl rfl rfl rfl rfl rfl rfl ?_ | refine dwu lay_ok rfl rfl rfl rfl rfl rfl rfl rfl rfl ?_ | refine dw_end ?_ | refine dw_skip rfl rfl rfl ?_ | refine dwn lay_ok rfl rfl rfl rfl rfl ?_ | refine dwb rfl rfl rfl rfl rfl (by (first | refine st_index (rowE a[k]) lay_ok rfl rfl rfl rfl (by omega) hat ?_ | refine st_index (rowE b[k]) lay_ok rfl rfl rfl rfl (by omega) hbt ?_ | refine st_pure (h1) b21 rfl rfl rfl rfl ?_); exact fin rfl) rfl rfl ?_ | refine dwg rfl rfl rfl rfl rfl (by (first | refine st_index (rowE a[k]) lay_ok rfl rfl rfl rfl (by omega) hat ?_ | refine st_index (rowE b[k]) lay_ok rfl rfl rfl rfl (by omega) hbt ?_ | refine st_pure (h1) b21 rfl rfl rfl rfl ?_); exact fin rfl) rfl rfl rfl rfl rfl ?_ | refine dw_dec rfl rfl rfl (fun hg => ?_) (fun hg => ?_) | refine dw_ndec rfl rfl rfl (fun hg => ?_) (fun hg => ?_)
        refine f_r [] rfl trivial rfl ⟨?_, rfl⟩
        rw [decide_eq_false (fun e => he (by subst e; rfl))]; rfl
    · refine f_r [] rfl trivial rfl ⟨?_, rfl⟩
      rw [decide_eq_true (list_ext hl fun j h1 h2 => hall j h1 h2 (by omega))]; rfl
end Go.Proofs.YtmekcbbieacioaaGreatDoorFn
namespace Go.Proofs.YtmekcbbieacioaaGreatDoorFn
open Go.Proofs.YtmekcbbieacioaaGreatDoorAl Go.Proofs.Tryz
theorem ext_drop (s : ByteArray) (a : Nat) : (s.extract a s.size).data.toList = s.data.toList.drop a := by
  rw [ext_list, List.take_of_length_le (by rw [Array.length_toList]; exact Nat.le_refl _)]
end Go.Proofs.YtmekcbbieacioaaGreatDoorFn
namespace Go.Proofs.YtmekcbbieacioaaGreatDoorFn
open Go.Proofs.YtmekcbbieacioaaGreatDoorAl Go.Proofs.Tryz
def aheadB (l : List EV) (i : Nat) (p : ByteArray) : Bool := decide (0 < i) && (match l[i - 1]? with | some x => !strLt x.path p | none => false)
theorem entryC_eq (l : List EV) (i : Nat) (e : EV) : entryC l i e = if pathOk e.path then (if (aheadB l i e.path || (l.take i).any (fun x => under x.path e.path)) = true then some 4 else if wholeB e then none else some 1) else some 2 := rfl
end Go.Proofs.YtmekcbbieacioaaGreatDoorFn
namespace Go.Proofs.YtmekcbbieacioaaGreatDoorFn
open Go.Proofs.YtmekcbbieacioaaGreatDoorAl Go.Proofs.Tryz
/-! ### what was built is a tree, and restored -/
theorem lenG_le64 (c : CV) (s : ByteArray) (h : c.ok = true) : c.len s ≤ 64 := by
  simp only [CV.ok, Bool.and_eq_true, decide_eq_true_eq] at h
  have := lenG_le s c.mn.toNat c.ms.toNat (min s.size c.mx.toNat) (min s.size c.mx.toNat) (Nat.le_refl _)
  unfold CV.len
  omega
theorem empty_of {s : ByteArray} (h : s.size = 0) : s = ⟨#[]⟩ := by
  apply ByteArray.ext
  exact Array.eq_empty_of_size_eq_zero h
theorem joinB_cons (x : ByteArray) (r : List ByteArray) : joinB (x :: r) = x ++ joinB r := by
  apply ByteArray.ext
  apply Array.toList_inj.1
  rw [ByteArray.data_append, Array.toList_append]
  unfold joinB
  simp
theorem cut_eq (s : ByteArray) (k : Nat) (h : k ≤ s.size) : s.extract 0 k ++ s.extract k s.size = s := by
  apply ByteArray.ext
  apply Array.toList_inj.1
  rw [ByteArray.data_append, Array.toList_append, ext_list, ext_drop]
  rw [List.drop_zero]
  simp
theorem split_keys (c : CV) (hc : c.ok = true) : ∀ (n : Nat) (s : ByteArray), s.size ≤ n → (c.split n s).all keyOk = true ∧ joinB (c.split n s) = s
  | 0, s, h => by
    have hs : s.size = 0 := by omega
    rw [empty_of hs]
    exact ⟨rfl, rfl⟩
  | n + 1, s, h => by
    unfold CV.split
    by_cases hs : s.size = 0
    · rw [if_pos hs, empty_of hs]
      exact ⟨rfl, rfl⟩
    · rw [if_neg hs]
      obtain ⟨h1, h2⟩ := c.len_le s hc (by omega)
      have h3 := lenG_le64 c s hc
      have hsz : (s.extract (c.len s) s.size).size ≤ n := by
        rw [ByteArray.size_extract]; omega
      obtain ⟨i1, i2⟩ := split_keys c hc n _ hsz
      refine ⟨?_, ?_⟩
      · rw [List.all_cons, i1, Bool.and_true]
        unfold keyOk
        rw [ByteArray.size_extract]
        simp; omega
      · rw [joinB_cons, i2]
        exact cut_eq s _ h2
theorem clashB_comm (a b : ByteArray) : clashB a b = clashB b a := by
  unfold clashB
  have : decide (a = b) = decide (b = a) := by
    by_cases h : a = b
    · subst h; rfl
    · rw [decide_eq_false h, decide_eq_false (fun e => h e.symm)]
  rw [this]
  cases decide (b = a) <;> cases under a b <;> cases under b a <;> rfl
theorem fileC_good {l : List FV} {i : Nat} {f : FV} (h : fileC l i f = none) : pathOk f.path = true ∧ f.bytes.size ≤ 1024 ∧ (l.take i).any (fun x => clashB x.path f.path) = false := by
  unfold fileC at h
  cases h1 : pathOk f.path with
  | false => rw [h1] at h; cases h
  | true =>
    rw [h1, if_pos rfl] at h
    by_cases h2 : 1024 < f.bytes.size
    · rw [if_pos h2] at h; cases h
    · rw [if_neg h2] at h
      cases h3 : (l.take i).any fun x => clashB x.path f.path with
      | true => rw [h3] at h; cases h
      | false => exact ⟨rfl, by omega, rfl⟩
theorem apart_clash {l : List FV} (hb : badFile l l.length 0 = none) {i j : Nat} (hi : i < l.length) (hj : j < l.length) (hij : i ≠ j) : clashB l[i].path l[j].path = false := by
  have key : ∀ {i j : Nat} (hi : i < l.length) (hj : j < l.length), i < j → clashB l[i].path l[j].path = false := fun {i j} hi hj hlt => by
    have h := (fileC_good (badFile_none l l.length 0 hb j (Nat.zero_le _) (by omega) hj)).2.2
    rw [List.any_eq_false] at h
    have := h l[i] (List.mem_take_iff_getElem.2 ⟨i, by omega, rfl⟩)
    simpa using this
  rcases Nat.lt_or_gt_of_ne hij with h | h
  · exact key hi hj h
  · rw [clashB_comm]; exact key hj hi h
theorem file_whole (c : CV) (hc : c.ok = true) (f : FV) (h : f.bytes.size ≤ 1024) : wholeB (fileE c f) = true := by
  obtain ⟨h1, h2⟩ := split_keys c hc f.bytes.size f.bytes (Nat.le_refl _)
  have h3 := join_tot (c.split f.bytes.size f.bytes)
  rw [h2] at h3
  unfold wholeB fileE
  simp only [h1, Bool.true_and, Bool.and_eq_true, decide_eq_true_eq]
  omega
theorem badFrom_of {l : List EV} (h : ∀ j (hj : j < l.length), entryC l j l[j] = none) : ∀ f i, badFrom l f i = none
  | 0, i => rfl
  | f + 1, i => by
    rw [badFrom]
    by_cases hi : i < l.length
    · rw [List.getElem?_eq_getElem hi]
      simp only [h i hi]
      exact badFrom_of h f (i + 1)
    · rw [List.getElem?_eq_none (by omega)]
theorem built_tree (l : List FV) (c : CV) (hc : c.ok = true) (hb : badFile l l.length 0 = none) : badFrom (srtE (l.map (fileE c))) (srtE (l.map (fileE c))).length 0 = none := by
  obtain ⟨k1, k2⟩ := srtE_facts (l.map (fileE c))
  have hone := one_path c hb
  generalize srtE (l.map (fileE c)) = T at *
  have hmem : ∀ i (hi : i < T.length), ∃ a, ∃ ha : a < l.length, T[i] = fileE c l[a] := fun i hi => by
    obtain ⟨f, hf, e⟩ := List.mem_map.1 (k1.mem_iff.1 (List.getElem_mem hi))
    obtain ⟨a, ha, rfl⟩ := List.getElem_of_mem hf
    exact ⟨a, ha, e.symm⟩
  have hnd : T.Nodup := by
    rw [k1.nodup_iff, List.nodup_iff_pairwise_ne, List.pairwise_iff_getElem]
    intro i j hi hj hij he
    simp only [List.length_map] at hi hj
    simp only [List.getElem_map] at he
    exact apart_paths hb hi hj hij (congrArg EV.path he)
  have hne : ∀ i j (hi : i < T.length) (hj : j < T.length), i < j → T[i].path ≠ T[j].path := fun i j hi hj hij he => by
    have := hone _ (k1.mem_iff.1 (List.getElem_mem hi)) _ (k1.mem_iff.1 (List.getElem_mem hj)) he
    exact List.pairwise_iff_getElem.1 (List.nodup_iff_pairwise_ne.1 hnd) i j hi hj hij this
  refine badFrom_of (fun j hj => ?_) _ _
  obtain ⟨b, hbl, e⟩ := hmem j hj
  have hg := fileC_good (badFile_none l l.length 0 hb b (Nat.zero_le _) (by omega) hbl)
  rw [entryC_eq]
  have hpt : pathOk T[j].path = true := by rw [e]; exact hg.1
  have hwt : wholeB T[j] = true := by rw [e]; exact file_whole c hc _ hg.2.1
  rw [if_pos hpt, hwt]
  have hah : aheadB T j T[j].path = false := by
    unfold aheadB
    by_cases h0 : 0 < j
    · rw [List.getElem?_eq_getElem (by omega)]
      have h1 := List.pairwise_iff_getElem.1 k2 (j - 1) j (by omega) hj (by omega)
      have h2 := hne (j - 1) j (by omega) hj (by omega)
      cases hs : strLt T[j - 1].path T[j].path with
      | true => simp [hs]
      | false =>
        exfalso
        have h3 : ltC cmE T[j - 1] T[j] = false := by
          rw [cmE_lt]
          have e1 : strLt T[j - 1].path T[j].path = decide (T[j - 1].path.data.toList < T[j].path.data.toList) := by rw [← Go.Proofs.bytesLess_eq]; rfl
          rw [e1] at hs
          exact hs
        exact h2 (path_eq h3 h1)
    · simp [h0]
  have hun : (T.take j).any (fun x => under x.path T[j].path) = false := by
    rw [List.any_eq_false]
    intro x hx
    obtain ⟨q, hq, rfl⟩ := List.mem_take_iff_getElem.1 hx
    have hqj : q < j := by omega
    obtain ⟨a, hal, e2⟩ := hmem q (by omega)
    have hab : a ≠ b := by
      rintro rfl
      exact hne q j (by omega) hj hqj (by rw [e2, e])
    have := apart_clash hb hal hbl hab
    unfold clashB at this
    simp only [Bool.or_eq_false_iff] at this
    rw [e2, e]
    simpa [fileE] using this.1.2
  rw [hah, hun]
  simp
theorem back_file (c : CV) (hc : c.ok = true) (f : FV) : backF (fileE c f) = f := by
  unfold backF fileE
  simp only
  rw [(split_keys c hc f.bytes.size f.bytes (Nat.le_refl _)).2]
end Go.Proofs.YtmekcbbieacioaaGreatDoorFn
namespace Go.Proofs.YtmekcbbieacioaaGreatDoorFn
open Go.Proofs.YtmekcbbieacioaaGreatDoorAl Go.Proofs.Tryz
def allK (T : List EV) : List ByteArray := T.flatMap (·.keys)
theorem allK_take {T : List EV} {k : Nat} (h : k < T.length) : allK (T.take (k + 1)) = allK (T.take k) ++ T[k].keys := by
  unfold allK
  rw [List.take_succ_eq_append_getElem h, List.flatMap_append]; simp
theorem allK_len (T : List EV) (n : Nat) (h : ∀ e ∈ T, e.keys.length ≤ n) : (allK T).length ≤ T.length * n := by
  induction T with
  | nil => simp [allK]
  | cons e r ih =>
    have h1 := ih (fun x hx => h x (List.mem_cons_of_mem _ hx))
    have h2 := h e List.mem_cons_self
    have e1 : allK (e :: r) = e.keys ++ allK r := by unfold allK; rw [List.flatMap_cons]
    rw [e1, List.length_append, List.length_cons, Nat.add_mul]
    omega
def restL (A : List ByteArray) (g : ByteArray) : List ByteArray := A.filter fun x => !decide (x = g)
theorem restL_take {A : List ByteArray} {k : Nat} (g : ByteArray) (h : k < A.length) : restL (A.take (k + 1)) g = restL (A.take k) g ++ (if A[k] = g then [] else [A[k]]) := by
  unfold restL
  rw [List.take_succ_eq_append_getElem h, List.filter_append]
  congr 1
  by_cases hg : A[k] = g
  · rw [if_pos hg]; simp [List.filter_cons, hg]
  · rw [if_neg hg]; simp [List.filter_cons, hg]
theorem memB_rest (A : List ByteArray) (g x : ByteArray) (hx : memB x A = true) : (!memB x (restL A g)) = decide (g = x) := by
  have hA := memB_iff.1 hx
  by_cases hg : g = x
  · subst hg
    rw [decide_eq_true rfl]
    cases h : memB g (restL A g) with
    | false => rfl
    | true =>
      have := memB_iff.1 h
      unfold restL at this
      have := (List.mem_filter.1 this).2
      simp at this
  · rw [decide_eq_false hg]
    have : memB x (restL A g) = true := memB_iff.2 (by
      unfold restL
      exact List.mem_filter.2 ⟨hA, by simp; exact fun h => hg h.symm⟩)
    rw [this]; rfl
theorem lost_mem {T : List EV} {g : ByteArray} {e : EV} (he : e ∈ T) : lostB (restL (allK T) g) e = memB g e.keys := by
  unfold lostB memB
  rw [Bool.eq_iff_iff, List.any_eq_true, List.any_eq_true]
  have hin : ∀ k ∈ e.keys, memB k (allK T) = true := fun k hk => memB_iff.2 (List.mem_flatMap.2 ⟨e, he, hk⟩)
  constructor
  · rintro ⟨k, hk, h⟩
    refine ⟨k, hk, ?_⟩
    rw [← memB_rest (allK T) g k (hin k hk)]; exact h
  · rintro ⟨k, hk, h⟩
    refine ⟨k, hk, ?_⟩
    have := memB_rest (allK T) g k (hin k hk)
    unfold memB at this
    rw [this]; exact h
theorem lostAt_first (cs : List ByteArray) (p : EV → Bool) : ∀ (T : List EV) (i : Nat), (∀ e ∈ T, lostB cs e = p e) → (∃ e ∈ T, p e = true) → ∃ w, ∃ h : w < T.length, lostAt cs T i = some (i + w) ∧ p T[w] = true ∧ ∀ j (hj : j < w), p (T[j]'(by omega)) = false
  | [], i, _, ⟨e, h, _⟩ => by cases h
  | e :: r, i, h1, h2 => by
    unfold lostAt
    rw [h1 e List.mem_cons_self]
    cases hp : p e with
    | true => exact ⟨0, by simp, by simp, by simpa using hp, fun j hj => by omega⟩
    | false =>
      rw [if_neg (by simp)]
      obtain ⟨x, hx, hpx⟩ := h2
      rcases List.mem_cons.1 hx with rfl | hx
      · rw [hp] at hpx; cases hpx
      obtain ⟨w, hw, e1, e2, e3⟩ := lostAt_first cs p r (i + 1) (fun e he => h1 e (List.mem_cons_of_mem _ he)) ⟨x, hx, hpx⟩
      refine ⟨w + 1, by simp; omega, by rw [e1]; congr 1; omega, by simpa using e2, fun j hj => ?_⟩
      cases j with
      | zero => simpa using hp
      | succ j => simpa using e3 j (by omega)
theorem rem_nat (m : Int) (n : Nat) (hm : 0 ≤ m) (hn : 0 < n) : ∃ g : Nat, g < n ∧ divI .rem .i64 m (n : Int) = some (.int .i64 (g : Int)) := by
  obtain ⟨k, rfl⟩ : ∃ k : Nat, m = k := ⟨m.toNat, by omega⟩
  refine ⟨k % n, Nat.mod_lt _ hn, ?_⟩
  simp only [divI]
  rfl
theorem i64_wf {n : Int} (h : (Lit.int .i64 n).wf = true) : -9223372036854775808 ≤ n ∧ n ≤ 9223372036854775807 := by
  simpa [Lit.wf, IntKind.min, IntKind.max, IntKind.signed, IntKind.bits] using h
theorem srt_paths (l : List FV) (c : CV) (n : Nat) (h : ∀ e ∈ l, e.path.size ≤ n) : ∀ e ∈ srtE (l.map (fileE c)), e.path.size ≤ n := fun e he => by
  obtain ⟨f, hf, rfl⟩ := List.mem_map.1 ((srtE_facts (l.map (fileE c))).1.mem_iff.1 he)
  exact h f hf
theorem srt_keys (l : List FV) (c : CV) (hb : badFile l l.length 0 = none) : ∀ e ∈ srtE (l.map (fileE c)), e.keys.length ≤ 1024 := fun e he => by
  obtain ⟨f, hf, rfl⟩ := List.mem_map.1 ((srtE_facts (l.map (fileE c))).1.mem_iff.1 he)
  obtain ⟨i, hi, rfl⟩ := List.getElem_of_mem hf
  have := (fileC_good (badFile_none l l.length 0 hb i (Nat.zero_le _) (by omega) hi)).2.1
  exact Nat.le_trans (c.split_len _ _) this
end Go.Proofs.YtmekcbbieacioaaGreatDoorFn
namespace Go.Proofs.YtmekcbbieacioaaGreatDoorFn
open Go.Proofs.YtmekcbbieacioaaGreatDoorAl Go.Proofs.Tryz Go.ChangeAt Go.RowKit
/-! ### what arguments of the laws' types read as -/
abbrev ΦI (xs : List SV) : Prop := ∃ n, xs = [.int .i64 n] ∧ (Lit.int .i64 n).wf = true
theorem rdI : Rd prog 3 ΦI := rd_int underlying3
abbrev ΦU8 (xs : List SV) : Prop := ∃ n, xs = [.int .u8 n] ∧ (Lit.int .u8 n).wf = true
theorem rdU8 : Rd prog 5 ΦU8 := rd_int underlying5
abbrev ΦB (xs : List SV) : Prop := ∃ b, xs = [.bool b]
theorem rdB : Rd prog 4 ΦB := rd_bool underlying4
abbrev ΦS (xs : List SV) : Prop := ∃ s : ByteArray, xs = [.str s] ∧ s.size ≤ reachBytes
theorem rdS : Rd prog 9 ΦS := rd_str underlying9
abbrev ΦL (sz bytes : Nat) (Φ : List SV → Prop) (xs : List SV) : Prop := ∃ rows, xs = [.sl sz rows] ∧ (∀ row ∈ rows, Φ row) ∧ rows.length * bytes ≤ reachBytes
theorem rdLB : Rd prog 131 (ΦL 1 1 ΦU8) := rd_slice underlying131 (by kernel_rfl) (by kernel_rfl) rfl rdU8
theorem rdLS : Rd prog 39 (ΦL 1 16 ΦS) := rd_slice underlying39 (by kernel_rfl) (by kernel_rfl) rfl rdS
theorem cI : prog.cellsOf 3 = 1 := by kernel_rfl
theorem cB : prog.cellsOf 4 = 1 := by kernel_rfl
theorem cS : prog.cellsOf 9 = 1 := by kernel_rfl
theorem cLS : prog.cellsOf 39 = 1 := by kernel_rfl
theorem cE : prog.cellsOf 41 = 3 := by kernel_rfl
theorem cLE : prog.cellsOf 27 = 1 := by kernel_rfl
abbrev ΦE : List SV → Prop := Pieces [ΦS, ΦI, ΦL 1 16 ΦS]
theorem rdE : Rd prog 41 ΦE := rd_struct underlying41 ⟨rfl, rdS, by rw [cS], rdI, by rw [cI, cS], rdLS, by rw [cE, cI, cS, cLS]; rfl⟩
theorem rdLE : Rd prog 27 (ΦL 3 48 ΦE) := rd_slice underlying27 (by kernel_rfl) (by kernel_rfl) rfl rdE
/-- What is true of whatever a reader of memory brings: sizes that memory has room for. -/
def EV.inMem (e : EV) : Prop := e.path.size ≤ reachBytes ∧ e.keys.length * 16 ≤ reachBytes ∧ ∀ k ∈ e.keys, k.size ≤ reachBytes
theorem ofSs {rows : List (List SV)} (h : ∀ row ∈ rows, ΦS row) : ∃ l : List ByteArray, rows = l.map rowS ∧ ∀ s ∈ l, s.size ≤ reachBytes :=
  rows_map (f := rowS) (Ok := fun s => s.size ≤ reachBytes) h
theorem ofE {xs : List SV} (h : ΦE xs) : ∃ e : EV, xs = rowE e ∧ e.inMem := by
  obtain ⟨_, _, rfl, ⟨p, rfl, hp⟩, _, _, rfl, ⟨z, rfl, _⟩, _, _, rfl, ⟨rows, rfl, hr, hl⟩, rfl⟩ := h
  obtain ⟨l, rfl, hs⟩ := ofSs hr
  exact ⟨⟨p, z, l⟩, rfl, hp, by simpa using hl, hs⟩
/-! ### files and cuts -/
theorem cF : prog.cellsOf 58 = 2 := by kernel_rfl
abbrev ΦF : List SV → Prop := Pieces [ΦS, ΦS]
theorem rdF : Rd prog 58 ΦF := rd_struct underlying58 ⟨rfl, rdS, by rw [cS], rdS, by rw [cF, cS]; rfl⟩
theorem rdLF : Rd prog 22 (ΦL 2 32 ΦF) := rd_slice underlying22 (by kernel_rfl) (by kernel_rfl) rfl rdF
theorem cC : prog.cellsOf 24 = 3 := by kernel_rfl
abbrev ΦC : List SV → Prop := Pieces [ΦI, ΦI, ΦI]
theorem rdC : Rd prog 24 ΦC := rd_struct underlying24 ⟨rfl, rdI, by rw [cI], rdI, by rw [cI], rdI, by rw [cC, cI]; rfl⟩
end Go.Proofs.YtmekcbbieacioaaGreatDoorFn
namespace Go.Proofs.YtmekcbbieacioaaGreatDoorFn
open Go.Proofs.YtmekcbbieacioaaGreatDoorAl Go.Proofs.Tryz Go.ChangeAt Go.RowKit
/-! ### what files and cuts read as -/
def FV.inMem (e : FV) : Prop := e.path.size ≤ reachBytes ∧ e.bytes.size ≤ reachBytes
theorem ofF {xs : List SV} (h : ΦF xs) : ∃ e : FV, xs = rowF e ∧ e.inMem := by
  obtain ⟨_, _, rfl, ⟨p, rfl, hp⟩, _, _, rfl, ⟨z, rfl, hz⟩, rfl⟩ := h
  exact ⟨⟨p, z⟩, rfl, hp, hz⟩
theorem ofC {xs : List SV} (h : ΦC xs) : ∃ c : CV, xs = [.int .i64 c.mn, .int .i64 c.mx, .int .i64 c.ms] := by
  obtain ⟨_, _, rfl, ⟨a, rfl, _⟩, _, _, rfl, ⟨b, rfl, _⟩, _, _, rfl, ⟨m, rfl, _⟩, rfl⟩ := h
  exact ⟨⟨a, b, m⟩, rfl⟩
end Go.Proofs.YtmekcbbieacioaaGreatDoorFn
namespace Go.Proofs.YtmekcbbieacioaaGreatDoorFn
open Go.Proofs.YtmekcbbieacioaaGreatDoorAl Go.Proofs.Tryz
attribute [local irreducible] IntKind.wrap CodeOk OpsL OpG ACalls thn inBlk rndR cutR WkR Wk fnR DW ExtOk partsOf
theorem b16 : HasBody prog 16 := ⟨f16, func16, Option.some_ne_none _, by decide⟩
def shortK (l : List ByteArray) : Bool := l.all fun k => decide (k.size ≤ 2000)
def shortV (e : EV) : Bool := decide (e.path.size ≤ 2000) && decide (e.keys.length ≤ 1200) && shortK e.keys
def shortE (l : List EV) : Bool := decide (l.length ≤ 100) && l.all shortV
set_option maxRecDepth 4000 in
theorem short4_ok (l : List EV) : ACalls prog 16 0 [.st (.sl 3 (l.map rowE))] [] fun r h => r = B (shortE l) ∧ h = [] := by
  have hm : (List.map rowE l).length = l.length := List.length_map _
  have hW : shortE l = (decide (l.length ≤ 100) && l.all shortV) := rfl
  generalize shortE l = W at *
  refine fnC lay_ok func16 rfl rfl rfl rfl rfl ?_
  repeat' first | refine wr (by omega) ?_ | refine ln ?_ | refine stp lay_ok rfl ?_ | refine fin ?_ | refine n_thn ?_ | refine n_blk ?_ | refine e_thn ?_ | refine e_hit ?_ | refine e_miss rfl ?_ | refine r_thn ?_ | refine r_blk ?_ | refine e_rr ?_ | refine r_rr ?_ | refine e_cr ?_ | refine r_cr ?_ | refine .seq ?_ | refine reg ?_ | refine .block ?_ | refine .skip ?_ | refine .ret ?_ | refine .exit ?_ | refine cndT rfl ?_ | refine cndF rfl ?_ | refine c_dec rfl (fun hc => ?_) (fun hc => ?_) | refine c_ndec rfl (fun hc => ?_) (fun hc => ?_) | refine cnd rfl (fun hc => ?_) (fun hc => ?_) | refine gd rfl rfl rfl (fun hg => ?_) (fun hg => ?_) | refine gn rfl rfl rfl (fun hg => ?_) (fun hg => ?_)
  · refine f_r [] rfl trivial rfl ⟨?_, rfl⟩
    rw [hW, decide_eq_false (by omega)]; rfl
  have h100 : l.length ≤ 100 := by omega
  rw [decide_eq_true h100, Bool.true_and] at hW
  refine lpR (fun k => k ≤ l.length ∧ (l.take k).all shortV = true) (fun k => l.length - k) (fun k => [(3, I k)]) (fun k => []) (0) [0] [] [] rfl rfl rfl (.of [] (by (repeat' first | exact trivial | refine And.intro ?_ ?_ | rfl); first | done | fail) (by (repeat' first | exact trivial | refine And.intro ?_ ?_ | rfl); first | done | fail) rfl) ?_ ?_
  · exact ⟨Nat.zero_le _, rfl⟩
  rintro k ⟨h1, h2⟩
  refine nrm rfl rfl ?_
  by_cases hk : k < l.length
  case neg =>
    have hke : k = l.length := by omega
    subst hke
    rw [List.take_length] at h2
    repeat' first | refine wr (by omega) ?_ | refine ln ?_ | refine stp lay_ok rfl ?_ | refine fin ?_ | refine n_thn ?_ | refine n_blk ?_ | refine e_thn ?_ | refine e_hit ?_ | refine e_miss rfl ?_ | refine r_thn ?_ | refine r_blk ?_ | refine e_rr ?_ | refine r_rr ?_ | refine e_cr ?_ | refine r_cr ?_ | refine .seq ?_ | refine reg ?_ | refine .block ?_ | refine .skip ?_ | refine .ret ?_ | refine .exit ?_ | refine cndT rfl ?_ | refine cndF rfl ?_ | refine c_dec rfl (fun hc => ?_) (fun hc => ?_) | refine c_ndec rfl (fun hc => ?_) (fun hc => ?_) | refine cnd rfl (fun hc => ?_) (fun hc => ?_) | refine gd rfl rfl rfl (fun hg => ?_) (fun hg => ?_) | refine gn rfl rfl rfl (fun hg => ?_) (fun hg => ?_)
    all_goals first
      | (exfalso; omega)
      | (refine f_r [] rfl trivial rfl ⟨?_, rfl⟩; rw [hW, h2]; rfl)
  have hat := at_rowE hk
  have ha := all_take (p := shortV) hk
  have hna := all_not (p := shortV) hk
  have hsv : shortV l[k] = (decide (l[k].path.size ≤ 2000) && decide (l[k].keys.length ≤ 1200) && shortK l[k].keys) := rfl
  generalize l[k] = e at *
  obtain ⟨p, z, ks⟩ := e
  simp only at hsv
  generalize shortV ⟨p, z, ks⟩ = V at *
  have hmk : (List.map rowS ks).length = ks.length := List.length_map _
  by_cases hc1 : p.size ≤ 2000 ∧ ks.length ≤ 1200
  case neg =>
    have hV : V = false := by
      rw [hsv]
      rcases Nat.lt_or_ge 2000 p.size with h | h
      · rw [decide_eq_false (by omega)]; rfl
      · rw [decide_eq_false (p := ks.length ≤ 1200) (by omega)]; simp
    have hWf := hW.trans (hna hV)
    repeat' first | refine wr (by omega) ?_ | refine ln ?_ | refine stp lay_ok rfl ?_ | refine fin ?_ | refine n_thn ?_ | refine n_blk ?_ | refine e_thn ?_ | refine e_hit ?_ | refine e_miss rfl ?_ | refine r_thn ?_ | refine r_blk ?_ | refine e_rr ?_ | refine r_rr ?_ | refine e_cr ?_ | refine r_cr ?_ | refine .seq ?_ | refine reg ?_ | refine .block ?_ | refine .skip ?_ | refine .ret ?_ | refine .exit ?_ | refine cndT rfl ?_ | refine cndF rfl ?_ | refine c_dec rfl (fun hc => ?_) (fun hc => ?_) | refine c_ndec rfl (fun hc => ?_) (fun hc => ?_) | refine cnd rfl (fun hc => ?_) (fun hc => ?_) | ((first | refine o_none rfl ?_ | refine o_none_ ?_ | refine o_yes rfl rfl rfl ?_ | refine o_yes_ rfl rfl ?_); first | refine st_index (rowE ⟨p, z, ks⟩) lay_ok rfl rfl rfl rfl (by omega) hat ?_) | refine gd rfl rfl rfl (fun hg => ?_) (fun hg => ?_) | refine gn rfl rfl rfl (fun hg => ?_) (fun hg => ?_)
    all_goals first
      | (exfalso; omega)
      | (refine f_r [] rfl trivial rfl ⟨?_, rfl⟩; rw [hWf]; rfl)
      | (exfalso; simp only at *; omega)
  rw [decide_eq_true hc1.1, decide_eq_true hc1.2, Bool.true_and, Bool.true_and] at hsv
  repeat' first | refine wr (by omega) ?_ | refine ln ?_ | refine stp lay_ok rfl ?_ | refine fin ?_ | refine n_thn ?_ | refine n_blk ?_ | refine e_thn ?_ | refine e_hit ?_ | refine e_miss rfl ?_ | refine r_thn ?_ | refine r_blk ?_ | refine e_rr ?_ | refine r_rr ?_ | refine e_cr ?_ | refine r_cr ?_ | refine .seq ?_ | refine reg ?_ | refine .block ?_ | refine .skip ?_ | refine .ret ?_ | refine .exit ?_ | refine cndT rfl ?_ | refine cndF rfl ?_ | refine c_dec rfl (fun hc => ?_) (fun hc => ?_) | refine c_ndec rfl (fun hc => ?_) (fun hc => ?_) | refine cnd rfl (fun hc => ?_) (fun hc => ?_) | ((first | refine o_none rfl ?_ | refine o_none_ ?_ | refine o_yes rfl rfl rfl ?_ | refine o_yes_ rfl rfl ?_); first | refine st_index (rowE ⟨p, z, ks⟩) lay_ok rfl rfl rfl rfl (by omega) hat ?_) | refine gd rfl rfl rfl (fun hg => ?_) (fun hg => ?_) | refine gn rfl rfl rfl (fun hg => ?_) (fun hg => ?_)
  all_goals first
    | (exfalso; omega)
    | (exfalso; simp only at *; omega)
    | skip
  refine lpR (fun j => j ≤ ks.length ∧ shortK (ks.take j) = true) (fun j => ks.length - j) (fun j => [(4, I j)]) (fun j => []) (0) [0, 3] [] [] rfl rfl rfl (.of [] (by (repeat' first | exact trivial | refine And.intro ?_ ?_ | rfl); first | done | fail) (by (repeat' first | exact trivial | refine And.intro ?_ ?_ | rfl); first | done | fail) rfl) ?_ ?_
  · exact ⟨Nat.zero_le _, rfl⟩
  rintro j ⟨j1, j2⟩
  refine nrm rfl rfl ?_
  by_cases hj : j < ks.length
  · have hatk := at_rowS hj
    have hak := all_take (p := fun k : ByteArray => decide (k.size ≤ 2000)) hj
    have hnk := all_not (p := fun k : ByteArray => decide (k.size ≤ 2000)) hj
    generalize ks[j] = x at *
    by_cases hx : x.size ≤ 2000
    · repeat' first | refine wr (by omega) ?_ | refine ln ?_ | refine stp lay_ok rfl ?_ | refine fin ?_ | refine n_thn ?_ | refine n_blk ?_ | refine e_thn ?_ | refine e_hit ?_ | refine e_miss rfl ?_ | refine r_thn ?_ | refine r_blk ?_ | refine e_rr ?_ | refine r_rr ?_ | refine e_cr ?_ | refine r_cr ?_ | refine .seq ?_ | refine reg ?_ | refine .block ?_ | refine .skip ?_ | refine .ret ?_ | refine .exit ?_ | refine cndT rfl ?_ | refine cndF rfl ?_ | refine c_dec rfl (fun hc => ?_) (fun hc => ?_) | refine c_ndec rfl (fun hc => ?_) (fun hc => ?_) | refine cnd rfl (fun hc => ?_) (fun hc => ?_) | ((first | refine o_none rfl ?_ | refine o_none_ ?_ | refine o_yes rfl rfl rfl ?_ | refine o_yes_ rfl rfl ?_); first | refine st_index (rowE ⟨p, z, ks⟩) lay_ok rfl rfl rfl rfl (by omega) hat ?_ | refine st_index (rowS x) lay_ok rfl rfl rfl rfl (by omega) hatk ?_) | refine gd rfl rfl rfl (fun hg => ?_) (fun hg => ?_) | refine gn rfl rfl rfl (fun hg => ?_) (fun hg => ?_)
      all_goals first
        | (exfalso; omega)
        | (exfalso; simp only at *; omega)
        | skip
      refine n_rr (j + 1) ?_ (.of [] (by (repeat' first | exact trivial | refine And.intro ?_ ?_ | rfl); first | done | fail) (by (repeat' first | exact trivial | refine And.intro ?_ ?_ | rfl); first | done | fail) rfl) ?_
      · omega
      · refine ⟨hj, ?_⟩
        show (List.take (j + 1) ks).all (fun k : ByteArray => decide (k.size ≤ 2000)) = true
        rw [hak, show (List.take j ks).all (fun k : ByteArray => decide (k.size ≤ 2000)) = true from j2, decide_eq_true hx]; rfl
    · have hkf : shortK ks = false := hnk (decide_eq_false hx)
      have hWf := hW.trans (hna (hsv.trans hkf))
      repeat' first | refine wr (by omega) ?_ | refine ln ?_ | refine stp lay_ok rfl ?_ | refine fin ?_ | refine n_thn ?_ | refine n_blk ?_ | refine e_thn ?_ | refine e_hit ?_ | refine e_miss rfl ?_ | refine r_thn ?_ | refine r_blk ?_ | refine e_rr ?_ | refine r_rr ?_ | refine e_cr ?_ | refine r_cr ?_ | refine .seq ?_ | refine reg ?_ | refine .block ?_ | refine .skip ?_ | refine .ret ?_ | refine .exit ?_ | refine cndT rfl ?_ | refine cndF rfl ?_ | refine c_dec rfl (fun hc => ?_) (fun hc => ?_) | refine c_ndec rfl (fun hc => ?_) (fun hc => ?_) | refine cnd rfl (fun hc => ?_) (fun hc => ?_) | ((first | refine o_none rfl ?_ | refine o_none_ ?_ | refine o_yes rfl rfl rfl ?_ | refine o_yes_ rfl rfl ?_); first | refine st_index (rowE ⟨p, z, ks⟩) lay_ok rfl rfl rfl rfl (by omega) hat ?_ | refine st_index (rowS x) lay_ok rfl rfl rfl rfl (by omega) hatk ?_) | refine gd rfl rfl rfl (fun hg => ?_) (fun hg => ?_) | refine gn rfl rfl rfl (fun hg => ?_) (fun hg => ?_)
      all_goals first
        | (exfalso; omega)
        | (exfalso; simp only at *; omega)
        | (refine f_r [] rfl trivial rfl ⟨?_, rfl⟩; rw [hWf]; rfl)
  · have hje : j = ks.length := by omega
    subst hje
    rw [List.take_length] at j2
    repeat' first | refine wr (by omega) ?_ | refine ln ?_ | refine stp lay_ok rfl ?_ | refine fin ?_ | refine n_thn ?_ | refine n_blk ?_ | refine e_thn ?_ | refine e_hit ?_ | refine e_miss rfl ?_ | refine r_thn ?_ | refine r_blk ?_ | refine e_rr ?_ | refine r_rr ?_ | refine e_cr ?_ | refine r_cr ?_ | refine .seq ?_ | refine reg ?_ | refine .block ?_ | refine .skip ?_ | refine .ret ?_ | refine .exit ?_ | refine cndT rfl ?_ | refine cndF rfl ?_ | refine c_dec rfl (fun hc => ?_) (fun hc => ?_) | refine c_ndec rfl (fun hc => ?_) (fun hc => ?_) | refine cnd rfl (fun hc => ?_) (fun hc => ?_) | ((first | refine o_none rfl ?_ | refine o_none_ ?_ | refine o_yes rfl rfl rfl ?_ | refine o_yes_ rfl rfl ?_); first | refine st_index (rowE ⟨p, z, ks⟩) lay_ok rfl rfl rfl rfl (by omega) hat ?_) | refine gd rfl rfl rfl (fun hg => ?_) (fun hg => ?_) | refine gn rfl rfl rfl (fun hg => ?_) (fun hg => ?_)
    all_goals first
      | (exfalso; omega)
      | (exfalso; simp only at *; omega)
      | skip
    refine n_rr (k + 1) ?_ (.of [] (by (repeat' first | exact trivial | refine And.intro ?_ ?_ | rfl); first | done | fail) (by (repeat' first | exact trivial | refine And.intro ?_ ?_ | rfl); first | done | fail) rfl) ?_
    · omega
    · exact ⟨hk, by rw [ha, h2, hsv, j2]; rfl⟩
theorem short_bounds' {l : List EV} (h : shortE l = true) : l.length ≤ 100 ∧ ∀ e ∈ l, e.path.size ≤ 2000 ∧ e.keys.length ≤ 1200 := by
  unfold shortE at h
  rw [Bool.and_eq_true, decide_eq_true_eq] at h
  refine ⟨h.1, fun e he => ?_⟩
  have := List.all_eq_true.1 h.2 e he
  unfold shortV at this
  simp only [Bool.and_eq_true, decide_eq_true_eq] at this
  exact this.1
end Go.Proofs.YtmekcbbieacioaaGreatDoorFn
namespace Go.Proofs.YtmekcbbieacioaaGreatDoorFn
open Go.Proofs.YtmekcbbieacioaaGreatDoorAl Go.Proofs.Tryz
attribute [local irreducible] IntKind.wrap CodeOk OpsL OpG ACalls thn inBlk rndR cutR WkR Wk fnR DW ExtOk partsOf
theorem b9 : HasBody prog 9 := ⟨f9, func9, Option.some_ne_none _, by decide⟩
/-! ### what is told may be changed: the statement -/
def blankE (e : EV) : EV := ⟨⟨#[]⟩, e.size, e.keys⟩
def blkR (T : List EV) (i : Nat) : List (List SV) := ((T.take i).map blankE ++ T.drop i).map rowE
theorem blkR_len (T : List EV) (i : Nat) (h : i ≤ T.length) : (blkR T i).length = T.length := by
  unfold blkR; simp; omega
theorem blk_at {α : Type} (f : α → α) {T : List α} {i : Nat} (h : i < T.length) : ((T.take i).map f ++ T.drop i)[i]? = some T[i] := by
  have e : ((T.take i).map f).length = i := by simp; omega
  rw [List.getElem?_append_right (by omega), e, Nat.sub_self, List.getElem?_drop, Nat.add_zero, List.getElem?_eq_getElem h]
theorem blk_set {α : Type} (f : α → α) {T : List α} {i : Nat} (h : i < T.length) : ((T.take i).map f ++ T.drop i).set i (f T[i]) = (T.take (i + 1)).map f ++ T.drop (i + 1) := by
  have e : ((T.take i).map f).length = i := by simp; omega
  rw [List.set_append_right _ _ (by omega), e, Nat.sub_self, List.drop_eq_getElem_cons h, List.set_cons_zero, List.take_succ_eq_append_getElem h, List.map_append, List.append_assoc]; rfl
theorem blkR_at {T : List EV} {i : Nat} (h : i < T.length) : (blkR T i)[0 + ((i : Nat) : Int).toNat]? = some (rowE T[i]) := by
  unfold blkR
  rw [Nat.zero_add, Int.toNat_natCast, List.getElem?_map, blk_at blankE h]; rfl
theorem blkR_set {T : List EV} {i : Nat} (h : i < T.length) : (blkR T i).set (0 + ((i : Nat) : Int).toNat) (rowE (blankE T[i])) = blkR T (i + 1) := by
  unfold blkR
  rw [Nat.zero_add, Int.toNat_natCast, ← List.map_set, blk_set blankE h]
def blkS (K : List ByteArray) (i : Nat) : List (List SV) := ((K.take i).map (fun _ => (⟨#[]⟩ : ByteArray)) ++ K.drop i).map rowS
theorem blkS_len (K : List ByteArray) (i : Nat) (h : i ≤ K.length) : (blkS K i).length = K.length := by
  unfold blkS; simp; omega
theorem blkS_at {K : List ByteArray} {i : Nat} (h : i < K.length) : (blkS K i)[0 + ((i : Nat) : Int).toNat]? = some (rowS K[i]) := by
  unfold blkS
  rw [Nat.zero_add, Int.toNat_natCast, List.getElem?_map, blk_at (fun _ => (⟨#[]⟩ : ByteArray)) h]; rfl
theorem blkS_set {K : List ByteArray} {i : Nat} (h : i < K.length) : (blkS K i).set (0 + ((i : Nat) : Int).toNat) (rowS ⟨#[]⟩) = blkS K (i + 1) := by
  unfold blkS
  rw [Nat.zero_add, Int.toNat_natCast, ← List.map_set]
  exact congrArg (List.map rowS) (blk_set (fun _ => (⟨#[]⟩ : ByteArray)) h)
set_option maxHeartbeats 4000000 in
theorem stays_no (o' : Obj) (l : List EV) (fs : List FV) (c : CV) (t : ByteArray) (a b : Bool) (hno : a = false ∨ b = false ∨ 2000 < t.size) (ht : t.size ≤ 140737488351232) (hu : ACalls prog 10 1 [] [(0, .fact 0 o')] fun r h => r = B true ∧ h = [(0, .fact 0 o')])
    (hs : ACalls prog 16 0 [.st (.sl 3 (l.map rowE))] [] fun r h => r = B a ∧ h = []) (hf : ACalls prog 11 0 [.st (.sl 2 (fs.map rowF))] [] fun r h => r = B b ∧ h = []) :
    ACalls prog 9 1 [.st (.sl 3 (l.map rowE)), .st (.sl 2 (fs.map rowF)), cutE c, Sx t] [(0, .fact 0 o')] fun r h => r = B true ∧ h = [(0, .fact 0 o')] := by
  refine fnC lay_ok func9 rfl rfl rfl rfl rfl ?_
  cases a with
  | false =>
    repeat' first | refine wr (by omega) ?_ | refine ln ?_ | refine stp lay_ok rfl ?_ | refine fin ?_ | refine n_thn ?_ | refine n_blk ?_ | refine e_thn ?_ | refine e_hit ?_ | refine e_miss rfl ?_ | refine r_thn ?_ | refine r_blk ?_ | refine e_rr ?_ | refine r_rr ?_ | refine e_cr ?_ | refine r_cr ?_ | refine .seq ?_ | refine reg ?_ | refine .block ?_ | refine .skip ?_ | refine .ret ?_ | refine .exit ?_ | refine cndT rfl ?_ | refine cndF rfl ?_ | refine c_dec rfl (fun hc => ?_) (fun hc => ?_) | refine c_ndec rfl (fun hc => ?_) (fun hc => ?_) | refine cnd rfl (fun hc => ?_) (fun hc => ?_) | ((first | refine o_none rfl ?_ | refine o_none_ ?_ | refine o_yes rfl rfl rfl ?_ | refine o_yes_ rfl rfl ?_); first | refine st_callK [0] (hu) b10 rfl rfl rfl rfl rfl (by (repeat' first | exact trivial | refine And.intro ?_ ?_ | rfl); first | done | fail) ?_ | refine st_pure (hs) b16 rfl rfl rfl rfl ?_ | refine st_pure (hf) b11 rfl rfl rfl rfl ?_) | refine gd rfl rfl rfl (fun hg => ?_) (fun hg => ?_) | refine gn rfl rfl rfl (fun hg => ?_) (fun hg => ?_)
    refine f_r [(0, .fact 0 o')] rfl (by (repeat' first | exact trivial | refine And.intro ?_ ?_ | rfl); first | done | fail) rfl ⟨?_, rfl⟩
    rfl
  | true =>
    cases b with
    | false =>
      repeat' first | refine wr (by omega) ?_ | refine ln ?_ | refine stp lay_ok rfl ?_ | refine fin ?_ | refine n_thn ?_ | refine n_blk ?_ | refine e_thn ?_ | refine e_hit ?_ | refine e_miss rfl ?_ | refine r_thn ?_ | refine r_blk ?_ | refine e_rr ?_ | refine r_rr ?_ | refine e_cr ?_ | refine r_cr ?_ | refine .seq ?_ | refine reg ?_ | refine .block ?_ | refine .skip ?_ | refine .ret ?_ | refine .exit ?_ | refine cndT rfl ?_ | refine cndF rfl ?_ | refine c_dec rfl (fun hc => ?_) (fun hc => ?_) | refine c_ndec rfl (fun hc => ?_) (fun hc => ?_) | refine cnd rfl (fun hc => ?_) (fun hc => ?_) | ((first | refine o_none rfl ?_ | refine o_none_ ?_ | refine o_yes rfl rfl rfl ?_ | refine o_yes_ rfl rfl ?_); first | refine st_callK [0] (hu) b10 rfl rfl rfl rfl rfl (by (repeat' first | exact trivial | refine And.intro ?_ ?_ | rfl); first | done | fail) ?_ | refine st_pure (hs) b16 rfl rfl rfl rfl ?_ | refine st_pure (hf) b11 rfl rfl rfl rfl ?_) | refine gd rfl rfl rfl (fun hg => ?_) (fun hg => ?_) | refine gn rfl rfl rfl (fun hg => ?_) (fun hg => ?_)
      refine f_r [(0, .fact 0 o')] rfl (by (repeat' first | exact trivial | refine And.intro ?_ ?_ | rfl); first | done | fail) rfl ⟨?_, rfl⟩
      rfl
    | true =>
      have h2 : 2000 < t.size := by
        rcases hno with h | h | h
        · cases h
        · cases h
        · exact h
      repeat' first | refine wr (by omega) ?_ | refine ln ?_ | refine stp lay_ok rfl ?_ | refine fin ?_ | refine n_thn ?_ | refine n_blk ?_ | refine e_thn ?_ | refine e_hit ?_ | refine e_miss rfl ?_ | refine r_thn ?_ | refine r_blk ?_ | refine e_rr ?_ | refine r_rr ?_ | refine e_cr ?_ | refine r_cr ?_ | refine .seq ?_ | refine reg ?_ | refine .block ?_ | refine .skip ?_ | refine .ret ?_ | refine .exit ?_ | refine cndT rfl ?_ | refine cndF rfl ?_ | refine c_dec rfl (fun hc => ?_) (fun hc => ?_) | refine c_ndec rfl (fun hc => ?_) (fun hc => ?_) | refine cnd rfl (fun hc => ?_) (fun hc => ?_) | ((first | refine o_none rfl ?_ | refine o_none_ ?_ | refine o_yes rfl rfl rfl ?_ | refine o_yes_ rfl rfl ?_); first | refine st_callK [0] (hu) b10 rfl rfl rfl rfl rfl (by (repeat' first | exact trivial | refine And.intro ?_ ?_ | rfl); first | done | fail) ?_ | refine st_pure (hs) b16 rfl rfl rfl rfl ?_ | refine st_pure (hf) b11 rfl rfl rfl rfl ?_) | refine gd rfl rfl rfl (fun hg => ?_) (fun hg => ?_) | refine gn rfl rfl rfl (fun hg => ?_) (fun hg => ?_)
      all_goals first
        | (exfalso; omega)
        | skip
      refine f_r [(0, .fact 0 o')] rfl (by (repeat' first | exact trivial | refine And.intro ?_ ?_ | rfl); first | done | fail) rfl ⟨?_, rfl⟩
      rfl
set_option maxHeartbeats 16000000 in
set_option maxRecDepth 4000 in
theorem stays_nn (o' : Obj) (l : List EV) (fs : List FV) (c : CV) (t : ByteArray) (ht : t.size ≤ 2000) (hl : l.length ≤ 100) (hlk : ∀ e ∈ l, e.keys.length ≤ 1200) (hfl : fs.length ≤ 100) (hu : ACalls prog 10 1 [] [(0, .fact 0 o')] fun r h => r = B true ∧ h = [(0, .fact 0 o')])
    (hs : ACalls prog 16 0 [.st (.sl 3 (l.map rowE))] [] fun r h => r = B true ∧ h = []) (hf : ACalls prog 11 0 [.st (.sl 2 (fs.map rowF))] [] fun r h => r = B true ∧ h = [])
    (hbn : ACalls prog 12 0 [.st (.sl 2 (fs.map rowF)), cutE c] [] fun r h => r = .tuple [.st .nilsl, .top] ∧ h = [])
    (hfn : ACalls prog 18 0 [.st (.sl 3 (l.map rowE)), Sx t] [] fun r h => r = .tuple [.st (.agg zE), .top] ∧ h = [])
    (hre : ACalls prog 23 0 [.st (.sl 3 (l.map rowE)), .st (.sl 1 [])] [] fun r h => r = .top ∧ h = []) :
    ACalls prog 9 1 [.st (.sl 3 (l.map rowE)), .st (.sl 2 (fs.map rowF)), cutE c, Sx t] [(0, .fact 0 o')] fun r h => r = B true ∧ h = [(0, .fact 0 o')] := by
  have hml : (List.map rowE l).length = l.length := List.length_map _
  have hmf : (List.map rowF fs).length = fs.length := List.length_map _
  have hcl := copy_ok l (by omega) (fun e he => by have := hlk e he; omega)
  have hsl := sameAll_ok l l (by omega) (by omega) (fun e he => by have := hlk e he; omega) (fun e he => by have := hlk e he; omega)
  rw [decide_eq_true rfl] at hsl
  have hff := files_ok fs fs (by omega) (by omega)
  rw [decide_eq_true rfl] at hff
  have hc0 : ACalls prog 28 0 [.st (.sl 3 [])] [] fun r h => r = .st (.sl 3 []) ∧ h = [] := copy_ok [] (by decide) (fun e he => by cases he)
  have hs0 : ACalls prog 15 0 [.st (.sl 3 []), .st (.sl 3 [])] [] fun r h => r = B true ∧ h = [] := sameAll_ok [] [] (by decide) (by decide) (fun e he => by cases he) (fun e he => by cases he)
  refine fnC lay_ok func9 rfl rfl rfl rfl rfl ?_
  repeat' first | refine o_frzA (f := 12) rfl rfl rfl rfl (by (repeat' first | exact trivial | refine And.intro ?_ ?_ | rfl); first | done | fail) (by (repeat' first | exact trivial | refine And.intro ?_ ?_ | rfl); first | done | fail) rfl rfl ?_ | refine wr (by omega) ?_ | refine ln ?_ | refine stp lay_ok rfl ?_ | refine fin ?_ | refine n_thn ?_ | refine n_blk ?_ | refine e_thn ?_ | refine e_hit ?_ | refine e_miss rfl ?_ | refine r_thn ?_ | refine r_blk ?_ | refine e_rr ?_ | refine r_rr ?_ | refine e_cr ?_ | refine r_cr ?_ | refine .seq ?_ | refine reg ?_ | refine .block ?_ | refine .skip ?_ | refine .ret ?_ | refine .exit ?_ | refine cndT rfl ?_ | refine cndF rfl ?_ | refine c_dec rfl (fun hc => ?_) (fun hc => ?_) | refine c_ndec rfl (fun hc => ?_) (fun hc => ?_) | refine cnd rfl (fun hc => ?_) (fun hc => ?_) | ((first | refine o_none rfl ?_ | refine o_none_ ?_ | refine o_yes rfl rfl rfl ?_ | refine o_yes_ rfl rfl ?_); first | refine st_callK [0] (hu) b10 rfl rfl rfl rfl rfl (by (repeat' first | exact trivial | refine And.intro ?_ ?_ | rfl); first | done | fail) ?_ | refine st_pure (hs) b16 rfl rfl rfl rfl ?_ | refine st_pure (hf) b11 rfl rfl rfl rfl ?_ | refine st_pure (hcl) b28 rfl rfl rfl rfl ?_ | refine st_append lay_ok rfl rfl rfl rfl rfl rfl rfl rfl .sl0 .sl rfl rowF_one (by simp only [List.length_nil, List.length_map]; omega) (by simp only [List.length_nil, List.length_map]; omega) ?_ | refine st_pure (hbn) b12 rfl rfl rfl rfl ?_ | refine st_pure (hfn) b18 rfl rfl rfl rfl ?_ | refine st_pureL (hre) b23 rfl (by (repeat' first | exact AVLeL.nil | refine AVLeL.cons ?_ ?_ | exact AVLe.refl _ | refine AVLe.st ?_ | exact SLe.refl _ | exact SLe.nil _ | exact SLe.sl0 _ | refine SLe.agg ?_ | refine SLe.sl ?_ | refine SLe.iface ?_ | exact SLeL.nil | refine SLeL.cons ?_ ?_ | exact RLe.nil' | refine RLe.cons' rfl ?_ ?_); first | done | fail) rfl rfl rfl ?_ | refine st_pure (hsl) b15 rfl rfl rfl rfl ?_ | refine st_pure (hff) b25 rfl rfl rfl rfl ?_ | refine st_pureL (hc0) b28 rfl (by (repeat' first | exact AVLeL.nil | refine AVLeL.cons ?_ ?_ | exact AVLe.refl _ | refine AVLe.st ?_ | exact SLe.refl _ | exact SLe.nil _ | exact SLe.sl0 _ | refine SLe.agg ?_ | refine SLe.sl ?_ | refine SLe.iface ?_ | exact SLeL.nil | refine SLeL.cons ?_ ?_ | exact RLe.nil' | refine RLe.cons' rfl ?_ ?_); first | done | fail) rfl rfl rfl ?_) | refine gd rfl rfl rfl (fun hg => ?_) (fun hg => ?_) | refine gn rfl rfl rfl (fun hg => ?_) (fun hg => ?_)
  all_goals first
    | (exfalso; omega)
    | skip
  refine lpR (fun i => i = 0) (fun i => 0) (fun i => [(19, I i)]) (fun i => []) (0) [0, 6, 9, 12, 13, 14, 16, 18] [] [] rfl rfl rfl (.of [] (by (repeat' first | exact trivial | refine And.intro ?_ ?_ | rfl); first | done | fail) (by (repeat' first | exact trivial | refine And.intro ?_ ?_ | rfl); first | done | fail) rfl) ?_ ?_
  · exact rfl
  rintro i rfl
  refine nrm rfl rfl ?_
  repeat' first | refine wr (by omega) ?_ | refine ln ?_ | refine stp lay_ok rfl ?_ | refine fin ?_ | refine n_thn ?_ | refine n_blk ?_ | refine e_thn ?_ | refine e_hit ?_ | refine e_miss rfl ?_ | refine r_thn ?_ | refine r_blk ?_ | refine e_rr ?_ | refine r_rr ?_ | refine e_cr ?_ | refine r_cr ?_ | refine .seq ?_ | refine reg ?_ | refine .block ?_ | refine .skip ?_ | refine .ret ?_ | refine .exit ?_ | refine cndT rfl ?_ | refine cndF rfl ?_ | refine c_dec rfl (fun hc => ?_) (fun hc => ?_) | refine c_ndec rfl (fun hc => ?_) (fun hc => ?_) | refine cnd rfl (fun hc => ?_) (fun hc => ?_) | refine gd rfl rfl rfl (fun hg => ?_) (fun hg => ?_) | refine gn rfl rfl rfl (fun hg => ?_) (fun hg => ?_)
  all_goals first
    | (exfalso; simp at *; done)
    | skip
  refine lpR (fun j => j = 0) (fun j => 0) (fun j => [(20, I j)]) (fun j => []) (0) [0, 6, 9, 12, 13, 16, 18] [] [] rfl rfl rfl (.of [] (by (repeat' first | exact trivial | refine And.intro ?_ ?_ | rfl); first | done | fail) (by (repeat' first | exact trivial | refine And.intro ?_ ?_ | rfl); first | done | fail) rfl) ?_ ?_
  · exact rfl
  rintro j rfl
  refine nrm rfl rfl ?_
  repeat' first | refine wr (by omega) ?_ | refine ln ?_ | refine stp lay_ok rfl ?_ | refine fin ?_ | refine n_thn ?_ | refine n_blk ?_ | refine e_thn ?_ | refine e_hit ?_ | refine e_miss rfl ?_ | refine r_thn ?_ | refine r_blk ?_ | refine e_rr ?_ | refine r_rr ?_ | refine e_cr ?_ | refine r_cr ?_ | refine .seq ?_ | refine reg ?_ | refine .block ?_ | refine .skip ?_ | refine .ret ?_ | refine .exit ?_ | refine cndT rfl ?_ | refine cndF rfl ?_ | refine c_dec rfl (fun hc => ?_) (fun hc => ?_) | refine c_ndec rfl (fun hc => ?_) (fun hc => ?_) | refine cnd rfl (fun hc => ?_) (fun hc => ?_) | ((first | refine o_none rfl ?_ | refine o_none_ ?_ | refine o_yes rfl rfl rfl ?_ | refine o_yes_ rfl rfl ?_); first | refine st_pure (hbn) b12 rfl rfl rfl rfl ?_ | refine st_pureL (hs0) b15 rfl (by (repeat' first | exact AVLeL.nil | refine AVLeL.cons ?_ ?_ | exact AVLe.refl _ | refine AVLe.st ?_ | exact SLe.refl _ | exact SLe.nil _ | exact SLe.sl0 _ | refine SLe.agg ?_ | refine SLe.sl ?_ | refine SLe.iface ?_ | exact SLeL.nil | refine SLeL.cons ?_ ?_ | exact RLe.nil' | refine RLe.cons' rfl ?_ ?_); first | done | fail) rfl rfl rfl ?_ | refine st_pure (hsl) b15 rfl rfl rfl rfl ?_) | refine gd rfl rfl rfl (fun hg => ?_) (fun hg => ?_) | refine gn rfl rfl rfl (fun hg => ?_) (fun hg => ?_)
  all_goals first
    | (exfalso; simp at *; done)
    | skip
  refine f_r [(0, .fact 0 o')] rfl (by (repeat' first | exact trivial | refine And.intro ?_ ?_ | rfl); first | done | fail) rfl ⟨?_, rfl⟩
  rfl
set_option maxHeartbeats 16000000 in
set_option maxRecDepth 4000 in
theorem stays_nf (o' : Obj) (l : List EV) (fs : List FV) (c : CV) (t : ByteArray) (ht : t.size ≤ 2000) (hl : l.length ≤ 100) (hlk : ∀ e ∈ l, e.keys.length ≤ 1200) (hfl : fs.length ≤ 100) (e0 : EV) (hek : e0.keys.length ≤ 1200) (hu : ACalls prog 10 1 [] [(0, .fact 0 o')] fun r h => r = B true ∧ h = [(0, .fact 0 o')])
    (hs : ACalls prog 16 0 [.st (.sl 3 (l.map rowE))] [] fun r h => r = B true ∧ h = []) (hf : ACalls prog 11 0 [.st (.sl 2 (fs.map rowF))] [] fun r h => r = B true ∧ h = [])
    (hbn : ACalls prog 12 0 [.st (.sl 2 (fs.map rowF)), cutE c] [] fun r h => r = .tuple [.st .nilsl, .top] ∧ h = [])
    (hfo : ACalls prog 18 0 [.st (.sl 3 (l.map rowE)), Sx t] [] fun r h => r = .tuple [.agg [.st (.str e0.path), .st (.int .i64 e0.size), .lsl 0 1 0 (e0.keys.map rowS).length], nilE] ∧ h = [(0, .arr 1 (e0.keys.map rowS))])
    (hre : ACalls prog 23 0 [.st (.sl 3 (l.map rowE)), .st (.sl 1 [])] [] fun r h => r = .top ∧ h = []) :
    ACalls prog 9 1 [.st (.sl 3 (l.map rowE)), .st (.sl 2 (fs.map rowF)), cutE c, Sx t] [(0, .fact 0 o')] fun r h => r = B true ∧ h = [(0, .fact 0 o')] := by
  have hml : (List.map rowE l).length = l.length := List.length_map _
  have hmf : (List.map rowF fs).length = fs.length := List.length_map _
  have hcl := copy_ok l (by omega) (fun e he => by have := hlk e he; omega)
  have hsl := sameAll_ok l l (by omega) (by omega) (fun e he => by have := hlk e he; omega) (fun e he => by have := hlk e he; omega)
  rw [decide_eq_true rfl] at hsl
  have hff := files_ok fs fs (by omega) (by omega)
  rw [decide_eq_true rfl] at hff
  have hc0 : ACalls prog 28 0 [.st (.sl 3 [])] [] fun r h => r = .st (.sl 3 []) ∧ h = [] := copy_ok [] (by decide) (fun e he => by cases he)
  have hs0 : ACalls prog 15 0 [.st (.sl 3 []), .st (.sl 3 [])] [] fun r h => r = B true ∧ h = [] := sameAll_ok [] [] (by decide) (by decide) (fun e he => by cases he) (fun e he => by cases he)
  obtain ⟨p0, z0, K⟩ := e0
  simp only at hfo hek
  have hmK : (List.map rowS K).length = K.length := List.length_map _
  refine fnC lay_ok func9 rfl rfl rfl rfl rfl ?_
  repeat' first | refine o_frzA (f := 12) rfl rfl rfl rfl (by (repeat' first | exact trivial | refine And.intro ?_ ?_ | rfl); first | done | fail) (by (repeat' first | exact trivial | refine And.intro ?_ ?_ | rfl); first | done | fail) rfl rfl ?_ | refine wr (by omega) ?_ | refine ln ?_ | refine stp lay_ok rfl ?_ | refine fin ?_ | refine n_thn ?_ | refine n_blk ?_ | refine e_thn ?_ | refine e_hit ?_ | refine e_miss rfl ?_ | refine r_thn ?_ | refine r_blk ?_ | refine e_rr ?_ | refine r_rr ?_ | refine e_cr ?_ | refine r_cr ?_ | refine .seq ?_ | refine reg ?_ | refine .block ?_ | refine .skip ?_ | refine .ret ?_ | refine .exit ?_ | refine cndT rfl ?_ | refine cndF rfl ?_ | refine c_dec rfl (fun hc => ?_) (fun hc => ?_) | refine c_ndec rfl (fun hc => ?_) (fun hc => ?_) | refine cnd rfl (fun hc => ?_) (fun hc => ?_) | ((first | refine o_none rfl ?_ | refine o_none_ ?_ | refine o_yes rfl rfl rfl ?_ | refine o_yes_ rfl rfl ?_); first | refine st_callK [0] (hu) b10 rfl rfl rfl rfl rfl (by (repeat' first | exact trivial | refine And.intro ?_ ?_ | rfl); first | done | fail) ?_ | refine st_pure (hs) b16 rfl rfl rfl rfl ?_ | refine st_pure (hf) b11 rfl rfl rfl rfl ?_ | refine st_pure (hcl) b28 rfl rfl rfl rfl ?_ | refine st_append lay_ok rfl rfl rfl rfl rfl rfl rfl rfl .sl0 .sl rfl rowF_one (by simp only [List.length_nil, List.length_map]; omega) (by simp only [List.length_nil, List.length_map]; omega) ?_ | refine st_pure (hbn) b12 rfl rfl rfl rfl ?_ | refine st_callF 1 (hfo) b18 rfl rfl rfl rfl rfl rfl (by (repeat' first | exact trivial | refine And.intro ?_ ?_ | rfl); first | done | fail) rfl ?_ | refine st_pureL (hre) b23 rfl (by (repeat' first | exact AVLeL.nil | refine AVLeL.cons ?_ ?_ | exact AVLe.refl _ | refine AVLe.st ?_ | exact SLe.refl _ | exact SLe.nil _ | exact SLe.sl0 _ | refine SLe.agg ?_ | refine SLe.sl ?_ | refine SLe.iface ?_ | exact SLeL.nil | refine SLeL.cons ?_ ?_ | exact RLe.nil' | refine RLe.cons' rfl ?_ ?_); first | done | fail) rfl rfl rfl ?_ | refine st_pure (hsl) b15 rfl rfl rfl rfl ?_ | refine st_pure (hff) b25 rfl rfl rfl rfl ?_ | refine st_pureL (hc0) b28 rfl (by (repeat' first | exact AVLeL.nil | refine AVLeL.cons ?_ ?_ | exact AVLe.refl _ | refine AVLe.st ?_ | exact SLe.refl _ | exact SLe.nil _ | exact SLe.sl0 _ | refine SLe.agg ?_ | refine SLe.sl ?_ | refine SLe.iface ?_ | exact SLeL.nil | refine SLeL.cons ?_ ?_ | exact RLe.nil' | refine RLe.cons' rfl ?_ ?_); first | done | fail) rfl rfl rfl ?_) | refine gd rfl rfl rfl (fun hg => ?_) (fun hg => ?_) | refine gn rfl rfl rfl (fun hg => ?_) (fun hg => ?_)
  all_goals first
    | (exfalso; omega)
    | skip
  refine lpR (fun i => i = 0) (fun i => 0) (fun i => [(19, I i)]) (fun i => []) (0) [0, 6, 9, 12, 13, 14, 16, 18] [] [] rfl rfl rfl (.of [] (by (repeat' first | exact trivial | refine And.intro ?_ ?_ | rfl); first | done | fail) (by (repeat' first | exact trivial | refine And.intro ?_ ?_ | rfl); first | done | fail) rfl) ?_ ?_
  · exact rfl
  rintro i rfl
  refine nrm rfl rfl ?_
  repeat' first | refine wr (by omega) ?_ | refine ln ?_ | refine stp lay_ok rfl ?_ | refine fin ?_ | refine n_thn ?_ | refine n_blk ?_ | refine e_thn ?_ | refine e_hit ?_ | refine e_miss rfl ?_ | refine r_thn ?_ | refine r_blk ?_ | refine e_rr ?_ | refine r_rr ?_ | refine e_cr ?_ | refine r_cr ?_ | refine .seq ?_ | refine reg ?_ | refine .block ?_ | refine .skip ?_ | refine .ret ?_ | refine .exit ?_ | refine cndT rfl ?_ | refine cndF rfl ?_ | refine c_dec rfl (fun hc => ?_) (fun hc => ?_) | refine c_ndec rfl (fun hc => ?_) (fun hc => ?_) | refine cnd rfl (fun hc => ?_) (fun hc => ?_) | refine gd rfl rfl rfl (fun hg => ?_) (fun hg => ?_) | refine gn rfl rfl rfl (fun hg => ?_) (fun hg => ?_)
  all_goals first
    | (exfalso; simp at *; done)
    | skip
  refine lpR (fun j => j ≤ K.length) (fun j => K.length - j) (fun j => [(20, I j)]) (fun j => [(3, .arr 1 (blkS K j))]) (0) [0, 6, 9, 12, 13, 16, 18] [3] [] rfl rfl rfl (.of [] (by (repeat' first | exact trivial | refine And.intro ?_ ?_ | rfl); first | done | fail) (by (repeat' first | exact trivial | refine And.intro ?_ ?_ | rfl); first | done | fail) rfl) ?_ ?_
  · exact Nat.zero_le _
  rintro j hj
  refine nrm rfl rfl ?_
  have hbs := blkS_len K j hj
  by_cases hjK : j < K.length
  · have hat := blkS_at hjK
    have hset := blkS_set hjK
    generalize K[j] = k0 at *
    repeat' first | refine wr (by omega) ?_ | refine ln ?_ | refine stp lay_ok rfl ?_ | refine fin ?_ | refine n_thn ?_ | refine n_blk ?_ | refine e_thn ?_ | refine e_hit ?_ | refine e_miss rfl ?_ | refine r_thn ?_ | refine r_blk ?_ | refine e_rr ?_ | refine r_rr ?_ | refine e_cr ?_ | refine r_cr ?_ | refine .seq ?_ | refine reg ?_ | refine .block ?_ | refine .skip ?_ | refine .ret ?_ | refine .exit ?_ | refine cndT rfl ?_ | refine cndF rfl ?_ | refine c_dec rfl (fun hc => ?_) (fun hc => ?_) | refine c_ndec rfl (fun hc => ?_) (fun hc => ?_) | refine cnd rfl (fun hc => ?_) (fun hc => ?_) | ((first | refine o_none rfl ?_ | refine o_none_ ?_ | refine o_yes rfl rfl rfl ?_ | refine o_yes_ rfl rfl ?_); first | refine st_indexL lay_ok rfl rfl rfl rfl (by omega) (by omega) ?_) | refine o_none_ (st_storeE lay_ok rfl rfl rfl hat rfl rfl rfl rfl ?_) | refine gd rfl rfl rfl (fun hg => ?_) (fun hg => ?_) | refine gn rfl rfl rfl (fun hg => ?_) (fun hg => ?_)
    all_goals first
      | (exfalso; omega)
      | skip
    refine n_rr (j + 1) ?_ (.of [] (by (repeat' first | exact trivial | refine And.intro ?_ ?_ | rfl | exact congrArg (fun r => some (AO.arr 1 r)) hset | exact congrArg (fun z : Int => some (AV.st (.int .i64 z))) (show (j : Int) + 1 = ((j + 1 : Nat) : Int) by omega)); first | done | fail) (by (repeat' first | exact trivial | refine And.intro ?_ ?_ | rfl | exact congrArg (fun r => some (AO.arr 1 r)) hset | exact congrArg (fun z : Int => some (AV.st (.int .i64 z))) (show (j : Int) + 1 = ((j + 1 : Nat) : Int) by omega)); first | done | fail) rfl) ?_
    · omega
    · exact hjK
  repeat' first | refine wr (by omega) ?_ | refine ln ?_ | refine stp lay_ok rfl ?_ | refine fin ?_ | refine n_thn ?_ | refine n_blk ?_ | refine e_thn ?_ | refine e_hit ?_ | refine e_miss rfl ?_ | refine r_thn ?_ | refine r_blk ?_ | refine e_rr ?_ | refine r_rr ?_ | refine e_cr ?_ | refine r_cr ?_ | refine .seq ?_ | refine reg ?_ | refine .block ?_ | refine .skip ?_ | refine .ret ?_ | refine .exit ?_ | refine cndT rfl ?_ | refine cndF rfl ?_ | refine c_dec rfl (fun hc => ?_) (fun hc => ?_) | refine c_ndec rfl (fun hc => ?_) (fun hc => ?_) | refine cnd rfl (fun hc => ?_) (fun hc => ?_) | ((first | refine o_none rfl ?_ | refine o_none_ ?_ | refine o_yes rfl rfl rfl ?_ | refine o_yes_ rfl rfl ?_); first | refine st_pure (hbn) b12 rfl rfl rfl rfl ?_ | refine st_pureL (hs0) b15 rfl (by (repeat' first | exact AVLeL.nil | refine AVLeL.cons ?_ ?_ | exact AVLe.refl _ | refine AVLe.st ?_ | exact SLe.refl _ | exact SLe.nil _ | exact SLe.sl0 _ | refine SLe.agg ?_ | refine SLe.sl ?_ | refine SLe.iface ?_ | exact SLeL.nil | refine SLeL.cons ?_ ?_ | exact RLe.nil' | refine RLe.cons' rfl ?_ ?_); first | done | fail) rfl rfl rfl ?_ | refine st_pure (hsl) b15 rfl rfl rfl rfl ?_) | refine gd rfl rfl rfl (fun hg => ?_) (fun hg => ?_) | refine gn rfl rfl rfl (fun hg => ?_) (fun hg => ?_)
  all_goals first
    | (exfalso; omega)
    | skip
  refine f_r [(0, .fact 0 o')] rfl (by (repeat' first | exact trivial | refine And.intro ?_ ?_ | rfl); first | done | fail) rfl ⟨?_, rfl⟩
  rfl
set_option maxHeartbeats 16000000 in
set_option maxRecDepth 4000 in
theorem stays_bn (o' : Obj) (l : List EV) (fs : List FV) (c : CV) (t : ByteArray) (ht : t.size ≤ 2000) (hl : l.length ≤ 100) (hlk : ∀ e ∈ l, e.keys.length ≤ 1200) (hfl : fs.length ≤ 100) (T : List EV) (hT : T.length ≤ 32) (hTk : ∀ e ∈ T, e.keys.length ≤ 1024) (hu : ACalls prog 10 1 [] [(0, .fact 0 o')] fun r h => r = B true ∧ h = [(0, .fact 0 o')])
    (hs : ACalls prog 16 0 [.st (.sl 3 (l.map rowE))] [] fun r h => r = B true ∧ h = []) (hf : ACalls prog 11 0 [.st (.sl 2 (fs.map rowF))] [] fun r h => r = B true ∧ h = [])
    (hbo : ACalls prog 12 0 [.st (.sl 2 (fs.map rowF)), cutE c] [] fun r h => r = .tuple [.lsl 0 3 0 (T.map rowE).length, nilE] ∧ h = [(0, .arr 3 (T.map rowE))])
    (hb2 : ACalls prog 12 0 [.st (.sl 2 (fs.map rowF)), cutE c] [] fun r h => r = .tuple [.st (.sl 3 (T.map rowE)), nilE] ∧ h = [])
    (hfn : ACalls prog 18 0 [.st (.sl 3 (l.map rowE)), Sx t] [] fun r h => r = .tuple [.st (.agg zE), .top] ∧ h = [])
    (hre : ACalls prog 23 0 [.st (.sl 3 (l.map rowE)), .st (.sl 1 [])] [] fun r h => r = .top ∧ h = []) :
    ACalls prog 9 1 [.st (.sl 3 (l.map rowE)), .st (.sl 2 (fs.map rowF)), cutE c, Sx t] [(0, .fact 0 o')] fun r h => r = B true ∧ h = [(0, .fact 0 o')] := by
  have hml : (List.map rowE l).length = l.length := List.length_map _
  have hmf : (List.map rowF fs).length = fs.length := List.length_map _
  have hcl := copy_ok l (by omega) (fun e he => by have := hlk e he; omega)
  have hsl := sameAll_ok l l (by omega) (by omega) (fun e he => by have := hlk e he; omega) (fun e he => by have := hlk e he; omega)
  rw [decide_eq_true rfl] at hsl
  have hff := files_ok fs fs (by omega) (by omega)
  rw [decide_eq_true rfl] at hff
  have hmT : (List.map rowE T).length = T.length := List.length_map _
  have hco := copyO_ok T (by omega) (fun e he => by have := hTk e he; omega)
  have hsT := sameAll_ok T T (by omega) (by omega) (fun e he => by have := hTk e he; omega) (fun e he => by have := hTk e he; omega)
  rw [decide_eq_true rfl] at hsT
  refine fnC lay_ok func9 rfl rfl rfl rfl rfl ?_
  repeat' first | refine o_frzA (f := 12) rfl rfl rfl rfl (by (repeat' first | exact trivial | refine And.intro ?_ ?_ | rfl); first | done | fail) (by (repeat' first | exact trivial | refine And.intro ?_ ?_ | rfl); first | done | fail) rfl rfl ?_ | refine wr (by omega) ?_ | refine ln ?_ | refine stp lay_ok rfl ?_ | refine fin ?_ | refine n_thn ?_ | refine n_blk ?_ | refine e_thn ?_ | refine e_hit ?_ | refine e_miss rfl ?_ | refine r_thn ?_ | refine r_blk ?_ | refine e_rr ?_ | refine r_rr ?_ | refine e_cr ?_ | refine r_cr ?_ | refine .seq ?_ | refine reg ?_ | refine .block ?_ | refine .skip ?_ | refine .ret ?_ | refine .exit ?_ | refine cndT rfl ?_ | refine cndF rfl ?_ | refine c_dec rfl (fun hc => ?_) (fun hc => ?_) | refine c_ndec rfl (fun hc => ?_) (fun hc => ?_) | refine cnd rfl (fun hc => ?_) (fun hc => ?_) | ((first | refine o_none rfl ?_ | refine o_none_ ?_ | refine o_yes rfl rfl rfl ?_ | refine o_yes_ rfl rfl ?_); first | refine st_callK [0] (hu) b10 rfl rfl rfl rfl rfl (by (repeat' first | exact trivial | refine And.intro ?_ ?_ | rfl); first | done | fail) ?_ | refine st_pure (hs) b16 rfl rfl rfl rfl ?_ | refine st_pure (hf) b11 rfl rfl rfl rfl ?_ | refine st_pure (hcl) b28 rfl rfl rfl rfl ?_ | refine st_append lay_ok rfl rfl rfl rfl rfl rfl rfl rfl .sl0 .sl rfl rowF_one (by simp only [List.length_nil, List.length_map]; omega) (by simp only [List.length_nil, List.length_map]; omega) ?_ | refine st_callF 1 (hbo) b12 rfl rfl rfl rfl rfl rfl (by (repeat' first | exact trivial | refine And.intro ?_ ?_ | rfl); first | done | fail) rfl ?_ | refine st_pure (hfn) b18 rfl rfl rfl rfl ?_ | refine st_pureL (hre) b23 rfl (by (repeat' first | exact AVLeL.nil | refine AVLeL.cons ?_ ?_ | exact AVLe.refl _ | refine AVLe.st ?_ | exact SLe.refl _ | exact SLe.nil _ | exact SLe.sl0 _ | refine SLe.agg ?_ | refine SLe.sl ?_ | refine SLe.iface ?_ | exact SLeL.nil | refine SLeL.cons ?_ ?_ | exact RLe.nil' | refine RLe.cons' rfl ?_ ?_); first | done | fail) rfl rfl rfl ?_ | refine st_pure (hsl) b15 rfl rfl rfl rfl ?_ | refine st_pure (hff) b25 rfl rfl rfl rfl ?_ | refine st_callQ (hco) b28 rfl rfl rfl rfl rfl rfl (by (repeat' first | exact trivial | refine And.intro ?_ ?_ | rfl); first | done | fail) ?_) | refine gd rfl rfl rfl (fun hg => ?_) (fun hg => ?_) | refine gn rfl rfl rfl (fun hg => ?_) (fun hg => ?_)
  all_goals first
    | (exfalso; omega)
    | skip
  refine lpR (fun i => i ≤ T.length) (fun i => T.length - i) (fun i => [(19, I i)]) (fun i => [(3, .arr 3 (blkR T i))]) (0) [0, 6, 9, 12, 13, 14, 16, 18] [3] [] rfl rfl rfl (.of [] (by (repeat' first | exact trivial | refine And.intro ?_ ?_ | rfl); first | done | fail) (by (repeat' first | exact trivial | refine And.intro ?_ ?_ | rfl); first | done | fail) rfl) ?_ ?_
  · exact Nat.zero_le _
  rintro i hi
  refine nrm rfl rfl ?_
  have hbl := blkR_len T i hi
  by_cases hiT : i < T.length
  · have hat := blkR_at hiT
    have hset := blkR_set hiT
    generalize T[i] = e at *
    repeat' first | refine wr (by omega) ?_ | refine ln ?_ | refine stp lay_ok rfl ?_ | refine fin ?_ | refine n_thn ?_ | refine n_blk ?_ | refine e_thn ?_ | refine e_hit ?_ | refine e_miss rfl ?_ | refine r_thn ?_ | refine r_blk ?_ | refine e_rr ?_ | refine r_rr ?_ | refine e_cr ?_ | refine r_cr ?_ | refine .seq ?_ | refine reg ?_ | refine .block ?_ | refine .skip ?_ | refine .ret ?_ | refine .exit ?_ | refine cndT rfl ?_ | refine cndF rfl ?_ | refine c_dec rfl (fun hc => ?_) (fun hc => ?_) | refine c_ndec rfl (fun hc => ?_) (fun hc => ?_) | refine cnd rfl (fun hc => ?_) (fun hc => ?_) | ((first | refine o_none rfl ?_ | refine o_none_ ?_ | refine o_yes rfl rfl rfl ?_ | refine o_yes_ rfl rfl ?_); first | refine st_indexL lay_ok rfl rfl rfl rfl (by omega) (by omega) ?_) | refine o_none_ (st_storeE lay_ok rfl rfl rfl hat rfl rfl rfl rfl ?_) | refine gd rfl rfl rfl (fun hg => ?_) (fun hg => ?_) | refine gn rfl rfl rfl (fun hg => ?_) (fun hg => ?_)
    all_goals first
      | (exfalso; omega)
      | skip
    refine n_rr (i + 1) ?_ (.of [] (by (repeat' first | exact trivial | refine And.intro ?_ ?_ | rfl | exact congrArg (fun r => some (AO.arr 3 r)) hset | exact congrArg (fun z : Int => some (AV.st (.int .i64 z))) (show (i : Int) + 1 = ((i + 1 : Nat) : Int) by omega)); first | done | fail) (by (repeat' first | exact trivial | refine And.intro ?_ ?_ | rfl | exact congrArg (fun r => some (AO.arr 3 r)) hset | exact congrArg (fun z : Int => some (AV.st (.int .i64 z))) (show (i : Int) + 1 = ((i + 1 : Nat) : Int) by omega)); first | done | fail) rfl) ?_
    · omega
    · exact hiT
  repeat' first | refine wr (by omega) ?_ | refine ln ?_ | refine stp lay_ok rfl ?_ | refine fin ?_ | refine n_thn ?_ | refine n_blk ?_ | refine e_thn ?_ | refine e_hit ?_ | refine e_miss rfl ?_ | refine r_thn ?_ | refine r_blk ?_ | refine e_rr ?_ | refine r_rr ?_ | refine e_cr ?_ | refine r_cr ?_ | refine .seq ?_ | refine reg ?_ | refine .block ?_ | refine .skip ?_ | refine .ret ?_ | refine .exit ?_ | refine cndT rfl ?_ | refine cndF rfl ?_ | refine c_dec rfl (fun hc => ?_) (fun hc => ?_) | refine c_ndec rfl (fun hc => ?_) (fun hc => ?_) | refine cnd rfl (fun hc => ?_) (fun hc => ?_) | refine gd rfl rfl rfl (fun hg => ?_) (fun hg => ?_) | refine gn rfl rfl rfl (fun hg => ?_) (fun hg => ?_)
  all_goals first
    | (exfalso; omega)
    | skip
  refine lpR (fun j => j = 0) (fun j => 0) (fun j => [(20, I j)]) (fun j => []) (0) [0, 6, 9, 12, 13, 16, 18] [] [] rfl rfl rfl (.of [] (by (repeat' first | exact trivial | refine And.intro ?_ ?_ | rfl); first | done | fail) (by (repeat' first | exact trivial | refine And.intro ?_ ?_ | rfl); first | done | fail) rfl) ?_ ?_
  · exact rfl
  rintro j rfl
  refine nrm rfl rfl ?_
  repeat' first | refine wr (by omega) ?_ | refine ln ?_ | refine stp lay_ok rfl ?_ | refine fin ?_ | refine n_thn ?_ | refine n_blk ?_ | refine e_thn ?_ | refine e_hit ?_ | refine e_miss rfl ?_ | refine r_thn ?_ | refine r_blk ?_ | refine e_rr ?_ | refine r_rr ?_ | refine e_cr ?_ | refine r_cr ?_ | refine .seq ?_ | refine reg ?_ | refine .block ?_ | refine .skip ?_ | refine .ret ?_ | refine .exit ?_ | refine cndT rfl ?_ | refine cndF rfl ?_ | refine c_dec rfl (fun hc => ?_) (fun hc => ?_) | refine c_ndec rfl (fun hc => ?_) (fun hc => ?_) | refine cnd rfl (fun hc => ?_) (fun hc => ?_) | ((first | refine o_none rfl ?_ | refine o_none_ ?_ | refine o_yes rfl rfl rfl ?_ | refine o_yes_ rfl rfl ?_); first | refine st_pure (hb2) b12 rfl rfl rfl rfl ?_ | refine st_pure (hsT) b15 rfl rfl rfl rfl ?_ | refine st_pure (hsl) b15 rfl rfl rfl rfl ?_) | refine gd rfl rfl rfl (fun hg => ?_) (fun hg => ?_) | refine gn rfl rfl rfl (fun hg => ?_) (fun hg => ?_)
  all_goals first
    | (exfalso; simp at *; done)
    | skip
  refine f_r [(0, .fact 0 o')] rfl (by (repeat' first | exact trivial | refine And.intro ?_ ?_ | rfl); first | done | fail) rfl ⟨?_, rfl⟩
  rfl
set_option maxHeartbeats 16000000 in
set_option maxRecDepth 4000 in
theorem stays_bf (o' : Obj) (l : List EV) (fs : List FV) (c : CV) (t : ByteArray) (ht : t.size ≤ 2000) (hl : l.length ≤ 100) (hlk : ∀ e ∈ l, e.keys.length ≤ 1200) (hfl : fs.length ≤ 100) (T : List EV) (hT : T.length ≤ 32) (hTk : ∀ e ∈ T, e.keys.length ≤ 1024) (e0 : EV) (hek : e0.keys.length ≤ 1200) (hu : ACalls prog 10 1 [] [(0, .fact 0 o')] fun r h => r = B true ∧ h = [(0, .fact 0 o')])
    (hs : ACalls prog 16 0 [.st (.sl 3 (l.map rowE))] [] fun r h => r = B true ∧ h = []) (hf : ACalls prog 11 0 [.st (.sl 2 (fs.map rowF))] [] fun r h => r = B true ∧ h = [])
    (hbo : ACalls prog 12 0 [.st (.sl 2 (fs.map rowF)), cutE c] [] fun r h => r = .tuple [.lsl 0 3 0 (T.map rowE).length, nilE] ∧ h = [(0, .arr 3 (T.map rowE))])
    (hb2 : ACalls prog 12 0 [.st (.sl 2 (fs.map rowF)), cutE c] [] fun r h => r = .tuple [.st (.sl 3 (T.map rowE)), nilE] ∧ h = [])
    (hfo : ACalls prog 18 0 [.st (.sl 3 (l.map rowE)), Sx t] [] fun r h => r = .tuple [.agg [.st (.str e0.path), .st (.int .i64 e0.size), .lsl 0 1 0 (e0.keys.map rowS).length], nilE] ∧ h = [(0, .arr 1 (e0.keys.map rowS))])
    (hre : ACalls prog 23 0 [.st (.sl 3 (l.map rowE)), .st (.sl 1 [])] [] fun r h => r = .top ∧ h = []) :
    ACalls prog 9 1 [.st (.sl 3 (l.map rowE)), .st (.sl 2 (fs.map rowF)), cutE c, Sx t] [(0, .fact 0 o')] fun r h => r = B true ∧ h = [(0, .fact 0 o')] := by
  have hml : (List.map rowE l).length = l.length := List.length_map _
  have hmf : (List.map rowF fs).length = fs.length := List.length_map _
  have hcl := copy_ok l (by omega) (fun e he => by have := hlk e he; omega)
  have hsl := sameAll_ok l l (by omega) (by omega) (fun e he => by have := hlk e he; omega) (fun e he => by have := hlk e he; omega)
  rw [decide_eq_true rfl] at hsl
  have hff := files_ok fs fs (by omega) (by omega)
  rw [decide_eq_true rfl] at hff
  have hmT : (List.map rowE T).length = T.length := List.length_map _
  have hco := copyO_ok T (by omega) (fun e he => by have := hTk e he; omega)
  have hsT := sameAll_ok T T (by omega) (by omega) (fun e he => by have := hTk e he; omega) (fun e he => by have := hTk e he; omega)
  rw [decide_eq_true rfl] at hsT
  obtain ⟨p0, z0, K⟩ := e0
  simp only at hfo hek
  have hmK : (List.map rowS K).length = K.length := List.length_map _
  refine fnC lay_ok func9 rfl rfl rfl rfl rfl ?_
  repeat' first | refine o_frzA (f := 12) rfl rfl rfl rfl (by (repeat' first | exact trivial | refine And.intro ?_ ?_ | rfl); first | done | fail) (by (repeat' first | exact trivial | refine And.intro ?_ ?_ | rfl); first | done | fail) rfl rfl ?_ | refine wr (by omega) ?_ | refine ln ?_ | refine stp lay_ok rfl ?_ | refine fin ?_ | refine n_thn ?_ | refine n_blk ?_ | refine e_thn ?_ | refine e_hit ?_ | refine e_miss rfl ?_ | refine r_thn ?_ | refine r_blk ?_ | refine e_rr ?_ | refine r_rr ?_ | refine e_cr ?_ | refine r_cr ?_ | refine .seq ?_ | refine reg ?_ | refine .block ?_ | refine .skip ?_ | refine .ret ?_ | refine .exit ?_ | refine cndT rfl ?_ | refine cndF rfl ?_ | refine c_dec rfl (fun hc => ?_) (fun hc => ?_) | refine c_ndec rfl (fun hc => ?_) (fun hc => ?_) | refine cnd rfl (fun hc => ?_) (fun hc => ?_) | ((first | refine o_none rfl ?_ | refine o_none_ ?_ | refine o_yes rfl rfl rfl ?_ | refine o_yes_ rfl rfl ?_); first | refine st_callK [0] (hu) b10 rfl rfl rfl rfl rfl (by (repeat' first | exact trivial | refine And.intro ?_ ?_ | rfl); first | done | fail) ?_ | refine st_pure (hs) b16 rfl rfl rfl rfl ?_ | refine st_pure (hf) b11 rfl rfl rfl rfl ?_ | refine st_pure (hcl) b28 rfl rfl rfl rfl ?_ | refine st_append lay_ok rfl rfl rfl rfl rfl rfl rfl rfl .sl0 .sl rfl rowF_one (by simp only [List.length_nil, List.length_map]; omega) (by simp only [List.length_nil, List.length_map]; omega) ?_ | refine st_callF 1 (hbo) b12 rfl rfl rfl rfl rfl rfl (by (repeat' first | exact trivial | refine And.intro ?_ ?_ | rfl); first | done | fail) rfl ?_ | refine st_callF 1 (hfo) b18 rfl rfl rfl rfl rfl rfl (by (repeat' first | exact trivial | refine And.intro ?_ ?_ | rfl); first | done | fail) rfl ?_ | refine st_pureL (hre) b23 rfl (by (repeat' first | exact AVLeL.nil | refine AVLeL.cons ?_ ?_ | exact AVLe.refl _ | refine AVLe.st ?_ | exact SLe.refl _ | exact SLe.nil _ | exact SLe.sl0 _ | refine SLe.agg ?_ | refine SLe.sl ?_ | refine SLe.iface ?_ | exact SLeL.nil | refine SLeL.cons ?_ ?_ | exact RLe.nil' | refine RLe.cons' rfl ?_ ?_); first | done | fail) rfl rfl rfl ?_ | refine st_pure (hsl) b15 rfl rfl rfl rfl ?_ | refine st_pure (hff) b25 rfl rfl rfl rfl ?_ | refine st_callQ (hco) b28 rfl rfl rfl rfl rfl rfl (by (repeat' first | exact trivial | refine And.intro ?_ ?_ | rfl); first | done | fail) ?_) | refine gd rfl rfl rfl (fun hg => ?_) (fun hg => ?_) | refine gn rfl rfl rfl (fun hg => ?_) (fun hg => ?_)
  all_goals first
    | (exfalso; omega)
    | skip
  refine lpR (fun i => i ≤ T.length) (fun i => T.length - i) (fun i => [(19, I i)]) (fun i => [(3, .arr 3 (blkR T i))]) (0) [0, 6, 9, 12, 13, 14, 16, 18] [3] [] rfl rfl rfl (.of [] (by (repeat' first | exact trivial | refine And.intro ?_ ?_ | rfl); first | done | fail) (by (repeat' first | exact trivial | refine And.intro ?_ ?_ | rfl); first | done | fail) rfl) ?_ ?_
  · exact Nat.zero_le _
  rintro i hi
  refine nrm rfl rfl ?_
  have hbl := blkR_len T i hi
  by_cases hiT : i < T.length
  · have hat := blkR_at hiT
    have hset := blkR_set hiT
    generalize T[i] = e at *
    repeat' first | refine wr (by omega) ?_ | refine ln ?_ | refine stp lay_ok rfl ?_ | refine fin ?_ | refine n_thn ?_ | refine n_blk ?_ | refine e_thn ?_ | refine e_hit ?_ | refine e_miss rfl ?_ | refine r_thn ?_ | refine r_blk ?_ | refine e_rr ?_ | refine r_rr ?_ | refine e_cr ?_ | refine r_cr ?_ | refine .seq ?_ | refine reg ?_ | refine .block ?_ | refine .skip ?_ | refine .ret ?_ | refine .exit ?_ | refine cndT rfl ?_ | refine cndF rfl ?_ | refine c_dec rfl (fun hc => ?_) (fun hc => ?_) | refine c_ndec rfl (fun hc => ?_) (fun hc => ?_) | refine cnd rfl (fun hc => ?_) (fun hc => ?_) | ((first | refine o_none rfl ?_ | refine o_none_ ?_ | refine o_yes rfl rfl rfl ?_ | refine o_yes_ rfl rfl ?_); first | refine st_indexL lay_ok rfl rfl rfl rfl (by omega) (by omega) ?_) | refine o_none_ (st_storeE lay_ok rfl rfl rfl hat rfl rfl rfl rfl ?_) | refine gd rfl rfl rfl (fun hg => ?_) (fun hg => ?_) | refine gn rfl rfl rfl (fun hg => ?_) (fun hg => ?_)
    all_goals first
      | (exfalso; omega)
      | skip
    refine n_rr (i + 1) ?_ (.of [] (by (repeat' first | exact trivial | refine And.intro ?_ ?_ | rfl | exact congrArg (fun r => some (AO.arr 3 r)) hset | exact congrArg (fun z : Int => some (AV.st (.int .i64 z))) (show (i : Int) + 1 = ((i + 1 : Nat) : Int) by omega)); first | done | fail) (by (repeat' first | exact trivial | refine And.intro ?_ ?_ | rfl | exact congrArg (fun r => some (AO.arr 3 r)) hset | exact congrArg (fun z : Int => some (AV.st (.int .i64 z))) (show (i : Int) + 1 = ((i + 1 : Nat) : Int) by omega)); first | done | fail) rfl) ?_
    · omega
    · exact hiT
  repeat' first | refine wr (by omega) ?_ | refine ln ?_ | refine stp lay_ok rfl ?_ | refine fin ?_ | refine n_thn ?_ | refine n_blk ?_ | refine e_thn ?_ | refine e_hit ?_ | refine e_miss rfl ?_ | refine r_thn ?_ | refine r_blk ?_ | refine e_rr ?_ | refine r_rr ?_ | refine e_cr ?_ | refine r_cr ?_ | refine .seq ?_ | refine reg ?_ | refine .block ?_ | refine .skip ?_ | refine .ret ?_ | refine .exit ?_ | refine cndT rfl ?_ | refine cndF rfl ?_ | refine c_dec rfl (fun hc => ?_) (fun hc => ?_) | refine c_ndec rfl (fun hc => ?_) (fun hc => ?_) | refine cnd rfl (fun hc => ?_) (fun hc => ?_) | refine gd rfl rfl rfl (fun hg => ?_) (fun hg => ?_) | refine gn rfl rfl rfl (fun hg => ?_) (fun hg => ?_)
  all_goals first
    | (exfalso; omega)
    | skip
  refine lpR (fun j => j ≤ K.length) (fun j => K.length - j) (fun j => [(20, I j)]) (fun j => [(4, .arr 1 (blkS K j))]) (0) [0, 6, 9, 12, 13, 16, 18] [4] [] rfl rfl rfl (.of [] (by (repeat' first | exact trivial | refine And.intro ?_ ?_ | rfl); first | done | fail) (by (repeat' first | exact trivial | refine And.intro ?_ ?_ | rfl); first | done | fail) rfl) ?_ ?_
  · exact Nat.zero_le _
  rintro j hj
  refine nrm rfl rfl ?_
  have hbs := blkS_len K j hj
  by_cases hjK : j < K.length
  · have hat := blkS_at hjK
    have hset := blkS_set hjK
    generalize K[j] = k0 at *
    repeat' first | refine wr (by omega) ?_ | refine ln ?_ | refine stp lay_ok rfl ?_ | refine fin ?_ | refine n_thn ?_ | refine n_blk ?_ | refine e_thn ?_ | refine e_hit ?_ | refine e_miss rfl ?_ | refine r_thn ?_ | refine r_blk ?_ | refine e_rr ?_ | refine r_rr ?_ | refine e_cr ?_ | refine r_cr ?_ | refine .seq ?_ | refine reg ?_ | refine .block ?_ | refine .skip ?_ | refine .ret ?_ | refine .exit ?_ | refine cndT rfl ?_ | refine cndF rfl ?_ | refine c_dec rfl (fun hc => ?_) (fun hc => ?_) | refine c_ndec rfl (fun hc => ?_) (fun hc => ?_) | refine cnd rfl (fun hc => ?_) (fun hc => ?_) | ((first | refine o_none rfl ?_ | refine o_none_ ?_ | refine o_yes rfl rfl rfl ?_ | refine o_yes_ rfl rfl ?_); first | refine st_indexL lay_ok rfl rfl rfl rfl (by omega) (by omega) ?_) | refine o_none_ (st_storeE lay_ok rfl rfl rfl hat rfl rfl rfl rfl ?_) | refine gd rfl rfl rfl (fun hg => ?_) (fun hg => ?_) | refine gn rfl rfl rfl (fun hg => ?_) (fun hg => ?_)
    all_goals first
      | (exfalso; omega)
      | skip
    refine n_rr (j + 1) ?_ (.of [] (by (repeat' first | exact trivial | refine And.intro ?_ ?_ | rfl | exact congrArg (fun r => some (AO.arr 1 r)) hset | exact congrArg (fun z : Int => some (AV.st (.int .i64 z))) (show (j : Int) + 1 = ((j + 1 : Nat) : Int) by omega)); first | done | fail) (by (repeat' first | exact trivial | refine And.intro ?_ ?_ | rfl | exact congrArg (fun r => some (AO.arr 1 r)) hset | exact congrArg (fun z : Int => some (AV.st (.int .i64 z))) (show (j : Int) + 1 = ((j + 1 : Nat) : Int) by omega)); first | done | fail) rfl) ?_
    · omega
    · exact hjK
  repeat' first | refine wr (by omega) ?_ | refine ln ?_ | refine stp lay_ok rfl ?_ | refine fin ?_ | refine n_thn ?_ | refine n_blk ?_ | refine e_thn ?_ | refine e_hit ?_ | refine e_miss rfl ?_ | refine r_thn ?_ | refine r_blk ?_ | refine e_rr ?_ | refine r_rr ?_ | refine e_cr ?_ | refine r_cr ?_ | refine .seq ?_ | refine reg ?_ | refine .block ?_ | refine .skip ?_ | refine .ret ?_ | refine .exit ?_ | refine cndT rfl ?_ | refine cndF rfl ?_ | refine c_dec rfl (fun hc => ?_) (fun hc => ?_) | refine c_ndec rfl (fun hc => ?_) (fun hc => ?_) | refine cnd rfl (fun hc => ?_) (fun hc => ?_) | ((first | refine o_none rfl ?_ | refine o_none_ ?_ | refine o_yes rfl rfl rfl ?_ | refine o_yes_ rfl rfl ?_); first | refine st_pure (hb2) b12 rfl rfl rfl rfl ?_ | refine st_pure (hsT) b15 rfl rfl rfl rfl ?_ | refine st_pure (hsl) b15 rfl rfl rfl rfl ?_) | refine gd rfl rfl rfl (fun hg => ?_) (fun hg => ?_) | refine gn rfl rfl rfl (fun hg => ?_) (fun hg => ?_)
  all_goals first
    | (exfalso; omega)
    | skip
  refine f_r [(0, .fact 0 o')] rfl (by (repeat' first | exact trivial | refine And.intro ?_ ?_ | rfl); first | done | fail) rfl ⟨?_, rfl⟩
  rfl
end Go.Proofs.YtmekcbbieacioaaGreatDoorFn
namespace Go.Proofs.YtmekcbbieacioaaGreatDoorFn
open Go.Proofs.YtmekcbbieacioaaGreatDoorAl Go.Proofs.Tryz
theorem lawStays_ok (o' : Obj) (hO : LaidE o') (l : List EV) (fs : List FV) (c : CV) (t : ByteArray) (hfl : fs.length ≤ 140737488351232) (ht : t.size ≤ 140737488351232) :
    ACalls prog 9 1 [.st (.sl 3 (l.map rowE)), .st (.sl 2 (fs.map rowF)), cutE c, Sx t] [(0, .fact 0 o')] fun r h => r = B true ∧ h = [(0, .fact 0 o')] := by
  have hu := up_ok o' hO
  have hs := short4_ok l
  have hf := few_ok fs hfl
  by_cases hno : shortE l = false ∨ (decide (fs.length ≤ 100) && fs.all fewB) = false ∨ 2000 < t.size
  · exact stays_no o' l fs c t _ _ hno ht hu hs hf
  have hse : shortE l = true := by
    cases h : shortE l with
    | true => rfl
    | false => exact absurd (.inl h) hno
  have hfe : (decide (fs.length ≤ 100) && fs.all fewB) = true := by
    cases h : decide (fs.length ≤ 100) && fs.all fewB with
    | true => rfl
    | false => exact absurd (.inr (.inl h)) hno
  have ht2 : t.size ≤ 2000 := by
    rcases Nat.lt_or_ge 2000 t.size with h | h
    · exact absurd (.inr (.inr h)) hno
    · exact h
  rw [hse] at hs
  rw [hfe] at hf
  obtain ⟨h100, hall⟩ := short_bounds' hse
  simp only [Bool.and_eq_true, decide_eq_true_eq] at hfe
  have hbd := few_bounds hfe.2
  have hl : l.length ≤ 4000000000 := by omega
  have hp : ∀ e ∈ l, e.path.size ≤ 4000000000 - 1 := fun e he => by have := hall e he; omega
  have hk : ∀ e ∈ l, e.keys.length ≤ 4000000000 := fun e he => by have := hall e he; omega
  have hk12 : ∀ e ∈ l, e.keys.length ≤ 1200 := fun e he => (hall e he).2
  have hfp : ∀ e ∈ fs, e.path.size ≤ 4000000000 - 1 := fun e he => by have := hbd e he; omega
  have hfb : ∀ e ∈ fs, e.bytes.size ≤ 4000000000 := fun e he => by have := hbd e he; omega
  have hre := (restore_ok l [] hl hp hk (by decide)).lessR
  have h1 := build_ok fs c (by omega) hfp hfb
  have h2 := find_ok l t hl hp hk
  -- the path's entry
  have hfind : ACalls prog 18 0 [.st (.sl 3 (l.map rowE)), Sx t] [] (fun r h => r = .tuple [.st (.agg zE), .top] ∧ h = []) ∨
      ∃ e : EV, e.keys.length ≤ 1200 ∧ ACalls prog 18 0 [.st (.sl 3 (l.map rowE)), Sx t] [] fun r h => r = .tuple [.agg [.st (.str e.path), .st (.int .i64 e.size), .lsl 0 1 0 (e.keys.map rowS).length], nilE] ∧ h = [(0, .arr 1 (e.keys.map rowS))] := by
    by_cases h32 : 32 < l.length
    · unfold findR at h2
      rw [if_pos h32] at h2
      exact .inl h2.lessT
    cases hb : badFrom l l.length 0 with
    | some x =>
      obtain ⟨i, n⟩ := x
      unfold findR at h2
      rw [if_neg h32, hb] at h2
      exact .inl h2.lessT
    | none =>
      by_cases hex : ∃ j, ∃ h : j < l.length, l[j].path = t
      · obtain ⟨j, hj, hjt⟩ := hex
        subst hjt
        exact .inr ⟨l[j], hk12 _ (List.getElem_mem hj), findO_ok l j hj h32 hb (find_at hb j hj) hp hk⟩
      · rw [findR_miss h32 hb (fun e he => by obtain ⟨i, hi, rfl⟩ := List.getElem_of_mem he; exact fun h => hex ⟨i, hi, h⟩)] at h2
        exact .inl h2.lessT
  -- the tree that is built
  have hbuild : ACalls prog 12 0 [.st (.sl 2 (fs.map rowF)), cutE c] [] (fun r h => r = .tuple [.st .nilsl, .top] ∧ h = []) ∨
      ∃ T : List EV, T.length ≤ 32 ∧ (∀ e ∈ T, e.keys.length ≤ 1024) ∧ ACalls prog 12 0 [.st (.sl 2 (fs.map rowF)), cutE c] [] (fun r h => r = .tuple [.lsl 0 3 0 (T.map rowE).length, nilE] ∧ h = [(0, .arr 3 (T.map rowE))]) ∧
        ACalls prog 12 0 [.st (.sl 2 (fs.map rowF)), cutE c] [] fun r h => r = .tuple [.st (.sl 3 (T.map rowE)), nilE] ∧ h = [] := by
    unfold buildC at h1
    by_cases hok : c.ok = false
    · rw [if_pos hok] at h1
      exact .inl h1.lessT
    rw [if_neg hok] at h1
    by_cases h32 : 32 < fs.length
    · rw [if_pos h32] at h1
      exact .inl h1.lessT
    rw [if_neg h32] at h1
    cases hbf : badFile fs fs.length 0 with
    | some x =>
      obtain ⟨i, n⟩ := x
      rw [hbf] at h1
      exact .inl h1.lessT
    | none =>
      rw [hbf] at h1
      have hokt : c.ok = true := by
        cases h : c.ok with
        | true => rfl
        | false => exact absurd h hok
      exact .inr ⟨_, by rw [(srtE_facts (fs.map (fileE c))).1.length_eq, List.length_map]; omega, srt_keys fs c hbf, buildO_ok fs c hokt h32 hbf (by omega) hfp hfb, h1⟩
  rcases hbuild with hbn | ⟨T, hT, hTk, hbo, hb2⟩ <;> rcases hfind with hfn | ⟨e0, hek, hfo⟩
  · exact stays_nn o' l fs c t ht2 h100 hk12 hfe.1 hu hs hf hbn hfn hre
  · exact stays_nf o' l fs c t ht2 h100 hk12 hfe.1 e0 hek hu hs hf hbn hfo hre
  · exact stays_bn o' l fs c t ht2 h100 hk12 hfe.1 T hT hTk hu hs hf hbo hb2 hfn hre
  · exact stays_bf o' l fs c t ht2 h100 hk12 hfe.1 T hT hTk e0 hek hu hs hf hbo hb2 hfo hre
end Go.Proofs.YtmekcbbieacioaaGreatDoorFn
namespace Go.Proofs.YtmekcbbieacioaaGreatDoor
open Go.Proofs.YtmekcbbieacioaaGreatDoorAl Go.ChangeAt Go.RowKit
open Go.Proofs.YtmekcbbieacioaaGreatDoorFn
theorem own : ownKnob Tryz.prog.godebug = none := by kernel_rfl
theorem laidOut : laidOutB Tryz.prog = true := by kernel_rfl
def pars : List Par := [⟨27, false, ΦL 3 48 ΦE⟩, ⟨22, false, ΦL 2 32 ΦF⟩, ⟨24, true, ΦC⟩, ⟨9, false, ΦS⟩]
theorem pars_ok : ParsOk Tryz.prog pars :=
  ⟨rdLE, ⟨_, Tryz.underlying27, rfl⟩, by kernel_rfl, of_decide_eq_true (by kernel_rfl),
   rdLF, ⟨_, Tryz.underlying22, rfl⟩, by kernel_rfl, of_decide_eq_true (by kernel_rfl),
   rdC, ⟨_, Tryz.underlying24, rfl⟩, by kernel_rfl, of_decide_eq_true (by kernel_rfl),
   rdS, ⟨_, Tryz.underlying9, rfl⟩, by kernel_rfl, of_decide_eq_true (by kernel_rfl), trivial⟩
theorem law_ok : LawOkF Tryz.prog 9 pars LaidE := by
  rintro svs ⟨_, _, rfl, ⟨r0, h0, hr0, hl0⟩, _, _, rfl, ⟨r1, h1, hr1, hl1⟩, _, _, rfl, ⟨xs2, rfl, hp2⟩, _, _, rfl, ⟨x3, h3, hm3⟩, rfl⟩ o hO
  cases h0
  obtain ⟨x0, rfl, hm0⟩ := rows_map (f := rowE) (Ok := EV.inMem) (fun row hm => ofE (hr0 row hm))
  simp only [List.length_map] at hl0
  cases h1
  obtain ⟨x1, rfl, hm1⟩ := rows_map (f := rowF) (Ok := FV.inMem) (fun row hm => ofF (hr1 row hm))
  simp only [List.length_map] at hl1
  obtain ⟨x2, rfl⟩ := ofC hp2
  cases h3
  have hreach : reachBytes ≤ 140737488351232 := by decide
  exact lawStays_ok o hO x0 x1 x2 x3 (by omega) (by omega)
theorem hE (W : World) (h : laidMetH Tryz.prog Rows.treeStaysRow.laid W) : ∃ o, W.heap[0]? = some o ∧ LaidE o := by
  have h' : laidMet Tryz.prog [("unicode/utf8.acceptRanges", Rows.laid_unicode_utf8_acceptRanges), ("unicode/utf8.first", Rows.laid_unicode_utf8_first)] W ∧ handlesMet Tryz.prog [("errors.errorType", Rows.laid_errors_errorType)] W := h
  obtain ⟨name, u, ty, e1, e2, e3, e4, e5⟩ := h'.2 _ (List.mem_singleton.2 rfl)
  have en : name = [101, 114, 114, 111, 114] := (Option.some.inj e1).symm
  subst en
  obtain rfl := Option.some.inj ((show (Tryz.prog.cutTypes.find? (·.1 == "internal/reflectlite.rtype")).map (·.2) = some 139 by kernel_rfl).symm.trans e2)
  have hm : ty ∈ (List.range Tryz.prog.types.size).filter fun t => Tryz.prog.rowNamed t [101, 114, 114, 111, 114] := List.mem_filter.2 ⟨List.mem_range.2 e3, e4⟩
  rw [show ((List.range Tryz.prog.types.size).filter fun t => Tryz.prog.rowNamed t [101, 114, 114, 111, 114]) = [29] by kernel_rfl] at hm
  obtain rfl := List.mem_singleton.1 hm
  rw [show typeHandle Tryz.prog 29 = .pointer (some ⟨4, 29, none⟩) by kernel_rfl] at e5
  have hc := World.var?_cell (show Tryz.prog.globalNamed "errors.errorType" = some 0 by kernel_rfl) e5 0
  unfold World.cell? at hc
  split at hc
  · rename_i c T fr ho
    exact ⟨_, ho, c, T, fr, rfl, by simpa using hc⟩
  · cases hc
def plain : List (String × DataW Unit) := [("unicode/utf8.acceptRanges", Rows.laid_unicode_utf8_acceptRanges), ("unicode/utf8.first", Rows.laid_unicode_utf8_first)]
noncomputable def w0 (os : Os) : World := { World.holding Tryz.prog os ⟨#[], #[], []⟩ with heap := (World.holding Tryz.prog os ⟨#[], #[], []⟩).heap.modify 0 fun
  | .cells _ t fr => .cells #[.iface 139 (.agg #[.pointer (some ⟨4, 29, none⟩)])] t fr
  | o => o }
noncomputable def w1 (os : Os) : World := (w0 os).layVars Tryz.prog plain
theorem plain_met (os : Os) : laidMet Tryz.prog plain (w1 os) := by
  have e1 : (plain.filter fun x => (plain.map (·.1)).contains x.1) = plain := List.filter_eq_self.2 fun x hx => List.contains_iff_mem.2 (List.mem_map.2 ⟨x, hx, rfl⟩)
  have e2 : (plain.filter fun x => !(plain.map (·.1)).contains x.1) = [] := List.filter_eq_nil_iff.2 fun x hx => by rw [List.contains_iff_mem.2 (List.mem_map.2 ⟨x, hx, rfl⟩)]; simp
  exact laidMet_layVars (w0 := w0 os) (plain.map (·.1)) [] (by rw [e1]; rfl) (by rw [e1]; kernel_rfl) (by rw [e1]; kernel_rfl) (by rw [e2]; exact LaidIn.none)
theorem door_met (os : Os) (args : Array Value) : laidMetH Tryz.prog Rows.treeStaysRow.laid ((w1 os).forCall (fun _ _ => 0) ⟨#[], args, []⟩).memory :=
  laidMetH_of_parts (show laidMet Tryz.prog plain _ from (plain_met os).of_heap (by simp [World.memory, World.forCall, Input.heap])) (by kernel_rfl)
set_option maxRecDepth 100000 in
theorem law_lift (os : Os) (started : os.Started) (H : Type) (enc : TypeId × Value → H) :
    ReturnsInHanded {} Tryz.checked os 9 .any (fun w args => (Rows.treeStaysSpec.pre enc Tryz.prog Tryz.f9 [] false w args ∧ laidMetH Tryz.prog Rows.treeStaysRow.laid w) ∧ sizedMet enc Tryz.prog Tryz.f9 (OpenSpec.ofChange Rows.treeStaysSpec) false w args) (Rows.treeStaysSpec.post enc Tryz.prog Tryz.f9 false true false false) :=
  law_liftedF (C := Tryz.checked) (ps := pars) own started (by kernel_rfl) Tryz.func9
    (ChangeSpec.witness_shaped (enc := enc) (C := Tryz.checked) (os := os) (X := fun w _ => laidMetH Tryz.prog Rows.treeStaysRow.laid w) false (w1 os) #[.slice none 0 0, .slice none 0 0, .agg #[.int .i64 0, .int .i64 0, .int .i64 0], .string ByteArray.empty] 8 (World.layVars_os _ _ _)
      (World.shaped_of_ZipB (by kernel_rfl) (by kernel_rfl)) (by kernel_rfl) (by kernel_rfl) (by kernel_rfl) (door_met os _))
    laidOut rfl rfl Tryz.underlying4 rfl
    (fun ds hds => by
      match ds, hds with
      | [_, _, _, _], _ => rfl) pars_ok LaidE hE law_ok
theorem law_over : Rows.treeStaysRow.holds Tryz.pinned (OpenSpec.ofChange Rows.treeStaysSpec) :=
  OpenClaim.holds_of_wide 9 Tryz.f9 rfl rfl rfl rfl rfl rfl rfl ⟨rfl, rfl, rfl, rfl, rfl⟩ rfl rfl rfl rfl rfl (by kernel_rfl) Tryz.func9 (by kernel_rfl)
    (of_decide_eq_true (by kernel_rfl)) (by unfold Func.isWrapper; first | (rw [if_pos (by decide +kernel)]; kernel_rfl) | (rw [if_neg (by decide +kernel)]; exact ⟨rfl, rfl⟩))
    (fun os started H enc _ => law_lift os started H enc)
theorem TreeStays_holds : Rows.TreeStaysCardSaid :=
  Claim7.holds_tied_plain_at .later [] [.data, .handle, .pinned] true Rows.treeStaysCard.stood.harness Rows.treeStaysCard.stood.looks law_over (fun _ h => by cases h) (by kernel_rfl) (fun _ h => by cases h) treeStays_row_tie rfl ⟨rfl, rfl⟩ (by kernel_rfl) rfl
    (fun f fn hf hfn => by
      obtain rfl : f = 9 := Option.some.inj ((show Tryz.prog.funcNamed "becket/becketlaw04.TreeStays" = some 9 by kernel_rfl).symm.trans hf) |>.symm
      obtain rfl : fn = Tryz.f9 := (Option.some.inj (Tryz.func9.symm.trans hfn)).symm
      exact ⟨by kernel_rfl, fun j t ht => by
        have hm : t ∈ ([27, 22, 24, 9] : List Nat) := by
          have e := Array.mem_of_getElem? ht
          rw [Tryz.params9] at e
          simpa using e
        have hall : (([27, 22, 24, 9] : List Nat).all fun u => !Tryz.prog.wantsStandIn u) = true := by kernel_rfl
        exact (show Tryz.prog.wantsStandIn t = false by simpa using List.all_eq_true.1 hall t hm)⟩)
    (by kernel_rfl)
#print axioms TreeStays_holds
end Go.Proofs.YtmekcbbieacioaaGreatDoor
