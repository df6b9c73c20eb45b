/- The law TreeMore: for every input it says true: with one file more all entries are there as they were, and one more. No condition. -/
import Derived.Test.YtmekcbbieacioaaDoorP2
import Derived.Test.YtmekcbbieacioaaDoorAlZs
import Derived.Test.YtmekcbbieacioaaDoorAlZn
import Derived.KernelRfl
import Derived.Test.YtmekcbbieacioaaDoorRows
import Derived.Test.YtmekcbbieacioaaDoorTie
import Derived.Test.YtmekcbbieacioaaDoorCards
import Derived.Lay
import Derived.LaidMore
import Derived.LaidHandle
import Derived.LaidOnce
import Derived.FnData
import Derived.Test.YtmekcbbieacioaaDoorAlZr
set_option linter.all false
namespace Go.Proofs.YtmekcbbieacioaaDoorFn
open Go.Proofs.YtmekcbbieacioaaDoorAl Go.Proofs.Tryd
attribute [local irreducible] IntKind.wrap CodeOk OpsL OpG ACalls thn inBlk rndR cutR WkR Wk fnR DW ExtOk partsOf
/-! ### a tree is built -/
def fileE (c : CV) (f : FV) : EV := ⟨f.path, f.bytes.size, c.split f.bytes.size f.bytes⟩
def badFile (l : List FV) : Nat → Nat → Option (Nat × Int)
  | 0, _ => none
  | f + 1, i => match l[i]? with
    | none => none
    | some e => match fileC l i e with
      | some n => some (i, n)
      | none => badFile l f (i + 1)
theorem badFile_step (l : List FV) (k : Nat) (h : k < l.length) : badFile l (l.length - k) k = match fileC l k l[k] with
    | some n => some (k, n)
    | none => badFile l (l.length - (k + 1)) (k + 1) := by
  have e : l.length - k = l.length - (k + 1) + 1 := by omega
  rw [e]
  simp only [badFile, List.getElem?_eq_getElem h]
def buildC (l : List FV) (c : CV) : AV := if c.ok = false then .tuple [.st .nilsl, errE 1] else if 32 < l.length then .tuple [.st .nilsl, errE 7] else match badFile l l.length 0 with
  | none => .tuple [.st (.sl 3 ((srtE (l.map (fileE c))).map rowE)), nilE]
  | some (i, n) => .tuple [.st .nilsl, spotE i n]
theorem rowE1_one (e : EV) : ∀ row ∈ [rowE e], ∀ y ∈ row, SV.one y = true := by
  intro row hr y hy
  simp only [List.mem_singleton] at hr
  subst hr
  simp only [rowE, List.mem_cons, List.not_mem_nil, or_false] at hy
  rcases hy with rfl | rfl | rfl <;> rfl
theorem fileC_size {l : List FV} {i : Nat} {f : FV} (h : fileC l i f = none) : f.bytes.size ≤ 1024 := by
  unfold fileC at h
  split at h
  · split at h
    · cases h
    · omega
  · cases h
set_option maxHeartbeats 8000000 in
set_option maxRecDepth 4000 in
theorem build_ok (l : List FV) (c : CV) (hl : l.length ≤ 4000000000) (hp : ∀ e ∈ l, e.path.size ≤ 4000000000 - 1) (hb : ∀ e ∈ l, e.bytes.size ≤ 4000000000) :
    ACalls prog 6 0 [.st (.sl 2 (l.map rowF)), cutE c] [] fun r h => r = buildC l c ∧ h = [] := by
  have hmay := may3_ok c
  have hm : (List.map rowF l).length = l.length := List.length_map _
  unfold buildC
  refine fnC lay_ok func6 rfl rfl rfl rfl rfl ?_
  cases hok : c.ok with
  | false =>
    rw [hok] at hmay
    repeat' first | refine wr (by omega) ?_ | refine ln ?_ | refine stp lay_ok rfl ?_ | refine fin ?_ | refine n_thn ?_ | refine n_blk ?_ | refine e_thn ?_ | refine e_hit ?_ | refine e_miss rfl ?_ | refine r_thn ?_ | refine r_blk ?_ | refine e_rr ?_ | refine r_rr ?_ | refine e_cr ?_ | refine r_cr ?_ | refine .seq ?_ | refine reg ?_ | refine .block ?_ | refine .skip ?_ | refine .ret ?_ | refine .exit ?_ | refine cndT rfl ?_ | refine cndF rfl ?_ | refine c_dec rfl (fun hc => ?_) (fun hc => ?_) | refine c_ndec rfl (fun hc => ?_) (fun hc => ?_) | refine cnd rfl (fun hc => ?_) (fun hc => ?_) | ((first | refine o_none rfl ?_ | refine o_none_ ?_ | refine o_yes rfl rfl rfl ?_ | refine o_yes_ rfl rfl ?_); first | refine st_pure (hmay) b10 rfl rfl rfl rfl ?_) | refine gd rfl rfl rfl (fun hg => ?_) (fun hg => ?_) | refine gn rfl rfl rfl (fun hg => ?_) (fun hg => ?_)
    all_goals first
      | (exfalso; omega)
      | skip
    refine f_r [] rfl trivial rfl ⟨?_, rfl⟩
    rfl
  | true =>
    rw [hok] at hmay
    rw [if_neg (by simp)]
    by_cases h32 : 32 < l.length
    · rw [if_pos h32]
      repeat' first | refine wr (by omega) ?_ | refine ln ?_ | refine stp lay_ok rfl ?_ | refine fin ?_ | refine n_thn ?_ | refine n_blk ?_ | refine e_thn ?_ | refine e_hit ?_ | refine e_miss rfl ?_ | refine r_thn ?_ | refine r_blk ?_ | refine e_rr ?_ | refine r_rr ?_ | refine e_cr ?_ | refine r_cr ?_ | refine .seq ?_ | refine reg ?_ | refine .block ?_ | refine .skip ?_ | refine .ret ?_ | refine .exit ?_ | refine cndT rfl ?_ | refine cndF rfl ?_ | refine c_dec rfl (fun hc => ?_) (fun hc => ?_) | refine c_ndec rfl (fun hc => ?_) (fun hc => ?_) | refine cnd rfl (fun hc => ?_) (fun hc => ?_) | ((first | refine o_none rfl ?_ | refine o_none_ ?_ | refine o_yes rfl rfl rfl ?_ | refine o_yes_ rfl rfl ?_); first | refine st_pure (hmay) b10 rfl rfl rfl rfl ?_) | refine gd rfl rfl rfl (fun hg => ?_) (fun hg => ?_) | refine gn rfl rfl rfl (fun hg => ?_) (fun hg => ?_)
      all_goals first
        | (exfalso; omega)
        | skip
      refine f_r [] rfl trivial rfl ⟨?_, rfl⟩
      rfl
    rw [if_neg h32]
    repeat' first | refine wr (by omega) ?_ | refine ln ?_ | refine stp lay_ok rfl ?_ | refine fin ?_ | refine n_thn ?_ | refine n_blk ?_ | refine e_thn ?_ | refine e_hit ?_ | refine e_miss rfl ?_ | refine r_thn ?_ | refine r_blk ?_ | refine e_rr ?_ | refine r_rr ?_ | refine e_cr ?_ | refine r_cr ?_ | refine .seq ?_ | refine reg ?_ | refine .block ?_ | refine .skip ?_ | refine .ret ?_ | refine .exit ?_ | refine cndT rfl ?_ | refine cndF rfl ?_ | refine c_dec rfl (fun hc => ?_) (fun hc => ?_) | refine c_ndec rfl (fun hc => ?_) (fun hc => ?_) | refine cnd rfl (fun hc => ?_) (fun hc => ?_) | ((first | refine o_none rfl ?_ | refine o_none_ ?_ | refine o_yes rfl rfl rfl ?_ | refine o_yes_ rfl rfl ?_); first | refine st_pure (hmay) b10 rfl rfl rfl rfl ?_) | refine gd rfl rfl rfl (fun hg => ?_) (fun hg => ?_) | refine gn rfl rfl rfl (fun hg => ?_) (fun hg => ?_)
    all_goals first
      | (exfalso; omega)
      | skip
    refine CodeOk.wk (Wk.nilT 3 6 rfl rfl) (Nat.le_succ _) ?_
    refine nrm rfl rfl ?_
    refine lpR (fun (k, out) => k ≤ l.length ∧ badFile l l.length 0 = badFile l (l.length - k) k ∧ out = (l.take k).map (fileE c)) (fun (k, out) => l.length - k) (fun (k, out) => [(24, I k), (6, .lsl 2 3 0 (out.map rowE).length)]) (fun (k, out) => [(2, .arr 3 (out.map rowE))]) ((0, [])) [0, 3, 22, 23] [] [1] rfl rfl rfl (.of [1] (by (repeat' first | exact trivial | refine And.intro ?_ ?_ | rfl); first | done | fail) (by (repeat' first | exact trivial | refine And.intro ?_ ?_ | rfl); first | done | fail) rfl) ?_ ?_
    · exact ⟨Nat.zero_le _, rfl, rfl⟩
    rintro ⟨k, out⟩ ⟨g1, g2, g3⟩
    refine nrm rfl rfl ?_
    have hmo : (List.map rowE out).length = out.length := List.length_map _
    have hol : out.length = k := by rw [g3]; simp; omega
    by_cases hk : k < l.length
    case neg =>
      have hke : k = l.length := by omega
      subst hke
      rw [List.take_length] at g3
      rw [Nat.sub_self] at g2
      rw [g2, badFile, ← g3]
      have hs := sort_ok out (by omega)
      have hlen : out.length = (List.map rowE (srtE out)).length := by rw [List.length_map, (srtE_facts out).1.length_eq]
      rw [hmo]
      generalize srtE out = so at *
      rw [hlen] at hs ⊢
      repeat' first | refine wr (by omega) ?_ | refine ln ?_ | refine stp lay_ok rfl ?_ | refine fin ?_ | refine n_thn ?_ | refine n_blk ?_ | refine e_thn ?_ | refine e_hit ?_ | refine e_miss rfl ?_ | refine r_thn ?_ | refine r_blk ?_ | refine e_rr ?_ | refine r_rr ?_ | refine e_cr ?_ | refine r_cr ?_ | refine .seq ?_ | refine reg ?_ | refine .block ?_ | refine .skip ?_ | refine .ret ?_ | refine .exit ?_ | refine cndT rfl ?_ | refine cndF rfl ?_ | refine c_dec rfl (fun hc => ?_) (fun hc => ?_) | refine c_ndec rfl (fun hc => ?_) (fun hc => ?_) | refine cnd rfl (fun hc => ?_) (fun hc => ?_) | ((first | refine o_none rfl ?_ | refine o_none_ ?_ | refine o_yes rfl rfl rfl ?_ | refine o_yes_ rfl rfl ?_); first | refine st_callF 0 (hs) b13 rfl rfl rfl rfl rfl rfl (by (repeat' first | exact trivial | refine And.intro ?_ ?_ | rfl); first | done | fail) rfl ?_) | refine gd rfl rfl rfl (fun hg => ?_) (fun hg => ?_) | refine gn rfl rfl rfl (fun hg => ?_) (fun hg => ?_)
      all_goals first
        | (exfalso; omega)
        | skip
      refine f_end (n0 := 0) (t'' := [(4, .st (.sl 3 (so.map rowE))), (5, nilE)]) (h'' := []) (Wk.then (Wk.frz 2 [4, 5] rfl rfl rfl (by (repeat' first | exact trivial | refine And.intro ?_ ?_ | rfl); first | done | fail) (by (repeat' first | exact trivial | refine And.intro ?_ ?_ | rfl); first | done | fail) rfl rfl) (WkR.of [] (by (repeat' first | exact trivial | refine And.intro ?_ ?_ | rfl); first | done | fail) (by (repeat' first | exact trivial | refine And.intro ?_ ?_ | rfl); first | done | fail) rfl)) rfl rfl ⟨?_, rfl⟩
      rfl
    have hat := at_rowF hk
    have hf := file_ok l k hk hl hp
    have hst := badFile_step l k hk
    have hbk := hb _ (List.getElem_mem hk)
    have htk : (l.take (k + 1)).map (fileE c) = out ++ [fileE c l[k]] := by
      rw [g3, List.take_succ_eq_append_getElem hk, List.map_append]; rfl
    generalize he : l[k] = e at *
    have hsp := split3_ok c e.bytes hbk
    have hr : List.map rowE out ++ [rowE (fileE c e)] = List.map rowE (out ++ [fileE c e]) := by rw [List.map_append]; rfl
    cases hx : fileC l k e with
    | some n =>
      rw [hx] at hf hst
      rw [hst] at g2
      rw [g2]
      obtain ⟨p, z⟩ := e
      repeat' first | refine o_frb 4 [.int .i64 k, .iface 41 (.int .i64 n)] rfl rfl rfl (by (repeat' first | exact trivial | refine And.intro ?_ ?_ | rfl); first | done | fail) (by (repeat' first | exact trivial | refine And.intro ?_ ?_ | rfl); first | done | fail) rfl rfl ?_ | refine wr (by omega) ?_ | refine ln ?_ | refine stp lay_ok rfl ?_ | refine fin ?_ | refine n_thn ?_ | refine n_blk ?_ | refine e_thn ?_ | refine e_hit ?_ | refine e_miss rfl ?_ | refine r_thn ?_ | refine r_blk ?_ | refine e_rr ?_ | refine r_rr ?_ | refine e_cr ?_ | refine r_cr ?_ | refine .seq ?_ | refine reg ?_ | refine .block ?_ | refine .skip ?_ | refine .ret ?_ | refine .exit ?_ | refine cndT rfl ?_ | refine cndF rfl ?_ | refine c_dec rfl (fun hc => ?_) (fun hc => ?_) | refine c_ndec rfl (fun hc => ?_) (fun hc => ?_) | refine cnd rfl (fun hc => ?_) (fun hc => ?_) | ((first | refine o_none rfl ?_ | refine o_none_ ?_ | refine o_yes rfl rfl rfl ?_ | refine o_yes_ rfl rfl ?_); first | refine st_index (rowF ⟨p, z⟩) lay_ok rfl rfl rfl rfl (by omega) hat ?_ | refine st_pure (hf) b11 rfl rfl rfl rfl ?_) | refine gd rfl rfl rfl (fun hg => ?_) (fun hg => ?_) | refine gn rfl rfl rfl (fun hg => ?_) (fun hg => ?_)
      all_goals first
        | (exfalso; omega)
        | skip
      refine f_r [] rfl trivial rfl ⟨?_, rfl⟩
      rfl
    | none =>
      have hz := fileC_size hx
      rw [hx] at hf hst
      rw [hst] at g2
      rw [splR, hok, if_neg (by simp), if_neg (by omega)] at hsp
      obtain ⟨p, z⟩ := e
      repeat' first | refine wr (by omega) ?_ | refine ln ?_ | refine stp lay_ok rfl ?_ | refine fin ?_ | refine n_thn ?_ | refine n_blk ?_ | refine e_thn ?_ | refine e_hit ?_ | refine e_miss rfl ?_ | refine r_thn ?_ | refine r_blk ?_ | refine e_rr ?_ | refine r_rr ?_ | refine e_cr ?_ | refine r_cr ?_ | refine .seq ?_ | refine reg ?_ | refine .block ?_ | refine .skip ?_ | refine .ret ?_ | refine .exit ?_ | refine cndT rfl ?_ | refine cndF rfl ?_ | refine c_dec rfl (fun hc => ?_) (fun hc => ?_) | refine c_ndec rfl (fun hc => ?_) (fun hc => ?_) | refine cnd rfl (fun hc => ?_) (fun hc => ?_) | ((first | refine o_none rfl ?_ | refine o_none_ ?_ | refine o_yes rfl rfl rfl ?_ | refine o_yes_ rfl rfl ?_); first | refine st_index (rowF ⟨p, z⟩) lay_ok rfl rfl rfl rfl (by omega) hat ?_ | refine st_pure (hf) b11 rfl rfl rfl rfl ?_ | refine st_pure (hsp) b12 rfl rfl rfl rfl ?_ | refine st_append lay_ok rfl rfl rfl rfl rfl rfl rfl rfl (.lsl rfl rfl) (.sl (rows := [rowE (fileE c ⟨p, z⟩)])) rfl (rowE1_one (fileE c ⟨p, z⟩)) (by simp only [List.length_cons, List.length_nil]; omega) (by simp only [List.length_cons, List.length_nil]; omega) ?_) | refine gd rfl rfl rfl (fun hg => ?_) (fun hg => ?_) | refine gn rfl rfl rfl (fun hg => ?_) (fun hg => ?_)
      all_goals first
        | (exfalso; omega)
        | skip
      rw [hr]
      refine n_rr ((k + 1, out ++ [fileE c ⟨p, z⟩])) ?_ (.of [4] (by (repeat' first | exact trivial | refine And.intro ?_ ?_ | rfl); first | done | fail) (by (repeat' first | exact trivial | refine And.intro ?_ ?_ | rfl); first | done | fail) rfl) ?_
      · show l.length - (k + 1) < l.length - k
        omega
      · exact ⟨hk, g2, htk.symm⟩
end Go.Proofs.YtmekcbbieacioaaDoorFn
namespace Go.Proofs.YtmekcbbieacioaaDoorFn
open Go.Proofs.YtmekcbbieacioaaDoorAl Go.Proofs.Tryd
/-! ### sorted while built -/
def insE (d : Array EV) (e : EV) : Array EV := Sort.insInner (ltC cmE) 0 d.size (d.push e)
theorem ins_facts (d : Array EV) (e : EV) (hs : Sort.SortedIn (ltC cmE) 0 d.size d) : (insE d e).size = d.size + 1 ∧ (insE d e).toList.Perm (d.toList ++ [e]) ∧ Sort.SortedIn (ltC cmE) 0 (d.size + 1) (insE d e) := by
  have hg : ∀ q, q < d.size → (d.push e)[q]! = d[q]! := fun q hq => by
    rw [getElem!_pos (d.push e) q (by simp; omega), getElem!_pos d q hq, Array.getElem_push_lt]
  have h := Sort.insInner_spec cmE_swo Sort.swp_permIn Sort.permIn_refl Sort.permIn_trans 0 (d.size + 1) d.size (by omega) d.size (d.push e) (Nat.zero_le _) (Nat.le_refl _) (by simp)
    ⟨fun p q _ hpq hq hp hq2 => by rw [hg p (by omega), hg q (by omega)]; exact hs p q (Nat.zero_le _) hpq (by omega), fun q h1 h2 => by omega⟩
  obtain ⟨⟨h1, _, h2⟩, h3⟩ := h
  have hz : (insE d e).size = d.size + 1 := by unfold insE; rw [h1]; simp
  refine ⟨hz, ?_, h3⟩
  have ht : (insE d e).toList.take (d.size + 1) = (insE d e).toList := List.take_of_length_le (by simp [hz])
  have ht2 : (d.toList ++ [e]).take (d.size + 1) = d.toList ++ [e] := List.take_of_length_le (by simp)
  have h2' : ((insE d e).extract 0 (d.size + 1)).toList.Perm ((d.push e).extract 0 (d.size + 1)).toList := h2
  simpa [ht, ht2] using h2'
theorem path_eq {x y : EV} (h1 : ltC cmE x y = false) (h2 : ltC cmE y x = false) : x.path = y.path := by
  rw [cmE_lt] at h1 h2
  simp only [Sort.ltStr, decide_eq_false_iff_not, List.not_lt] at h1 h2
  exact WideShapes.bytes_inj (List.le_antisymm h2 h1)
theorem sorted_eq : ∀ (a b : List EV), a.Perm b → (a.Pairwise fun x y => ltC cmE y x = false) → (b.Pairwise fun x y => ltC cmE y x = false) → (∀ x ∈ a, ∀ y ∈ a, x.path = y.path → x = y) → a = b
  | [], b, hp, _, _, _ => (List.Perm.nil_eq hp)
  | x :: t, [], hp, _, _, _ => by have := hp.length_eq; simp at this
  | x :: t, y :: u, hp, ha, hb, hd => by
    have hxy : x = y := by
      have hx : x ∈ y :: u := hp.mem_iff.1 List.mem_cons_self
      have hy : y ∈ x :: t := hp.mem_iff.2 List.mem_cons_self
      rcases List.mem_cons.1 hx with h | h
      · exact h
      rcases List.mem_cons.1 hy with h' | h'
      · exact h'.symm
      exact hd x List.mem_cons_self y hy (path_eq ((List.pairwise_cons.1 hb).1 x h) ((List.pairwise_cons.1 ha).1 y h'))
    subst hxy
    rw [sorted_eq t u hp.cons_inv (List.pairwise_cons.1 ha).2 (List.pairwise_cons.1 hb).2 fun p hp' q hq => hd p (List.mem_cons_of_mem _ hp') q (List.mem_cons_of_mem _ hq)]
end Go.Proofs.YtmekcbbieacioaaDoorFn
namespace Go.Proofs.YtmekcbbieacioaaDoorFn
open Go.Proofs.YtmekcbbieacioaaDoorAl Go.Proofs.Tryd
attribute [local irreducible] IntKind.wrap CodeOk OpsL OpG ACalls thn inBlk rndR cutR WkR Wk fnR DW ExtOk partsOf
theorem b4 : HasBody prog 4 := ⟨f4, func4, Option.some_ne_none _, by decide⟩
theorem b5 : HasBody prog 5 := ⟨f5, func5, Option.some_ne_none _, by decide⟩
/-! ### the head of the statements -/
def fA : FV := ⟨⟨#[97]⟩, ⟨#[120, 121, 122]⟩⟩
def cA : CV := ⟨2, 2, 0⟩
def eA : EV := ⟨⟨#[97]⟩, 3, [⟨#[120, 121]⟩, ⟨#[122]⟩]⟩
theorem buildA : buildC [fA] cA = .tuple [.st (.sl 3 [rowE eA]), nilE] := by
  have h1 : badFile [fA] 1 0 = none := by kernel_rfl
  have h2 : fileE cA fA = eA := by kernel_rfl
  have h3 : srtE [fileE cA fA] = [fileE cA fA] := List.perm_singleton.1 (srtE_facts _).1
  unfold buildC
  rw [if_neg (by decide), if_neg (by decide)]
  show (match badFile [fA] 1 0 with
    | none => AV.tuple [.st (.sl 3 ((srtE [fileE cA fA]).map rowE)), nilE]
    | some (i, n) => .tuple [.st .nilsl, spotE i n]) = _
  rw [h1, h3, h2]
  rfl
theorem checkA : treeC [⟨⟨#[]⟩, 0, []⟩] = spotE 0 2 := by kernel_rfl
set_option maxHeartbeats 4000000 in
theorem up_ok (o' : Obj) (hO : LaidE o') : ACalls prog 4 1 [] [(0, .fact 0 o')] fun r h => r = B true ∧ h = [(0, .fact 0 o')] := by
  have hb := build_ok [fA] cA (by decide) (by simp [fA]; decide) (by simp [fA]; decide)
  rw [buildA] at hb
  have hc := treeCheck_ok [⟨⟨#[]⟩, 0, []⟩] (by decide) (by simp; decide) (by simp)
  rw [checkA] at hc
  have hi := Is_ok o' hO 0 2
  have r1 : (rowE eA) = [.str ⟨#[97]⟩, .int .i64 3, .sl 1 [rowS ⟨#[120, 121]⟩, rowS ⟨#[122]⟩]] := rfl
  rw [r1] at hb
  refine fnC lay_ok func4 rfl rfl rfl rfl rfl ?_
  repeat' first | refine wr (by omega) ?_ | refine ln ?_ | refine stp lay_ok rfl ?_ | refine fin ?_ | refine n_thn ?_ | refine n_blk ?_ | refine e_thn ?_ | refine e_hit ?_ | refine e_miss rfl ?_ | refine r_thn ?_ | refine r_blk ?_ | refine e_rr ?_ | refine r_rr ?_ | refine e_cr ?_ | refine r_cr ?_ | refine .seq ?_ | refine reg ?_ | refine .block ?_ | refine .skip ?_ | refine .ret ?_ | refine .exit ?_ | refine cndT rfl ?_ | refine cndF rfl ?_ | refine c_dec rfl (fun hc => ?_) (fun hc => ?_) | refine c_ndec rfl (fun hc => ?_) (fun hc => ?_) | refine cnd rfl (fun hc => ?_) (fun hc => ?_) | ((first | refine o_none rfl ?_ | refine o_none_ ?_ | refine o_yes rfl rfl rfl ?_ | refine o_yes_ rfl rfl ?_); first | refine st_pure (hb) b6 rfl rfl rfl rfl ?_ | refine st_pureL (hc) b8 rfl (by (repeat' first | exact AVLeL.nil | refine AVLeL.cons ?_ ?_ | exact AVLe.refl _ | refine AVLe.st ?_ | exact SLe.refl _ | exact SLe.nil _ | exact SLe.sl0 _ | refine SLe.agg ?_ | refine SLe.sl ?_ | refine SLe.iface ?_ | exact SLeL.nil | refine SLeL.cons ?_ ?_ | exact RLe.nil' | refine RLe.cons' rfl ?_ ?_); first | done | fail) rfl rfl rfl ?_ | refine st_callK [0] (hi) b9 rfl rfl rfl rfl rfl (by (repeat' first | exact trivial | refine And.intro ?_ ?_ | rfl); first | done | fail) ?_ | refine st_index [.str ⟨#[97]⟩, .int .i64 3, .sl 1 [rowS ⟨#[120, 121]⟩, rowS ⟨#[122]⟩]] lay_ok rfl rfl rfl rfl (by omega) rfl ?_ | refine st_index (rowS ⟨#[122]⟩) lay_ok rfl rfl rfl rfl (by omega) rfl ?_) | refine gd rfl rfl rfl (fun hg => ?_) (fun hg => ?_) | refine gn rfl rfl rfl (fun hg => ?_) (fun hg => ?_)
  refine f_r [(0, .fact 0 o')] rfl (by (repeat' first | exact trivial | refine And.intro ?_ ?_ | rfl); first | done | fail) rfl ⟨?_, rfl⟩
  rfl
def fewB (f : FV) : Bool := decide (f.path.size ≤ 2000) && decide (f.bytes.size ≤ 3000)
theorem few_ok (l : List FV) (hl : l.length ≤ 140737488351232) : ACalls prog 5 0 [.st (.sl 2 (l.map rowF))] [] fun r h => r = B (decide (l.length ≤ 100) && l.all fewB) ∧ h = [] := by
  have hm : (List.map rowF l).length = l.length := List.length_map _
  refine fnC lay_ok func5 rfl rfl rfl rfl rfl ?_
  by_cases h100 : l.length ≤ 100
  case neg =>
    repeat' first | refine wr (by omega) ?_ | refine ln ?_ | refine stp lay_ok rfl ?_ | refine fin ?_ | refine n_thn ?_ | refine n_blk ?_ | refine e_thn ?_ | refine e_hit ?_ | refine e_miss rfl ?_ | refine r_thn ?_ | refine r_blk ?_ | refine e_rr ?_ | refine r_rr ?_ | refine e_cr ?_ | refine r_cr ?_ | refine .seq ?_ | refine reg ?_ | refine .block ?_ | refine .skip ?_ | refine .ret ?_ | refine .exit ?_ | refine cndT rfl ?_ | refine cndF rfl ?_ | refine c_dec rfl (fun hc => ?_) (fun hc => ?_) | refine c_ndec rfl (fun hc => ?_) (fun hc => ?_) | refine cnd rfl (fun hc => ?_) (fun hc => ?_) | refine gd rfl rfl rfl (fun hg => ?_) (fun hg => ?_) | refine gn rfl rfl rfl (fun hg => ?_) (fun hg => ?_)
    all_goals first
      | (exfalso; omega)
      | skip
    refine f_r [] rfl trivial rfl ⟨?_, rfl⟩
    simp [retOf, h100]
  repeat' first | refine wr (by omega) ?_ | refine ln ?_ | refine stp lay_ok rfl ?_ | refine fin ?_ | refine n_thn ?_ | refine n_blk ?_ | refine e_thn ?_ | refine e_hit ?_ | refine e_miss rfl ?_ | refine r_thn ?_ | refine r_blk ?_ | refine e_rr ?_ | refine r_rr ?_ | refine e_cr ?_ | refine r_cr ?_ | refine .seq ?_ | refine reg ?_ | refine .block ?_ | refine .skip ?_ | refine .ret ?_ | refine .exit ?_ | refine cndT rfl ?_ | refine cndF rfl ?_ | refine c_dec rfl (fun hc => ?_) (fun hc => ?_) | refine c_ndec rfl (fun hc => ?_) (fun hc => ?_) | refine cnd rfl (fun hc => ?_) (fun hc => ?_) | refine gd rfl rfl rfl (fun hg => ?_) (fun hg => ?_) | refine gn rfl rfl rfl (fun hg => ?_) (fun hg => ?_)
  all_goals first
    | (exfalso; omega)
    | skip
  refine lpR (fun k => k ≤ l.length ∧ (l.take k).all fewB = true) (fun k => l.length - k) (fun k => [(3, I k)]) (fun k => []) (0) [0] [] [] rfl rfl rfl (.of [] (by (repeat' first | exact trivial | refine And.intro ?_ ?_ | rfl); first | done | fail) (by (repeat' first | exact trivial | refine And.intro ?_ ?_ | rfl); first | done | fail) rfl) ?_ ?_
  · exact ⟨Nat.zero_le _, rfl⟩
  rintro k ⟨g1, g2⟩
  refine nrm rfl rfl ?_
  by_cases hk : k < l.length
  case neg =>
    have hke : k = l.length := by omega
    subst hke
    rw [List.take_length] at g2
    repeat' first | refine wr (by omega) ?_ | refine ln ?_ | refine stp lay_ok rfl ?_ | refine fin ?_ | refine n_thn ?_ | refine n_blk ?_ | refine e_thn ?_ | refine e_hit ?_ | refine e_miss rfl ?_ | refine r_thn ?_ | refine r_blk ?_ | refine e_rr ?_ | refine r_rr ?_ | refine e_cr ?_ | refine r_cr ?_ | refine .seq ?_ | refine reg ?_ | refine .block ?_ | refine .skip ?_ | refine .ret ?_ | refine .exit ?_ | refine cndT rfl ?_ | refine cndF rfl ?_ | refine c_dec rfl (fun hc => ?_) (fun hc => ?_) | refine c_ndec rfl (fun hc => ?_) (fun hc => ?_) | refine cnd rfl (fun hc => ?_) (fun hc => ?_) | refine gd rfl rfl rfl (fun hg => ?_) (fun hg => ?_) | refine gn rfl rfl rfl (fun hg => ?_) (fun hg => ?_)
    all_goals first
      | (exfalso; omega)
      | skip
    refine f_r [] rfl trivial rfl ⟨?_, rfl⟩
    rw [g2]
    simp [retOf, h100]
  have hat := at_rowF hk
  have htk : (l.take (k + 1)).all fewB = ((l.take k).all fewB && fewB l[k]) := by
    rw [List.take_succ_eq_append_getElem hk, List.all_append]; simp
  have hno : fewB l[k] = false → l.all fewB = false := fun h => by
    cases h' : l.all fewB with
    | false => rfl
    | true => rw [List.all_eq_true.1 h' _ (List.getElem_mem hk)] at h; cases h
  generalize l[k] = e at *
  obtain ⟨p, z⟩ := e
  repeat' first | refine wr (by omega) ?_ | refine ln ?_ | refine stp lay_ok rfl ?_ | refine fin ?_ | refine n_thn ?_ | refine n_blk ?_ | refine e_thn ?_ | refine e_hit ?_ | refine e_miss rfl ?_ | refine r_thn ?_ | refine r_blk ?_ | refine e_rr ?_ | refine r_rr ?_ | refine e_cr ?_ | refine r_cr ?_ | refine .seq ?_ | refine reg ?_ | refine .block ?_ | refine .skip ?_ | refine .ret ?_ | refine .exit ?_ | refine cndT rfl ?_ | refine cndF rfl ?_ | refine c_dec rfl (fun hc => ?_) (fun hc => ?_) | refine c_ndec rfl (fun hc => ?_) (fun hc => ?_) | refine cnd rfl (fun hc => ?_) (fun hc => ?_) | ((first | refine o_none rfl ?_ | refine o_none_ ?_ | refine o_yes rfl rfl rfl ?_ | refine o_yes_ rfl rfl ?_); first | refine st_index (rowF ⟨p, z⟩) lay_ok rfl rfl rfl rfl (by omega) hat ?_) | refine gd rfl rfl rfl (fun hg => ?_) (fun hg => ?_) | refine gn rfl rfl rfl (fun hg => ?_) (fun hg => ?_)
  all_goals first
    | (exfalso; omega)
    | skip
  · simp only at hg
    refine f_r [] rfl trivial rfl ⟨?_, rfl⟩
    rw [hno (by simp [fewB]; omega)]
    simp [retOf]
  · simp only at hg hc
    refine f_r [] rfl trivial rfl ⟨?_, rfl⟩
    rw [hno (by simp [fewB]; omega)]
    simp [retOf]
  · simp only at hg hc
    refine n_rr (k + 1) ?_ (.of [] (by (repeat' first | exact trivial | refine And.intro ?_ ?_ | rfl | exact congrArg (fun z : Int => some (AV.st (.int .i64 z))) (show (k : Int) + 1 = ((k + 1 : Nat) : Int) by omega)); first | done | fail) (by (repeat' first | exact trivial | refine And.intro ?_ ?_ | rfl | exact congrArg (fun z : Int => some (AV.st (.int .i64 z))) (show (k : Int) + 1 = ((k + 1 : Nat) : Int) by omega)); first | done | fail) rfl) ?_
    · omega
    · refine ⟨hk, ?_⟩
      rw [htk, g2]
      simp [fewB]; omega
end Go.Proofs.YtmekcbbieacioaaDoorFn
namespace Go.Proofs.YtmekcbbieacioaaDoorFn
open Go.Proofs.YtmekcbbieacioaaDoorAl Go.Proofs.Tryd
/-! ### both ways of building make the same tree -/
theorem clashB_self (a : ByteArray) : clashB a a = true := by simp [clashB]
theorem badFile_none (l : List FV) : ∀ f i, badFile l f i = none → ∀ j, i ≤ j → j < i + f → ∀ h : j < l.length, fileC l j l[j] = none
  | 0, i, _, j, h1, h2, _ => by omega
  | f + 1, i, hb, j, h1, h2, h => by
    have hi : i < l.length := by omega
    simp only [badFile, List.getElem?_eq_getElem hi] at hb
    cases hx : fileC l i l[i] with
    | some n => rw [hx] at hb; cases hb
    | none =>
      rw [hx] at hb
      by_cases hij : i = j
      · subst hij; exact hx
      · exact badFile_none l f (i + 1) hb j (by omega) (by omega) h
theorem apart_paths {l : List FV} (hb : badFile l l.length 0 = none) {i j : Nat} (hi : i < l.length) (hj : j < l.length) (hij : i < j) : l[i].path ≠ l[j].path := by
  intro he
  have h := badFile_none l l.length 0 hb j (Nat.zero_le _) (by omega) hj
  unfold fileC at h
  have hany : (l.take j).any (fun x => clashB x.path l[j].path) = true := by
    rw [List.any_eq_true]
    exact ⟨l[i], List.mem_take_iff_getElem.2 ⟨i, by omega, rfl⟩, by rw [he]; exact clashB_self _⟩
  rw [hany] at h
  split at h
  · split at h
    · cases h
    · cases h
  · cases h
theorem one_path (c : CV) {l : List FV} (hb : badFile l l.length 0 = none) : ∀ x ∈ l.map (fileE c), ∀ y ∈ l.map (fileE c), x.path = y.path → x = y := by
  intro x hx y hy he
  obtain ⟨a, ha, rfl⟩ := List.mem_map.1 hx
  obtain ⟨b, hb', rfl⟩ := List.mem_map.1 hy
  obtain ⟨i, hi, rfl⟩ := List.getElem_of_mem ha
  obtain ⟨j, hj, rfl⟩ := List.getElem_of_mem hb'
  rcases Nat.lt_trichotomy i j with h | h | h
  · exact absurd he (apart_paths hb hi hj h)
  · subst h; rfl
  · exact absurd he.symm (apart_paths hb hj hi h)
theorem fold_facts : ∀ (l : List EV) (d : Array EV), Sort.SortedIn (ltC cmE) 0 d.size d → (l.foldl insE d).toList.Perm (d.toList ++ l) ∧ Sort.SortedIn (ltC cmE) 0 (l.foldl insE d).size (l.foldl insE d)
  | [], d, h => ⟨by simp, h⟩
  | e :: r, d, h => by
    obtain ⟨h1, h2, h3⟩ := ins_facts d e h
    obtain ⟨k1, k2⟩ := fold_facts r (insE d e) (by rw [h1]; exact h3)
    refine ⟨?_, k2⟩
    have := k1.trans (h2.append_right r)
    simpa using this
theorem sortedIn_pairwise {d : Array EV} (h : Sort.SortedIn (ltC cmE) 0 d.size d) : d.toList.Pairwise fun x y => ltC cmE y x = false := by
  rw [List.pairwise_iff_getElem]
  intro i j hi hj hij
  have := h i j (Nat.zero_le _) hij (by simpa using hj)
  rw [getElem!_pos d i (by simpa using hi), getElem!_pos d j (by simpa using hj)] at this
  simpa using this
theorem build_same (l : List FV) (c : CV) (hb : badFile l l.length 0 = none) : ((l.map (fileE c)).foldl insE #[]).toList = srtE (l.map (fileE c)) := by
  obtain ⟨h1, h2⟩ := fold_facts (l.map (fileE c)) #[] (fun i j _ _ h => by simp at h)
  obtain ⟨k1, k2⟩ := srtE_facts (l.map (fileE c))
  have h1' : ((l.map (fileE c)).foldl insE #[]).toList.Perm (l.map (fileE c)) := by simpa using h1
  exact sorted_eq _ _ (h1'.trans k1.symm) (sortedIn_pairwise h2) k2 fun x hx y hy => one_path c hb x (h1'.mem_iff.1 hx) y (h1'.mem_iff.1 hy)
theorem CV.split_len (c : CV) : ∀ (n : Nat) (s : ByteArray), (c.split n s).length ≤ n
  | 0, _ => Nat.le_refl _
  | n + 1, s => by
    unfold CV.split
    split
    · simp
    · have := CV.split_len c n (s.extract (c.len s) s.size)
      simp; omega
theorem few_bounds {l : List FV} (h : l.all fewB = true) : ∀ e ∈ l, e.path.size ≤ 2000 ∧ e.bytes.size ≤ 3000 := fun e he => by
  have := List.all_eq_true.1 h e he
  simpa [fewB] using this
theorem srt_bounds (l : List FV) (c : CV) (h : ∀ e ∈ l, e.bytes.size ≤ 4000000000) : (srtE (l.map (fileE c))).length = l.length ∧ ∀ e ∈ srtE (l.map (fileE c)), e.keys.length ≤ 4000000000 := by
  have hp := (srtE_facts (l.map (fileE c))).1
  refine ⟨by rw [hp.length_eq, List.length_map], fun e he => ?_⟩
  obtain ⟨f, hf, rfl⟩ := List.mem_map.1 (hp.mem_iff.1 he)
  exact Nat.le_trans (c.split_len _ _) (h f hf)
end Go.Proofs.YtmekcbbieacioaaDoorFn
namespace Go.Proofs.YtmekcbbieacioaaDoorFn
open Go.Proofs.YtmekcbbieacioaaDoorAl Go.Proofs.Tryd
/-! ### one file more -/
theorem fileC_app (l : List FV) (x e : FV) (i : Nat) (h : i ≤ l.length) : fileC (l ++ [x]) i e = fileC l i e := by
  unfold fileC
  rw [List.take_append_of_le_length h]
theorem badFile_app (l : List FV) (x : FV) {r : Nat × Int} : ∀ f i, badFile l f i = some r → badFile (l ++ [x]) (f + 1) i = some r
  | 0, i, h => by simp [badFile] at h
  | f + 1, i, h => by
    rw [badFile] at h ⊢
    by_cases hi : i < l.length
    · have h1 : (l ++ [x])[i]? = some l[i] := by rw [List.getElem?_append_left hi, List.getElem?_eq_getElem hi]
      rw [List.getElem?_eq_getElem hi] at h
      rw [h1]
      simp only at h ⊢
      rw [fileC_app l x _ i (by omega)]
      cases hx : fileC l i l[i] with
      | some n => rw [hx] at h; exact h
      | none => rw [hx] at h; exact badFile_app l x f (i + 1) h
    · rw [List.getElem?_eq_none (by omega)] at h
      cases h
theorem badFile_more {l : List FV} {x : FV} (h : badFile (l ++ [x]) (l ++ [x]).length 0 = none) : badFile l l.length 0 = none := by
  cases hb : badFile l l.length 0 with
  | none => rfl
  | some r =>
    have := badFile_app l x l.length 0 hb
    rw [List.length_append] at h
    rw [show l.length + [x].length = l.length + 1 from rfl, this] at h
    cases h
theorem ins_split (e : EV) : ∀ a : List EV, (a.Pairwise fun x y => ltC cmE y x = false) → ∃ u v, a = u ++ v ∧ (u ++ e :: v).Pairwise fun x y => ltC cmE y x = false
  | [], _ => ⟨[], [], rfl, by simp⟩
  | y :: t, h => by
    obtain ⟨h1, h2⟩ := List.pairwise_cons.1 h
    cases hy : ltC cmE y e with
    | false =>
      refine ⟨[], y :: t, rfl, ?_⟩
      refine List.pairwise_cons.2 ⟨fun z hz => ?_, h⟩
      rcases List.mem_cons.1 hz with rfl | hz
      · exact hy
      · exact cmE_swo.ntrans _ _ _ (h1 z hz) hy
    | true =>
      obtain ⟨u, v, rfl, h3⟩ := ins_split e t h2
      refine ⟨y :: u, v, rfl, ?_⟩
      refine List.pairwise_cons.2 ⟨fun z hz => ?_, h3⟩
      rcases (show z ∈ u ∨ z = e ∨ z ∈ v by simpa using hz) with hz | rfl | hz
      · exact h1 z (List.mem_append_left _ hz)
      · cases hk : ltC cmE z y with
        | false => rfl
        | true => 
          have := cmE_swo.trans _ _ _ hy hk
          rw [cmE_swo.irrefl] at this
          cases this
      · exact h1 z (List.mem_append_right _ hz)
theorem more_split (l : List FV) (x : FV) (c : CV) (hb : badFile (l ++ [x]) (l ++ [x]).length 0 = none) :
    ∃ u v, srtE (l.map (fileE c)) = u ++ v ∧ srtE ((l ++ [x]).map (fileE c)) = u ++ fileE c x :: v ∧ ∀ e ∈ u ++ v, e.path ≠ x.path := by
  obtain ⟨k1, k2⟩ := srtE_facts (l.map (fileE c))
  obtain ⟨m1, m2⟩ := srtE_facts ((l ++ [x]).map (fileE c))
  obtain ⟨u, v, h1, h2⟩ := ins_split (fileE c x) _ k2
  have hp : (u ++ fileE c x :: v).Perm ((l ++ [x]).map (fileE c)) := by
    have e1 : (u ++ fileE c x :: v).Perm (fileE c x :: (u ++ v)) := List.perm_middle
    rw [← h1] at e1
    refine e1.trans ?_
    rw [List.map_append]
    exact (List.Perm.cons _ k1).trans (List.perm_append_singleton _ _).symm
  refine ⟨u, v, h1, sorted_eq _ _ (m1.trans hp.symm) m2 h2 fun p hp' q hq => one_path c hb p (m1.mem_iff.1 hp') q (m1.mem_iff.1 hq), fun e he hx => ?_⟩
  rw [← h1] at he
  obtain ⟨f, hf, rfl⟩ := List.mem_map.1 (k1.mem_iff.1 he)
  obtain ⟨i, hi, rfl⟩ := List.getElem_of_mem hf
  have hil : i < (l ++ [x]).length := by simp; omega
  have hxl : l.length < (l ++ [x]).length := by simp
  refine apart_paths hb hil hxl hi ?_
  rw [List.getElem_append_left hi, List.getElem_concat_length rfl]
  exact hx
end Go.Proofs.YtmekcbbieacioaaDoorFn
namespace Go.Proofs.YtmekcbbieacioaaDoorFn
open Go.Proofs.YtmekcbbieacioaaDoorAl Go.Proofs.Tryd
attribute [local irreducible] IntKind.wrap CodeOk OpsL OpG ACalls thn inBlk rndR cutR WkR Wk fnR DW ExtOk partsOf
theorem b16 : HasBody prog 16 := ⟨f16, func16, Option.some_ne_none _, by decide⟩
theorem b7 : HasBody prog 7 := ⟨f7, func7, Option.some_ne_none _, by decide⟩
theorem list_ext {α : Type} {a b : List α} (hl : a.length = b.length) (h : ∀ j (h1 : j < a.length) (h2 : j < b.length), a[j] = b[j]) : a = b := List.ext_getElem hl h
theorem same3_ok (a b : List ByteArray) (ha : a.length ≤ 4000000000) (hb : b.length ≤ 4000000000) : ACalls prog 16 0 [.st (.sl 1 (a.map rowS)), .st (.sl 1 (b.map rowS))] [] fun r h => r = B (decide (a = b)) ∧ h = [] := by
  have hma : (List.map rowS a).length = a.length := List.length_map _
  have hmb : (List.map rowS b).length = b.length := List.length_map _
  refine fnC lay_ok func16 rfl rfl rfl rfl rfl ?_
  repeat' first | refine wr (by omega) ?_ | refine ln ?_ | refine stp lay_ok rfl ?_ | refine fin ?_ | refine n_thn ?_ | refine n_blk ?_ | refine e_thn ?_ | refine e_hit ?_ | refine e_miss rfl ?_ | refine r_thn ?_ | refine r_blk ?_ | refine e_rr ?_ | refine r_rr ?_ | refine e_cr ?_ | refine r_cr ?_ | refine .seq ?_ | refine reg ?_ | refine .block ?_ | refine .skip ?_ | refine .ret ?_ | refine .exit ?_ | refine cndT rfl ?_ | refine cndF rfl ?_ | refine c_dec rfl (fun hc => ?_) (fun hc => ?_) | refine c_ndec rfl (fun hc => ?_) (fun hc => ?_) | refine cnd rfl (fun hc => ?_) (fun hc => ?_) | refine gd rfl rfl rfl (fun hg => ?_) (fun hg => ?_) | refine gn rfl rfl rfl (fun hg => ?_) (fun hg => ?_) | refine dwr (by omega) ?_ | refine dwl ?_ | refine dws lay_ok rfl rfl rfl rfl rfl rfl rfl ?_ | refine dwu lay_ok rfl rfl rfl rfl rfl rfl rfl rfl rfl ?_ | refine dw_end ?_ | refine dw_skip rfl rfl rfl ?_ | refine dwn lay_ok rfl rfl rfl rfl rfl ?_ | refine dw_dec rfl rfl rfl (fun hg => ?_) (fun hg => ?_) | refine dw_ndec rfl rfl rfl (fun hg => ?_) (fun hg => ?_)
  · refine f_r [] rfl trivial rfl ⟨?_, rfl⟩
    rw [decide_eq_false (by rintro rfl; omega)]; rfl
  · have hl : a.length = b.length := by omega
    refine lpR (fun k => k ≤ a.length ∧ ∀ j (h1 : j < a.length) (h2 : j < b.length), j < k → a[j] = b[j]) (fun k => a.length - k) (fun k => [(5, I k)]) (fun k => []) (0) [0, 1] [] [] rfl rfl rfl (.of [] (by (repeat' first | exact trivial | refine And.intro ?_ ?_ | rfl); first | done | fail) (by (repeat' first | exact trivial | refine And.intro ?_ ?_ | rfl); first | done | fail) rfl) ?_ ?_
    · exact ⟨Nat.zero_le _, fun j h1 h2 h3 => by omega⟩
    rintro k ⟨hk, hall⟩
    refine nrm rfl rfl ?_
    repeat' first | refine wr (by omega) ?_ | refine ln ?_ | refine stp lay_ok rfl ?_ | refine fin ?_ | refine n_thn ?_ | refine n_blk ?_ | refine e_thn ?_ | refine e_hit ?_ | refine e_miss rfl ?_ | refine r_thn ?_ | refine r_blk ?_ | refine e_rr ?_ | refine r_rr ?_ | refine e_cr ?_ | refine r_cr ?_ | refine .seq ?_ | refine reg ?_ | refine .block ?_ | refine .skip ?_ | refine .ret ?_ | refine .exit ?_ | refine cndT rfl ?_ | refine cndF rfl ?_ | refine c_dec rfl (fun hc => ?_) (fun hc => ?_) | refine c_ndec rfl (fun hc => ?_) (fun hc => ?_) | refine cnd rfl (fun hc => ?_) (fun hc => ?_) | refine gd rfl rfl rfl (fun hg => ?_) (fun hg => ?_) | refine gn rfl rfl rfl (fun hg => ?_) (fun hg => ?_) | refine dwr (by omega) ?_ | refine dwl ?_ | refine dws lay_ok rfl rfl rfl rfl rfl rfl rfl ?_ | refine dwu lay_ok rfl rfl rfl rfl rfl rfl rfl rfl rfl ?_ | refine dw_end ?_ | refine dw_skip rfl rfl rfl ?_ | refine dwn lay_ok rfl rfl rfl rfl rfl ?_ | refine dw_dec rfl rfl rfl (fun hg => ?_) (fun hg => ?_) | refine dw_ndec rfl rfl rfl (fun hg => ?_) (fun hg => ?_)
    · have hka : k < a.length := by omega
      have hkb : k < b.length := by omega
      have hat := at_rowS hka
      have hbt := at_rowS hkb
      refine dreg [(0, [], [18, 21, 22, 23, 24]), (1, [], [17, 21, 22, 23, 24]), (2, [0, 1], [21, 22, 23, 24]), (3, [0, 1, 2], [21, 22, 23, 24]), (4, [], [17, 18, 19, 20, 22]), (5, [], [17, 18, 19, 20, 21]), (6, [4, 5], [17, 18, 19, 20]), (7, [4, 5, 6], [17, 18, 19, 20]), (8, [0, 1, 2, 3, 4, 5, 6, 7], [])] mixed (by kernel_rfl) ?_
      repeat' first | refine wr (by omega) ?_ | refine ln ?_ | refine stp lay_ok rfl ?_ | refine fin ?_ | refine n_thn ?_ | refine n_blk ?_ | refine e_thn ?_ | refine e_hit ?_ | refine e_miss rfl ?_ | refine r_thn ?_ | refine r_blk ?_ | refine e_rr ?_ | refine r_rr ?_ | refine e_cr ?_ | refine r_cr ?_ | refine .seq ?_ | refine reg ?_ | refine .block ?_ | refine .skip ?_ | refine .ret ?_ | refine .exit ?_ | refine cndT rfl ?_ | refine cndF rfl ?_ | refine c_dec rfl (fun hc => ?_) (fun hc => ?_) | refine c_ndec rfl (fun hc => ?_) (fun hc => ?_) | refine cnd rfl (fun hc => ?_) (fun hc => ?_) | ((first | refine o_none rfl ?_ | refine o_none_ ?_ | refine o_yes rfl rfl rfl ?_ | refine o_yes_ rfl rfl ?_); first | refine st_index (rowS a[k]) lay_ok rfl rfl rfl rfl (by omega) hat ?_ | refine st_index (rowS b[k]) lay_ok rfl rfl rfl rfl (by omega) hbt ?_) | refine gd rfl rfl rfl (fun hg => ?_) (fun hg => ?_) | refine gn rfl rfl rfl (fun hg => ?_) (fun hg => ?_) | refine dwr (by omega) ?_ | refine dwl ?_ | refine dws lay_ok rfl rfl rfl rfl rfl rfl rfl ?_ | refine dwu lay_ok rfl rfl rfl rfl rfl rfl rfl rfl rfl ?_ | refine dw_end ?_ | refine dw_skip rfl rfl rfl ?_ | refine dwn lay_ok rfl rfl rfl rfl rfl ?_ | refine dwb rfl rfl rfl rfl rfl (by (first | refine st_index (rowS a[k]) lay_ok rfl rfl rfl rfl (by omega) hat ?_ | refine st_index (rowS b[k]) lay_ok rfl rfl rfl rfl (by omega) hbt ?_); exact fin rfl) rfl rfl ?_ | refine dwg rfl rfl rfl rfl rfl (by (first | refine st_index (rowS a[k]) lay_ok rfl rfl rfl rfl (by omega) hat ?_ | refine st_index (rowS b[k]) lay_ok rfl rfl rfl rfl (by omega) hbt ?_); exact fin rfl) rfl rfl rfl rfl rfl ?_ | refine dw_dec rfl rfl rfl (fun hg => ?_) (fun hg => ?_) | refine dw_ndec rfl rfl rfl (fun hg => ?_) (fun hg => ?_)
      · refine f_r [] rfl trivial rfl ⟨?_, rfl⟩
        rw [decide_eq_false (fun e => hc (by subst e; rfl))]; rfl
      · refine n_rr (k + 1) ?_ (.of [] (by (repeat' first | exact trivial | refine And.intro ?_ ?_ | rfl); first | done | fail) (by (repeat' first | exact trivial | refine And.intro ?_ ?_ | rfl); first | done | fail) rfl) ?_
        · omega
        · refine ⟨hka, fun j h1 h2 h3 => ?_⟩
          by_cases hj : j = k
          · subst hj; exact Decidable.not_not.1 hc
          · exact hall j h1 h2 (by omega)
    · refine f_r [] rfl trivial rfl ⟨?_, rfl⟩
      rw [decide_eq_true (list_ext hl fun j h1 h2 => hall j h1 h2 (by omega))]; rfl
theorem same4_ok (x y : EV) (ha : x.keys.length ≤ 4000000000) (hb : y.keys.length ≤ 4000000000) : ACalls prog 7 0 [.st (.agg (rowE x)), .st (.agg (rowE y))] [] fun r h => r = B (decide (x = y)) ∧ h = [] := by
  have h1 := same3_ok x.keys y.keys ha hb
  obtain ⟨p, z, ks⟩ := x
  obtain ⟨p', z', ks'⟩ := y
  simp only at *
  refine fnC lay_ok func7 rfl rfl rfl rfl rfl ?_
  repeat' first | refine wr (by omega) ?_ | refine ln ?_ | refine stp lay_ok rfl ?_ | refine fin ?_ | refine n_thn ?_ | refine n_blk ?_ | refine e_thn ?_ | refine e_hit ?_ | refine e_miss rfl ?_ | refine r_thn ?_ | refine r_blk ?_ | refine e_rr ?_ | refine r_rr ?_ | refine e_cr ?_ | refine r_cr ?_ | refine .seq ?_ | refine reg ?_ | refine .block ?_ | refine .skip ?_ | refine .ret ?_ | refine .exit ?_ | refine cndT rfl ?_ | refine cndF rfl ?_ | refine c_dec rfl (fun hc => ?_) (fun hc => ?_) | refine c_ndec rfl (fun hc => ?_) (fun hc => ?_) | refine cnd rfl (fun hc => ?_) (fun hc => ?_) | ((first | refine o_none rfl ?_ | refine o_none_ ?_ | refine o_yes rfl rfl rfl ?_ | refine o_yes_ rfl rfl ?_); first | refine st_pure (h1) b16 rfl rfl rfl rfl ?_) | refine gd rfl rfl rfl (fun hg => ?_) (fun hg => ?_) | refine gn rfl rfl rfl (fun hg => ?_) (fun hg => ?_) | refine dwr (by omega) ?_ | refine dwl ?_ | refine dws lay_ok rfl rfl rfl rfl rfl rfl rfl ?_ | refine dwu lay_ok rfl rfl rfl rfl rfl rfl rfl rfl rfl ?_ | refine dw_end ?_ | refine dw_skip rfl rfl rfl ?_ | refine dwn lay_ok rfl rfl rfl rfl rfl ?_ | refine dwb rfl rfl rfl rfl rfl (by (first | refine st_pure (h1) b16 rfl rfl rfl rfl ?_); exact fin rfl) rfl rfl ?_ | refine dwg rfl rfl rfl rfl rfl (by (first | refine st_pure (h1) b16 rfl rfl rfl rfl ?_); exact fin rfl) rfl rfl rfl rfl rfl ?_ | refine dw_dec rfl rfl rfl (fun hg => ?_) (fun hg => ?_) | refine dw_ndec rfl rfl rfl (fun hg => ?_) (fun hg => ?_)
  all_goals
    refine f_r [] rfl trivial rfl ⟨?_, rfl⟩
    simp_all [retOf, B]
end Go.Proofs.YtmekcbbieacioaaDoorFn
namespace Go.Proofs.YtmekcbbieacioaaDoorFn
open Go.Proofs.YtmekcbbieacioaaDoorAl Go.Proofs.Tryd
attribute [local irreducible] IntKind.wrap CodeOk OpsL OpG ACalls thn inBlk rndR cutR WkR Wk fnR DW ExtOk partsOf
theorem b3 : HasBody prog 3 := ⟨f3, func3, Option.some_ne_none _, by decide⟩
theorem rowF_one {b : List FV} : ∀ row ∈ b.map rowF, ∀ y ∈ row, SV.one y = true := by
  intro row hr y hy
  obtain ⟨_, _, rfl⟩ := List.mem_map.1 hr
  simp only [rowF, List.mem_cons, List.not_mem_nil, or_false] at hy
  rcases hy with rfl | rfl <;> rfl
def IsErr (E : AV) : Prop := (∃ n, E = errE n) ∨ ∃ i n, E = spotE i n
abbrev hasF (o' : Obj) : Heap := [(0, .fact 0 o')]
set_option maxHeartbeats 4000000 in
theorem more_few (o' : Obj) (l : List FV) (x : FV) (c : CV) (hu : ACalls prog 4 1 [] [(0, .fact 0 o')] fun r h => r = B true ∧ h = [(0, .fact 0 o')])
    (hl : l.length * 32 ≤ 140737488351232) (hf : ACalls prog 5 0 [.st (.sl 2 ((l ++ [x]).map rowF))] [] fun r h => r = B false ∧ h = []) :
    ACalls prog 3 1 [.st (.sl 2 (l.map rowF)), .st (.agg (rowF x)), cutE c] [(0, .fact 0 o')] fun r h => r = B true ∧ h = [(0, .fact 0 o')] := by
  have hr : List.map rowF l ++ [rowF x] = List.map rowF (l ++ [x]) := by rw [List.map_append]; rfl
  have hm : (List.map rowF l).length = l.length := List.length_map _
  have hx1 : ∀ row ∈ [rowF x], ∀ y ∈ row, SV.one y = true := rowF_one (b := [x])
  rw [← hr] at hf
  obtain ⟨p, z⟩ := x
  refine fnC lay_ok func3 rfl rfl rfl rfl rfl ?_
  repeat' first | refine wr (by omega) ?_ | refine ln ?_ | refine stp lay_ok rfl ?_ | refine fin ?_ | refine n_thn ?_ | refine n_blk ?_ | refine e_thn ?_ | refine e_hit ?_ | refine e_miss rfl ?_ | refine r_thn ?_ | refine r_blk ?_ | refine e_rr ?_ | refine r_rr ?_ | refine e_cr ?_ | refine r_cr ?_ | refine .seq ?_ | refine reg ?_ | refine .block ?_ | refine .skip ?_ | refine .ret ?_ | refine .exit ?_ | refine cndT rfl ?_ | refine cndF rfl ?_ | refine c_dec rfl (fun hc => ?_) (fun hc => ?_) | refine c_ndec rfl (fun hc => ?_) (fun hc => ?_) | refine cnd rfl (fun hc => ?_) (fun hc => ?_) | ((first | refine o_none rfl ?_ | refine o_none_ ?_ | refine o_yes rfl rfl rfl ?_ | refine o_yes_ rfl rfl ?_); first | refine st_callK [0] (hu) b4 rfl rfl rfl rfl rfl (by (repeat' first | exact trivial | refine And.intro ?_ ?_ | rfl); first | done | fail) ?_) | refine gd rfl rfl rfl (fun hg => ?_) (fun hg => ?_) | refine gn rfl rfl rfl (fun hg => ?_) (fun hg => ?_) | refine dwr (by omega) ?_ | refine dwl ?_ | refine dws lay_ok rfl rfl rfl rfl rfl rfl rfl ?_ | refine dwu lay_ok rfl rfl rfl rfl rfl rfl rfl rfl rfl ?_ | refine dw_end ?_ | refine dw_skip rfl rfl rfl ?_ | refine dwn lay_ok rfl rfl rfl rfl rfl ?_ | refine dwb rfl rfl rfl rfl rfl (by (first | refine st_callK [0] (hu) b4 rfl rfl rfl rfl rfl (by (repeat' first | exact trivial | refine And.intro ?_ ?_ | rfl); first | done | fail) ?_); exact fin rfl) rfl rfl ?_ | refine dwg rfl rfl rfl rfl rfl (by (first | refine st_callK [0] (hu) b4 rfl rfl rfl rfl rfl (by (repeat' first | exact trivial | refine And.intro ?_ ?_ | rfl); first | done | fail) ?_); exact fin rfl) rfl rfl rfl rfl rfl ?_ | refine dw_dec rfl rfl rfl (fun hg => ?_) (fun hg => ?_) | refine dw_ndec rfl rfl rfl (fun hg => ?_) (fun hg => ?_)
  refine dreg [(0, [], [17, 19, 20]), (1, [], [16, 19, 20]), (2, [0, 1], [19, 20]), (3, [], [16, 17, 18]), (4, [3], [16, 17, 18]), (5, [0, 1, 2, 3, 4], []), (6, [0, 1, 2, 3, 4, 5], []), (7, [0, 1, 2, 3, 4, 5, 6], [])] mixed (by kernel_rfl) ?_
  repeat' first | refine wr (by omega) ?_ | refine ln ?_ | refine stp lay_ok rfl ?_ | refine fin ?_ | refine n_thn ?_ | refine n_blk ?_ | refine e_thn ?_ | refine e_hit ?_ | refine e_miss rfl ?_ | refine r_thn ?_ | refine r_blk ?_ | refine e_rr ?_ | refine r_rr ?_ | refine e_cr ?_ | refine r_cr ?_ | refine .seq ?_ | refine reg ?_ | refine .block ?_ | refine .skip ?_ | refine .ret ?_ | refine .exit ?_ | refine cndT rfl ?_ | refine cndF rfl ?_ | refine c_dec rfl (fun hc => ?_) (fun hc => ?_) | refine c_ndec rfl (fun hc => ?_) (fun hc => ?_) | refine cnd rfl (fun hc => ?_) (fun hc => ?_) | ((first | refine o_none rfl ?_ | refine o_none_ ?_ | refine o_yes rfl rfl rfl ?_ | refine o_yes_ rfl rfl ?_); first | refine st_append lay_ok rfl rfl rfl rfl rfl rfl rfl rfl .sl0 .sl rfl rowF_one (by simp only [List.length_nil]; omega) (by simp only [List.length_nil]; omega) ?_ | refine st_append lay_ok rfl rfl rfl rfl rfl rfl rfl rfl (.lsl rfl rfl) (.sl (rows := [rowF ⟨p, z⟩])) rfl hx1 (by simp only [List.nil_append, List.length_map, List.length_cons, List.length_nil]; omega) (by simp only [List.nil_append, List.length_map, List.length_cons, List.length_nil]; omega) ?_) | refine gd rfl rfl rfl (fun hg => ?_) (fun hg => ?_) | refine gn rfl rfl rfl (fun hg => ?_) (fun hg => ?_) | refine dwr (by omega) ?_ | refine dwl ?_ | refine dws lay_ok rfl rfl rfl rfl rfl rfl rfl ?_ | refine dwu lay_ok rfl rfl rfl rfl rfl rfl rfl rfl rfl ?_ | refine dw_end ?_ | refine dw_skip rfl rfl rfl ?_ | refine dwn lay_ok rfl rfl rfl rfl rfl ?_ | refine dwA (f := 5) rfl rfl rfl rfl rfl rfl rfl rfl rfl (by (repeat' first | exact trivial | refine And.intro ?_ ?_ | rfl); first | done | fail) (by (repeat' first | exact trivial | refine And.intro ?_ ?_ | rfl); first | done | fail) rfl rfl rfl (by refine st_pure (hf) b5 rfl rfl rfl rfl ?_; exact fin rfl) rfl rfl rfl rfl rfl ?_ | refine dwb rfl rfl rfl rfl rfl (by (first | refine st_append lay_ok rfl rfl rfl rfl rfl rfl rfl rfl .sl0 .sl rfl rowF_one (by simp only [List.length_nil]; omega) (by simp only [List.length_nil]; omega) ?_ | refine st_append lay_ok rfl rfl rfl rfl rfl rfl rfl rfl (.lsl rfl rfl) (.sl (rows := [rowF ⟨p, z⟩])) rfl hx1 (by simp only [List.nil_append, List.length_map, List.length_cons, List.length_nil]; omega) (by simp only [List.nil_append, List.length_map, List.length_cons, List.length_nil]; omega) ?_); exact fin rfl) rfl rfl ?_ | refine dwg rfl rfl rfl rfl rfl (by (first | refine st_append lay_ok rfl rfl rfl rfl rfl rfl rfl rfl .sl0 .sl rfl rowF_one (by simp only [List.length_nil]; omega) (by simp only [List.length_nil]; omega) ?_ | refine st_append lay_ok rfl rfl rfl rfl rfl rfl rfl rfl (.lsl rfl rfl) (.sl (rows := [rowF ⟨p, z⟩])) rfl hx1 (by simp only [List.nil_append, List.length_map, List.length_cons, List.length_nil]; omega) (by simp only [List.nil_append, List.length_map, List.length_cons, List.length_nil]; omega) ?_); exact fin rfl) rfl rfl rfl rfl rfl ?_ | refine dw_dec rfl rfl rfl (fun hg => ?_) (fun hg => ?_) | refine dw_ndec rfl rfl rfl (fun hg => ?_) (fun hg => ?_)
  refine f_r [(0, .fact 0 o')] rfl (by (repeat' first | exact trivial | refine And.intro ?_ ?_ | rfl); first | done | fail) rfl ⟨?_, rfl⟩
  rfl
set_option maxHeartbeats 4000000 in
theorem more_err (o' : Obj) (l : List FV) (x : FV) (c : CV) (E E' : AV) (hE : IsErr E) (hE' : IsErr E') (hu : ACalls prog 4 1 [] [(0, .fact 0 o')] fun r h => r = B true ∧ h = [(0, .fact 0 o')])
    (hl : l.length ≤ 100) (hf : ACalls prog 5 0 [.st (.sl 2 ((l ++ [x]).map rowF))] [] fun r h => r = B true ∧ h = [])
    (h1 : ACalls prog 6 0 [.st (.sl 2 (l.map rowF)), cutE c] [] fun r h => r = .tuple [.st .nilsl, E] ∧ h = []) (h2 : ACalls prog 6 0 [.st (.sl 2 ((l ++ [x]).map rowF)), cutE c] [] fun r h => r = .tuple [.st .nilsl, E'] ∧ h = []) :
    ACalls prog 3 1 [.st (.sl 2 (l.map rowF)), .st (.agg (rowF x)), cutE c] [(0, .fact 0 o')] fun r h => r = B true ∧ h = [(0, .fact 0 o')] := by
  have hr : List.map rowF l ++ [rowF x] = List.map rowF (l ++ [x]) := by rw [List.map_append]; rfl
  have hm : (List.map rowF l).length = l.length := List.length_map _
  have hx1 : ∀ row ∈ [rowF x], ∀ y ∈ row, SV.one y = true := rowF_one (b := [x])
  rw [← hr] at hf h2
  obtain ⟨p, z⟩ := x
  rcases hE with ⟨n, rfl⟩ | ⟨i, n, rfl⟩ <;> rcases hE' with ⟨n', rfl⟩ | ⟨i', n', rfl⟩
  all_goals
    refine fnC lay_ok func3 rfl rfl rfl rfl rfl ?_
    repeat' first | refine wr (by omega) ?_ | refine ln ?_ | refine stp lay_ok rfl ?_ | refine fin ?_ | refine n_thn ?_ | refine n_blk ?_ | refine e_thn ?_ | refine e_hit ?_ | refine e_miss rfl ?_ | refine r_thn ?_ | refine r_blk ?_ | refine e_rr ?_ | refine r_rr ?_ | refine e_cr ?_ | refine r_cr ?_ | refine .seq ?_ | refine reg ?_ | refine .block ?_ | refine .skip ?_ | refine .ret ?_ | refine .exit ?_ | refine cndT rfl ?_ | refine cndF rfl ?_ | refine c_dec rfl (fun hc => ?_) (fun hc => ?_) | refine c_ndec rfl (fun hc => ?_) (fun hc => ?_) | refine cnd rfl (fun hc => ?_) (fun hc => ?_) | ((first | refine o_none rfl ?_ | refine o_none_ ?_ | refine o_yes rfl rfl rfl ?_ | refine o_yes_ rfl rfl ?_); first | refine st_callK [0] (hu) b4 rfl rfl rfl rfl rfl (by (repeat' first | exact trivial | refine And.intro ?_ ?_ | rfl); first | done | fail) ?_) | refine gd rfl rfl rfl (fun hg => ?_) (fun hg => ?_) | refine gn rfl rfl rfl (fun hg => ?_) (fun hg => ?_) | refine dwr (by omega) ?_ | refine dwl ?_ | refine dws lay_ok rfl rfl rfl rfl rfl rfl rfl ?_ | refine dwu lay_ok rfl rfl rfl rfl rfl rfl rfl rfl rfl ?_ | refine dw_end ?_ | refine dw_skip rfl rfl rfl ?_ | refine dwn lay_ok rfl rfl rfl rfl rfl ?_ | refine dwb rfl rfl rfl rfl rfl (by (first | refine st_callK [0] (hu) b4 rfl rfl rfl rfl rfl (by (repeat' first | exact trivial | refine And.intro ?_ ?_ | rfl); first | done | fail) ?_); exact fin rfl) rfl rfl ?_ | refine dwg rfl rfl rfl rfl rfl (by (first | refine st_callK [0] (hu) b4 rfl rfl rfl rfl rfl (by (repeat' first | exact trivial | refine And.intro ?_ ?_ | rfl); first | done | fail) ?_); exact fin rfl) rfl rfl rfl rfl rfl ?_ | refine dw_dec rfl rfl rfl (fun hg => ?_) (fun hg => ?_) | refine dw_ndec rfl rfl rfl (fun hg => ?_) (fun hg => ?_)
    refine dreg [(0, [], [17, 19, 20]), (1, [], [16, 19, 20]), (2, [0, 1], [19, 20]), (3, [], [16, 17, 18]), (4, [3], [16, 17, 18]), (5, [0, 1, 2, 3, 4], []), (6, [0, 1, 2, 3, 4, 5], []), (7, [0, 1, 2, 3, 4, 5, 6], [])] mixed (by kernel_rfl) ?_
    repeat' first | refine wr (by omega) ?_ | refine ln ?_ | refine stp lay_ok rfl ?_ | refine fin ?_ | refine n_thn ?_ | refine n_blk ?_ | refine e_thn ?_ | refine e_hit ?_ | refine e_miss rfl ?_ | refine r_thn ?_ | refine r_blk ?_ | refine e_rr ?_ | refine r_rr ?_ | refine e_cr ?_ | refine r_cr ?_ | refine .seq ?_ | refine reg ?_ | refine .block ?_ | refine .skip ?_ | refine .ret ?_ | refine .exit ?_ | refine cndT rfl ?_ | refine cndF rfl ?_ | refine c_dec rfl (fun hc => ?_) (fun hc => ?_) | refine c_ndec rfl (fun hc => ?_) (fun hc => ?_) | refine cnd rfl (fun hc => ?_) (fun hc => ?_) | ((first | refine o_none rfl ?_ | refine o_none_ ?_ | refine o_yes rfl rfl rfl ?_ | refine o_yes_ rfl rfl ?_); first | refine st_append lay_ok rfl rfl rfl rfl rfl rfl rfl rfl .sl0 .sl rfl rowF_one (by simp only [List.length_nil]; omega) (by simp only [List.length_nil]; omega) ?_ | refine st_append lay_ok rfl rfl rfl rfl rfl rfl rfl rfl (.lsl rfl rfl) (.sl (rows := [rowF ⟨p, z⟩])) rfl hx1 (by simp only [List.nil_append, List.length_map, List.length_cons, List.length_nil]; omega) (by simp only [List.nil_append, List.length_map, List.length_cons, List.length_nil]; omega) ?_ | refine st_pure (h1) b6 rfl rfl rfl rfl ?_) | refine gd rfl rfl rfl (fun hg => ?_) (fun hg => ?_) | refine gn rfl rfl rfl (fun hg => ?_) (fun hg => ?_) | refine dwr (by omega) ?_ | refine dwl ?_ | refine dws lay_ok rfl rfl rfl rfl rfl rfl rfl ?_ | refine dwu lay_ok rfl rfl rfl rfl rfl rfl rfl rfl rfl ?_ | refine dw_end ?_ | refine dw_skip rfl rfl rfl ?_ | refine dwn lay_ok rfl rfl rfl rfl rfl ?_ | refine dwA (f := 5) rfl rfl rfl rfl rfl rfl rfl rfl rfl (by (repeat' first | exact trivial | refine And.intro ?_ ?_ | rfl); first | done | fail) (by (repeat' first | exact trivial | refine And.intro ?_ ?_ | rfl); first | done | fail) rfl rfl rfl (by refine st_pure (hf) b5 rfl rfl rfl rfl ?_; exact fin rfl) rfl rfl rfl rfl rfl ?_ | refine dwb rfl rfl rfl rfl rfl (by (first | refine st_append lay_ok rfl rfl rfl rfl rfl rfl rfl rfl .sl0 .sl rfl rowF_one (by simp only [List.length_nil]; omega) (by simp only [List.length_nil]; omega) ?_ | refine st_append lay_ok rfl rfl rfl rfl rfl rfl rfl rfl (.lsl rfl rfl) (.sl (rows := [rowF ⟨p, z⟩])) rfl hx1 (by simp only [List.nil_append, List.length_map, List.length_cons, List.length_nil]; omega) (by simp only [List.nil_append, List.length_map, List.length_cons, List.length_nil]; omega) ?_ | refine st_pure (h1) b6 rfl rfl rfl rfl ?_); exact fin rfl) rfl rfl ?_ | refine dwg rfl rfl rfl rfl rfl (by (first | refine st_append lay_ok rfl rfl rfl rfl rfl rfl rfl rfl .sl0 .sl rfl rowF_one (by simp only [List.length_nil]; omega) (by simp only [List.length_nil]; omega) ?_ | refine st_append lay_ok rfl rfl rfl rfl rfl rfl rfl rfl (.lsl rfl rfl) (.sl (rows := [rowF ⟨p, z⟩])) rfl hx1 (by simp only [List.nil_append, List.length_map, List.length_cons, List.length_nil]; omega) (by simp only [List.nil_append, List.length_map, List.length_cons, List.length_nil]; omega) ?_ | refine st_pure (h1) b6 rfl rfl rfl rfl ?_); exact fin rfl) rfl rfl rfl rfl rfl ?_ | refine dw_dec rfl rfl rfl (fun hg => ?_) (fun hg => ?_) | refine dw_ndec rfl rfl rfl (fun hg => ?_) (fun hg => ?_)
    refine dreg [(0, [], [34, 36, 37, 39]), (1, [], [33, 36, 37, 39]), (2, [0, 1], [36, 37, 39]), (3, [], [33, 34, 35, 39]), (4, [3], [33, 34, 35, 39]), (5, [0, 1, 2, 3, 4], [39]), (6, [], [33, 34, 35, 36, 37, 38]), (7, [0, 1, 2, 3, 4, 5, 6], []), (8, [0, 1, 2, 3, 4, 5, 6, 7], []), (9, [0, 1, 2, 3, 4, 5, 6, 7, 8], [42]), (10, [0, 1, 2, 3, 4, 5, 6, 7, 8], [41, 11]), (11, [0, 1, 2, 3, 4, 5, 6, 7, 8, 9], [42]), (12, [0, 1, 2, 3, 4, 5, 6, 7, 8, 9, 10, 11], [])] mixed (by kernel_rfl) ?_
    repeat' first | refine wr (by omega) ?_ | refine ln ?_ | refine stp lay_ok rfl ?_ | refine fin ?_ | refine n_thn ?_ | refine n_blk ?_ | refine e_thn ?_ | refine e_hit ?_ | refine e_miss rfl ?_ | refine r_thn ?_ | refine r_blk ?_ | refine e_rr ?_ | refine r_rr ?_ | refine e_cr ?_ | refine r_cr ?_ | refine .seq ?_ | refine reg ?_ | refine .block ?_ | refine .skip ?_ | refine .ret ?_ | refine .exit ?_ | refine cndT rfl ?_ | refine cndF rfl ?_ | refine c_dec rfl (fun hc => ?_) (fun hc => ?_) | refine c_ndec rfl (fun hc => ?_) (fun hc => ?_) | refine cnd rfl (fun hc => ?_) (fun hc => ?_) | ((first | refine o_none rfl ?_ | refine o_none_ ?_ | refine o_yes rfl rfl rfl ?_ | refine o_yes_ rfl rfl ?_); first | refine st_append lay_ok rfl rfl rfl rfl rfl rfl rfl rfl .sl0 .sl rfl rowF_one (by simp only [List.length_nil]; omega) (by simp only [List.length_nil]; omega) ?_ | refine st_append lay_ok rfl rfl rfl rfl rfl rfl rfl rfl (.lsl rfl rfl) (.sl (rows := [rowF ⟨p, z⟩])) rfl hx1 (by simp only [List.nil_append, List.length_map, List.length_cons, List.length_nil]; omega) (by simp only [List.nil_append, List.length_map, List.length_cons, List.length_nil]; omega) ?_) | refine gd rfl rfl rfl (fun hg => ?_) (fun hg => ?_) | refine gn rfl rfl rfl (fun hg => ?_) (fun hg => ?_) | refine dwr (by omega) ?_ | refine dwl ?_ | refine dws lay_ok rfl rfl rfl rfl rfl rfl rfl ?_ | refine dwu lay_ok rfl rfl rfl rfl rfl rfl rfl rfl rfl ?_ | refine dw_end ?_ | refine dw_skip rfl rfl rfl ?_ | refine dwn lay_ok rfl rfl rfl rfl rfl ?_ | refine dwA (f := 6) rfl rfl rfl rfl rfl rfl rfl rfl rfl (by (repeat' first | exact trivial | refine And.intro ?_ ?_ | rfl); first | done | fail) (by (repeat' first | exact trivial | refine And.intro ?_ ?_ | rfl); first | done | fail) rfl rfl rfl (by refine st_pure (h2) b6 rfl rfl rfl rfl ?_; exact fin rfl) rfl rfl rfl rfl rfl ?_ | refine dwb rfl rfl rfl rfl rfl (by (first | refine st_append lay_ok rfl rfl rfl rfl rfl rfl rfl rfl .sl0 .sl rfl rowF_one (by simp only [List.length_nil]; omega) (by simp only [List.length_nil]; omega) ?_ | refine st_append lay_ok rfl rfl rfl rfl rfl rfl rfl rfl (.lsl rfl rfl) (.sl (rows := [rowF ⟨p, z⟩])) rfl hx1 (by simp only [List.nil_append, List.length_map, List.length_cons, List.length_nil]; omega) (by simp only [List.nil_append, List.length_map, List.length_cons, List.length_nil]; omega) ?_); exact fin rfl) rfl rfl ?_ | refine dwg rfl rfl rfl rfl rfl (by (first | refine st_append lay_ok rfl rfl rfl rfl rfl rfl rfl rfl .sl0 .sl rfl rowF_one (by simp only [List.length_nil]; omega) (by simp only [List.length_nil]; omega) ?_ | refine st_append lay_ok rfl rfl rfl rfl rfl rfl rfl rfl (.lsl rfl rfl) (.sl (rows := [rowF ⟨p, z⟩])) rfl hx1 (by simp only [List.nil_append, List.length_map, List.length_cons, List.length_nil]; omega) (by simp only [List.nil_append, List.length_map, List.length_cons, List.length_nil]; omega) ?_); exact fin rfl) rfl rfl rfl rfl rfl ?_ | refine dw_dec rfl rfl rfl (fun hg => ?_) (fun hg => ?_) | refine dw_ndec rfl rfl rfl (fun hg => ?_) (fun hg => ?_)
    refine f_r [(0, .fact 0 o')] rfl (by (repeat' first | exact trivial | refine And.intro ?_ ?_ | rfl); first | done | fail) rfl ⟨?_, rfl⟩
    rfl
set_option maxHeartbeats 4000000 in
theorem more_err2 (o' : Obj) (l : List FV) (x : FV) (c : CV) (E : AV) (hE : IsErr E) (rs : List (List SV)) (hu : ACalls prog 4 1 [] [(0, .fact 0 o')] fun r h => r = B true ∧ h = [(0, .fact 0 o')])
    (hl : l.length ≤ 100) (hf : ACalls prog 5 0 [.st (.sl 2 ((l ++ [x]).map rowF))] [] fun r h => r = B true ∧ h = [])
    (h1 : ACalls prog 6 0 [.st (.sl 2 (l.map rowF)), cutE c] [] fun r h => r = .tuple [.st (.sl 3 rs), nilE] ∧ h = []) (h2 : ACalls prog 6 0 [.st (.sl 2 ((l ++ [x]).map rowF)), cutE c] [] fun r h => r = .tuple [.st .nilsl, E] ∧ h = []) :
    ACalls prog 3 1 [.st (.sl 2 (l.map rowF)), .st (.agg (rowF x)), cutE c] [(0, .fact 0 o')] fun r h => r = B true ∧ h = [(0, .fact 0 o')] := by
  have hr : List.map rowF l ++ [rowF x] = List.map rowF (l ++ [x]) := by rw [List.map_append]; rfl
  have hm : (List.map rowF l).length = l.length := List.length_map _
  have hx1 : ∀ row ∈ [rowF x], ∀ y ∈ row, SV.one y = true := rowF_one (b := [x])
  rw [← hr] at hf h2
  obtain ⟨p, z⟩ := x
  rcases hE with ⟨n, rfl⟩ | ⟨i, n, rfl⟩
  all_goals
    refine fnC lay_ok func3 rfl rfl rfl rfl rfl ?_
    repeat' first | refine wr (by omega) ?_ | refine ln ?_ | refine stp lay_ok rfl ?_ | refine fin ?_ | refine n_thn ?_ | refine n_blk ?_ | refine e_thn ?_ | refine e_hit ?_ | refine e_miss rfl ?_ | refine r_thn ?_ | refine r_blk ?_ | refine e_rr ?_ | refine r_rr ?_ | refine e_cr ?_ | refine r_cr ?_ | refine .seq ?_ | refine reg ?_ | refine .block ?_ | refine .skip ?_ | refine .ret ?_ | refine .exit ?_ | refine cndT rfl ?_ | refine cndF rfl ?_ | refine c_dec rfl (fun hc => ?_) (fun hc => ?_) | refine c_ndec rfl (fun hc => ?_) (fun hc => ?_) | refine cnd rfl (fun hc => ?_) (fun hc => ?_) | ((first | refine o_none rfl ?_ | refine o_none_ ?_ | refine o_yes rfl rfl rfl ?_ | refine o_yes_ rfl rfl ?_); first | refine st_callK [0] (hu) b4 rfl rfl rfl rfl rfl (by (repeat' first | exact trivial | refine And.intro ?_ ?_ | rfl); first | done | fail) ?_) | refine gd rfl rfl rfl (fun hg => ?_) (fun hg => ?_) | refine gn rfl rfl rfl (fun hg => ?_) (fun hg => ?_) | refine dwr (by omega) ?_ | refine dwl ?_ | refine dws lay_ok rfl rfl rfl rfl rfl rfl rfl ?_ | refine dwu lay_ok rfl rfl rfl rfl rfl rfl rfl rfl rfl ?_ | refine dw_end ?_ | refine dw_skip rfl rfl rfl ?_ | refine dwn lay_ok rfl rfl rfl rfl rfl ?_ | refine dwb rfl rfl rfl rfl rfl (by (first | refine st_callK [0] (hu) b4 rfl rfl rfl rfl rfl (by (repeat' first | exact trivial | refine And.intro ?_ ?_ | rfl); first | done | fail) ?_); exact fin rfl) rfl rfl ?_ | refine dwg rfl rfl rfl rfl rfl (by (first | refine st_callK [0] (hu) b4 rfl rfl rfl rfl rfl (by (repeat' first | exact trivial | refine And.intro ?_ ?_ | rfl); first | done | fail) ?_); exact fin rfl) rfl rfl rfl rfl rfl ?_ | refine dw_dec rfl rfl rfl (fun hg => ?_) (fun hg => ?_) | refine dw_ndec rfl rfl rfl (fun hg => ?_) (fun hg => ?_)
    refine dreg [(0, [], [17, 19, 20]), (1, [], [16, 19, 20]), (2, [0, 1], [19, 20]), (3, [], [16, 17, 18]), (4, [3], [16, 17, 18]), (5, [0, 1, 2, 3, 4], []), (6, [0, 1, 2, 3, 4, 5], []), (7, [0, 1, 2, 3, 4, 5, 6], [])] mixed (by kernel_rfl) ?_
    repeat' first | refine wr (by omega) ?_ | refine ln ?_ | refine stp lay_ok rfl ?_ | refine fin ?_ | refine n_thn ?_ | refine n_blk ?_ | refine e_thn ?_ | refine e_hit ?_ | refine e_miss rfl ?_ | refine r_thn ?_ | refine r_blk ?_ | refine e_rr ?_ | refine r_rr ?_ | refine e_cr ?_ | refine r_cr ?_ | refine .seq ?_ | refine reg ?_ | refine .block ?_ | refine .skip ?_ | refine .ret ?_ | refine .exit ?_ | refine cndT rfl ?_ | refine cndF rfl ?_ | refine c_dec rfl (fun hc => ?_) (fun hc => ?_) | refine c_ndec rfl (fun hc => ?_) (fun hc => ?_) | refine cnd rfl (fun hc => ?_) (fun hc => ?_) | ((first | refine o_none rfl ?_ | refine o_none_ ?_ | refine o_yes rfl rfl rfl ?_ | refine o_yes_ rfl rfl ?_); first | refine st_append lay_ok rfl rfl rfl rfl rfl rfl rfl rfl .sl0 .sl rfl rowF_one (by simp only [List.length_nil]; omega) (by simp only [List.length_nil]; omega) ?_ | refine st_append lay_ok rfl rfl rfl rfl rfl rfl rfl rfl (.lsl rfl rfl) (.sl (rows := [rowF ⟨p, z⟩])) rfl hx1 (by simp only [List.nil_append, List.length_map, List.length_cons, List.length_nil]; omega) (by simp only [List.nil_append, List.length_map, List.length_cons, List.length_nil]; omega) ?_ | refine st_pure (h1) b6 rfl rfl rfl rfl ?_) | refine gd rfl rfl rfl (fun hg => ?_) (fun hg => ?_) | refine gn rfl rfl rfl (fun hg => ?_) (fun hg => ?_) | refine dwr (by omega) ?_ | refine dwl ?_ | refine dws lay_ok rfl rfl rfl rfl rfl rfl rfl ?_ | refine dwu lay_ok rfl rfl rfl rfl rfl rfl rfl rfl rfl ?_ | refine dw_end ?_ | refine dw_skip rfl rfl rfl ?_ | refine dwn lay_ok rfl rfl rfl rfl rfl ?_ | refine dwA (f := 5) rfl rfl rfl rfl rfl rfl rfl rfl rfl (by (repeat' first | exact trivial | refine And.intro ?_ ?_ | rfl); first | done | fail) (by (repeat' first | exact trivial | refine And.intro ?_ ?_ | rfl); first | done | fail) rfl rfl rfl (by refine st_pure (hf) b5 rfl rfl rfl rfl ?_; exact fin rfl) rfl rfl rfl rfl rfl ?_ | refine dwb rfl rfl rfl rfl rfl (by (first | refine st_append lay_ok rfl rfl rfl rfl rfl rfl rfl rfl .sl0 .sl rfl rowF_one (by simp only [List.length_nil]; omega) (by simp only [List.length_nil]; omega) ?_ | refine st_append lay_ok rfl rfl rfl rfl rfl rfl rfl rfl (.lsl rfl rfl) (.sl (rows := [rowF ⟨p, z⟩])) rfl hx1 (by simp only [List.nil_append, List.length_map, List.length_cons, List.length_nil]; omega) (by simp only [List.nil_append, List.length_map, List.length_cons, List.length_nil]; omega) ?_ | refine st_pure (h1) b6 rfl rfl rfl rfl ?_); exact fin rfl) rfl rfl ?_ | refine dwg rfl rfl rfl rfl rfl (by (first | refine st_append lay_ok rfl rfl rfl rfl rfl rfl rfl rfl .sl0 .sl rfl rowF_one (by simp only [List.length_nil]; omega) (by simp only [List.length_nil]; omega) ?_ | refine st_append lay_ok rfl rfl rfl rfl rfl rfl rfl rfl (.lsl rfl rfl) (.sl (rows := [rowF ⟨p, z⟩])) rfl hx1 (by simp only [List.nil_append, List.length_map, List.length_cons, List.length_nil]; omega) (by simp only [List.nil_append, List.length_map, List.length_cons, List.length_nil]; omega) ?_ | refine st_pure (h1) b6 rfl rfl rfl rfl ?_); exact fin rfl) rfl rfl rfl rfl rfl ?_ | refine dw_dec rfl rfl rfl (fun hg => ?_) (fun hg => ?_) | refine dw_ndec rfl rfl rfl (fun hg => ?_) (fun hg => ?_)
    refine dreg [(0, [], [34, 36, 37, 39]), (1, [], [33, 36, 37, 39]), (2, [0, 1], [36, 37, 39]), (3, [], [33, 34, 35, 39]), (4, [3], [33, 34, 35, 39]), (5, [0, 1, 2, 3, 4], [39]), (6, [], [33, 34, 35, 36, 37, 38]), (7, [0, 1, 2, 3, 4, 5, 6], []), (8, [0, 1, 2, 3, 4, 5, 6, 7], []), (9, [0, 1, 2, 3, 4, 5, 6, 7, 8], [42]), (10, [0, 1, 2, 3, 4, 5, 6, 7, 8], [41, 11]), (11, [0, 1, 2, 3, 4, 5, 6, 7, 8, 9], [42]), (12, [0, 1, 2, 3, 4, 5, 6, 7, 8, 9, 10, 11], [])] mixed (by kernel_rfl) ?_
    repeat' first | refine wr (by omega) ?_ | refine ln ?_ | refine stp lay_ok rfl ?_ | refine fin ?_ | refine n_thn ?_ | refine n_blk ?_ | refine e_thn ?_ | refine e_hit ?_ | refine e_miss rfl ?_ | refine r_thn ?_ | refine r_blk ?_ | refine e_rr ?_ | refine r_rr ?_ | refine e_cr ?_ | refine r_cr ?_ | refine .seq ?_ | refine reg ?_ | refine .block ?_ | refine .skip ?_ | refine .ret ?_ | refine .exit ?_ | refine cndT rfl ?_ | refine cndF rfl ?_ | refine c_dec rfl (fun hc => ?_) (fun hc => ?_) | refine c_ndec rfl (fun hc => ?_) (fun hc => ?_) | refine cnd rfl (fun hc => ?_) (fun hc => ?_) | ((first | refine o_none rfl ?_ | refine o_none_ ?_ | refine o_yes rfl rfl rfl ?_ | refine o_yes_ rfl rfl ?_); first | refine st_append lay_ok rfl rfl rfl rfl rfl rfl rfl rfl .sl0 .sl rfl rowF_one (by simp only [List.length_nil]; omega) (by simp only [List.length_nil]; omega) ?_ | refine st_append lay_ok rfl rfl rfl rfl rfl rfl rfl rfl (.lsl rfl rfl) (.sl (rows := [rowF ⟨p, z⟩])) rfl hx1 (by simp only [List.nil_append, List.length_map, List.length_cons, List.length_nil]; omega) (by simp only [List.nil_append, List.length_map, List.length_cons, List.length_nil]; omega) ?_) | refine gd rfl rfl rfl (fun hg => ?_) (fun hg => ?_) | refine gn rfl rfl rfl (fun hg => ?_) (fun hg => ?_) | refine dwr (by omega) ?_ | refine dwl ?_ | refine dws lay_ok rfl rfl rfl rfl rfl rfl rfl ?_ | refine dwu lay_ok rfl rfl rfl rfl rfl rfl rfl rfl rfl ?_ | refine dw_end ?_ | refine dw_skip rfl rfl rfl ?_ | refine dwn lay_ok rfl rfl rfl rfl rfl ?_ | refine dwA (f := 6) rfl rfl rfl rfl rfl rfl rfl rfl rfl (by (repeat' first | exact trivial | refine And.intro ?_ ?_ | rfl); first | done | fail) (by (repeat' first | exact trivial | refine And.intro ?_ ?_ | rfl); first | done | fail) rfl rfl rfl (by refine st_pure (h2) b6 rfl rfl rfl rfl ?_; exact fin rfl) rfl rfl rfl rfl rfl ?_ | refine dwb rfl rfl rfl rfl rfl (by (first | refine st_append lay_ok rfl rfl rfl rfl rfl rfl rfl rfl .sl0 .sl rfl rowF_one (by simp only [List.length_nil]; omega) (by simp only [List.length_nil]; omega) ?_ | refine st_append lay_ok rfl rfl rfl rfl rfl rfl rfl rfl (.lsl rfl rfl) (.sl (rows := [rowF ⟨p, z⟩])) rfl hx1 (by simp only [List.nil_append, List.length_map, List.length_cons, List.length_nil]; omega) (by simp only [List.nil_append, List.length_map, List.length_cons, List.length_nil]; omega) ?_); exact fin rfl) rfl rfl ?_ | refine dwg rfl rfl rfl rfl rfl (by (first | refine st_append lay_ok rfl rfl rfl rfl rfl rfl rfl rfl .sl0 .sl rfl rowF_one (by simp only [List.length_nil]; omega) (by simp only [List.length_nil]; omega) ?_ | refine st_append lay_ok rfl rfl rfl rfl rfl rfl rfl rfl (.lsl rfl rfl) (.sl (rows := [rowF ⟨p, z⟩])) rfl hx1 (by simp only [List.nil_append, List.length_map, List.length_cons, List.length_nil]; omega) (by simp only [List.nil_append, List.length_map, List.length_cons, List.length_nil]; omega) ?_); exact fin rfl) rfl rfl rfl rfl rfl ?_ | refine dw_dec rfl rfl rfl (fun hg => ?_) (fun hg => ?_) | refine dw_ndec rfl rfl rfl (fun hg => ?_) (fun hg => ?_)
    refine f_r [(0, .fact 0 o')] rfl (by (repeat' first | exact trivial | refine And.intro ?_ ?_ | rfl); first | done | fail) rfl ⟨?_, rfl⟩
    rfl
set_option maxHeartbeats 8000000 in
set_option maxRecDepth 4000 in
theorem more_both (o' : Obj) (l : List FV) (x : FV) (c : CV) (s m : List EV) (w : Nat) (hu : ACalls prog 4 1 [] [(0, .fact 0 o')] fun r h => r = B true ∧ h = [(0, .fact 0 o')])
    (hl : l.length ≤ 100) (hf : ACalls prog 5 0 [.st (.sl 2 ((l ++ [x]).map rowF))] [] fun r h => r = B true ∧ h = [])
    (h1 : ACalls prog 6 0 [.st (.sl 2 (l.map rowF)), cutE c] [] fun r h => r = .tuple [.st (.sl 3 (s.map rowE)), nilE] ∧ h = []) (h2 : ACalls prog 6 0 [.st (.sl 2 ((l ++ [x]).map rowF)), cutE c] [] fun r h => r = .tuple [.st (.sl 3 (m.map rowE)), nilE] ∧ h = [])
    (hml : m.length = s.length + 1) (hs : s.length ≤ 100) (hw : w ≤ s.length) (hlo : ∀ i (h : i < m.length) (h2 : i < s.length), i < w → m[i] = s[i]) (hmid : ∀ h : w < m.length, m[w].path = x.path) (hhi : ∀ i (h : i < m.length) (h2 : i - 1 < s.length), w < i → m[i] = s[i - 1])
    (hne : ∀ i (h : i < s.length), s[i].path ≠ x.path) (hk : ∀ e ∈ m, e.keys.length ≤ 4000000000) (hk2 : ∀ e ∈ s, e.keys.length ≤ 4000000000) :
    ACalls prog 3 1 [.st (.sl 2 (l.map rowF)), .st (.agg (rowF x)), cutE c] [(0, .fact 0 o')] fun r h => r = B true ∧ h = [(0, .fact 0 o')] := by
  have hr : List.map rowF l ++ [rowF x] = List.map rowF (l ++ [x]) := by rw [List.map_append]; rfl
  have hm : (List.map rowF l).length = l.length := List.length_map _
  have hx1 : ∀ row ∈ [rowF x], ∀ y ∈ row, SV.one y = true := rowF_one (b := [x])
  rw [← hr] at hf h2
  obtain ⟨p, z⟩ := x
  have hms : (List.map rowE s).length = s.length := List.length_map _
  have hmm : (List.map rowE m).length = m.length := List.length_map _
  refine fnC lay_ok func3 rfl rfl rfl rfl rfl ?_
  repeat' first | refine wr (by omega) ?_ | refine ln ?_ | refine stp lay_ok rfl ?_ | refine fin ?_ | refine n_thn ?_ | refine n_blk ?_ | refine e_thn ?_ | refine e_hit ?_ | refine e_miss rfl ?_ | refine r_thn ?_ | refine r_blk ?_ | refine e_rr ?_ | refine r_rr ?_ | refine e_cr ?_ | refine r_cr ?_ | refine .seq ?_ | refine reg ?_ | refine .block ?_ | refine .skip ?_ | refine .ret ?_ | refine .exit ?_ | refine cndT rfl ?_ | refine cndF rfl ?_ | refine c_dec rfl (fun hc => ?_) (fun hc => ?_) | refine c_ndec rfl (fun hc => ?_) (fun hc => ?_) | refine cnd rfl (fun hc => ?_) (fun hc => ?_) | ((first | refine o_none rfl ?_ | refine o_none_ ?_ | refine o_yes rfl rfl rfl ?_ | refine o_yes_ rfl rfl ?_); first | refine st_callK [0] (hu) b4 rfl rfl rfl rfl rfl (by (repeat' first | exact trivial | refine And.intro ?_ ?_ | rfl); first | done | fail) ?_) | refine gd rfl rfl rfl (fun hg => ?_) (fun hg => ?_) | refine gn rfl rfl rfl (fun hg => ?_) (fun hg => ?_) | refine dwr (by omega) ?_ | refine dwl ?_ | refine dws lay_ok rfl rfl rfl rfl rfl rfl rfl ?_ | refine dwu lay_ok rfl rfl rfl rfl rfl rfl rfl rfl rfl ?_ | refine dw_end ?_ | refine dw_skip rfl rfl rfl ?_ | refine dwn lay_ok rfl rfl rfl rfl rfl ?_ | refine dwb rfl rfl rfl rfl rfl (by (first | refine st_callK [0] (hu) b4 rfl rfl rfl rfl rfl (by (repeat' first | exact trivial | refine And.intro ?_ ?_ | rfl); first | done | fail) ?_); exact fin rfl) rfl rfl ?_ | refine dwg rfl rfl rfl rfl rfl (by (first | refine st_callK [0] (hu) b4 rfl rfl rfl rfl rfl (by (repeat' first | exact trivial | refine And.intro ?_ ?_ | rfl); first | done | fail) ?_); exact fin rfl) rfl rfl rfl rfl rfl ?_ | refine dw_dec rfl rfl rfl (fun hg => ?_) (fun hg => ?_) | refine dw_ndec rfl rfl rfl (fun hg => ?_) (fun hg => ?_)
  refine dreg [(0, [], [17, 19, 20]), (1, [], [16, 19, 20]), (2, [0, 1], [19, 20]), (3, [], [16, 17, 18]), (4, [3], [16, 17, 18]), (5, [0, 1, 2, 3, 4], []), (6, [0, 1, 2, 3, 4, 5], []), (7, [0, 1, 2, 3, 4, 5, 6], [])] mixed (by kernel_rfl) ?_
  repeat' first | refine wr (by omega) ?_ | refine ln ?_ | refine stp lay_ok rfl ?_ | refine fin ?_ | refine n_thn ?_ | refine n_blk ?_ | refine e_thn ?_ | refine e_hit ?_ | refine e_miss rfl ?_ | refine r_thn ?_ | refine r_blk ?_ | refine e_rr ?_ | refine r_rr ?_ | refine e_cr ?_ | refine r_cr ?_ | refine .seq ?_ | refine reg ?_ | refine .block ?_ | refine .skip ?_ | refine .ret ?_ | refine .exit ?_ | refine cndT rfl ?_ | refine cndF rfl ?_ | refine c_dec rfl (fun hc => ?_) (fun hc => ?_) | refine c_ndec rfl (fun hc => ?_) (fun hc => ?_) | refine cnd rfl (fun hc => ?_) (fun hc => ?_) | ((first | refine o_none rfl ?_ | refine o_none_ ?_ | refine o_yes rfl rfl rfl ?_ | refine o_yes_ rfl rfl ?_); first | refine st_append lay_ok rfl rfl rfl rfl rfl rfl rfl rfl .sl0 .sl rfl rowF_one (by simp only [List.length_nil]; omega) (by simp only [List.length_nil]; omega) ?_ | refine st_append lay_ok rfl rfl rfl rfl rfl rfl rfl rfl (.lsl rfl rfl) (.sl (rows := [rowF ⟨p, z⟩])) rfl hx1 (by simp only [List.nil_append, List.length_map, List.length_cons, List.length_nil]; omega) (by simp only [List.nil_append, List.length_map, List.length_cons, List.length_nil]; omega) ?_ | refine st_pure (h1) b6 rfl rfl rfl rfl ?_) | refine gd rfl rfl rfl (fun hg => ?_) (fun hg => ?_) | refine gn rfl rfl rfl (fun hg => ?_) (fun hg => ?_) | refine dwr (by omega) ?_ | refine dwl ?_ | refine dws lay_ok rfl rfl rfl rfl rfl rfl rfl ?_ | refine dwu lay_ok rfl rfl rfl rfl rfl rfl rfl rfl rfl ?_ | refine dw_end ?_ | refine dw_skip rfl rfl rfl ?_ | refine dwn lay_ok rfl rfl rfl rfl rfl ?_ | refine dwA (f := 5) rfl rfl rfl rfl rfl rfl rfl rfl rfl (by (repeat' first | exact trivial | refine And.intro ?_ ?_ | rfl); first | done | fail) (by (repeat' first | exact trivial | refine And.intro ?_ ?_ | rfl); first | done | fail) rfl rfl rfl (by refine st_pure (hf) b5 rfl rfl rfl rfl ?_; exact fin rfl) rfl rfl rfl rfl rfl ?_ | refine dwb rfl rfl rfl rfl rfl (by (first | refine st_append lay_ok rfl rfl rfl rfl rfl rfl rfl rfl .sl0 .sl rfl rowF_one (by simp only [List.length_nil]; omega) (by simp only [List.length_nil]; omega) ?_ | refine st_append lay_ok rfl rfl rfl rfl rfl rfl rfl rfl (.lsl rfl rfl) (.sl (rows := [rowF ⟨p, z⟩])) rfl hx1 (by simp only [List.nil_append, List.length_map, List.length_cons, List.length_nil]; omega) (by simp only [List.nil_append, List.length_map, List.length_cons, List.length_nil]; omega) ?_ | refine st_pure (h1) b6 rfl rfl rfl rfl ?_); exact fin rfl) rfl rfl ?_ | refine dwg rfl rfl rfl rfl rfl (by (first | refine st_append lay_ok rfl rfl rfl rfl rfl rfl rfl rfl .sl0 .sl rfl rowF_one (by simp only [List.length_nil]; omega) (by simp only [List.length_nil]; omega) ?_ | refine st_append lay_ok rfl rfl rfl rfl rfl rfl rfl rfl (.lsl rfl rfl) (.sl (rows := [rowF ⟨p, z⟩])) rfl hx1 (by simp only [List.nil_append, List.length_map, List.length_cons, List.length_nil]; omega) (by simp only [List.nil_append, List.length_map, List.length_cons, List.length_nil]; omega) ?_ | refine st_pure (h1) b6 rfl rfl rfl rfl ?_); exact fin rfl) rfl rfl rfl rfl rfl ?_ | refine dw_dec rfl rfl rfl (fun hg => ?_) (fun hg => ?_) | refine dw_ndec rfl rfl rfl (fun hg => ?_) (fun hg => ?_)
  refine dreg [(0, [], [34, 36, 37, 39]), (1, [], [33, 36, 37, 39]), (2, [0, 1], [36, 37, 39]), (3, [], [33, 34, 35, 39]), (4, [3], [33, 34, 35, 39]), (5, [0, 1, 2, 3, 4], [39]), (6, [], [33, 34, 35, 36, 37, 38]), (7, [0, 1, 2, 3, 4, 5, 6], []), (8, [0, 1, 2, 3, 4, 5, 6, 7], []), (9, [0, 1, 2, 3, 4, 5, 6, 7, 8], [42]), (10, [0, 1, 2, 3, 4, 5, 6, 7, 8], [41, 11]), (11, [0, 1, 2, 3, 4, 5, 6, 7, 8, 9], [42]), (12, [0, 1, 2, 3, 4, 5, 6, 7, 8, 9, 10, 11], [])] mixed (by kernel_rfl) ?_
  repeat' first | refine wr (by omega) ?_ | refine ln ?_ | refine stp lay_ok rfl ?_ | refine fin ?_ | refine n_thn ?_ | refine n_blk ?_ | refine e_thn ?_ | refine e_hit ?_ | refine e_miss rfl ?_ | refine r_thn ?_ | refine r_blk ?_ | refine e_rr ?_ | refine r_rr ?_ | refine e_cr ?_ | refine r_cr ?_ | refine .seq ?_ | refine reg ?_ | refine .block ?_ | refine .skip ?_ | refine .ret ?_ | refine .exit ?_ | refine cndT rfl ?_ | refine cndF rfl ?_ | refine c_dec rfl (fun hc => ?_) (fun hc => ?_) | refine c_ndec rfl (fun hc => ?_) (fun hc => ?_) | refine cnd rfl (fun hc => ?_) (fun hc => ?_) | ((first | refine o_none rfl ?_ | refine o_none_ ?_ | refine o_yes rfl rfl rfl ?_ | refine o_yes_ rfl rfl ?_); first | refine st_append lay_ok rfl rfl rfl rfl rfl rfl rfl rfl .sl0 .sl rfl rowF_one (by simp only [List.length_nil]; omega) (by simp only [List.length_nil]; omega) ?_ | refine st_append lay_ok rfl rfl rfl rfl rfl rfl rfl rfl (.lsl rfl rfl) (.sl (rows := [rowF ⟨p, z⟩])) rfl hx1 (by simp only [List.nil_append, List.length_map, List.length_cons, List.length_nil]; omega) (by simp only [List.nil_append, List.length_map, List.length_cons, List.length_nil]; omega) ?_) | refine gd rfl rfl rfl (fun hg => ?_) (fun hg => ?_) | refine gn rfl rfl rfl (fun hg => ?_) (fun hg => ?_) | refine dwr (by omega) ?_ | refine dwl ?_ | refine dws lay_ok rfl rfl rfl rfl rfl rfl rfl ?_ | refine dwu lay_ok rfl rfl rfl rfl rfl rfl rfl rfl rfl ?_ | refine dw_end ?_ | refine dw_skip rfl rfl rfl ?_ | refine dwn lay_ok rfl rfl rfl rfl rfl ?_ | refine dwA (f := 6) rfl rfl rfl rfl rfl rfl rfl rfl rfl (by (repeat' first | exact trivial | refine And.intro ?_ ?_ | rfl); first | done | fail) (by (repeat' first | exact trivial | refine And.intro ?_ ?_ | rfl); first | done | fail) rfl rfl rfl (by refine st_pure (h2) b6 rfl rfl rfl rfl ?_; exact fin rfl) rfl rfl rfl rfl rfl ?_ | refine dwb rfl rfl rfl rfl rfl (by (first | refine st_append lay_ok rfl rfl rfl rfl rfl rfl rfl rfl .sl0 .sl rfl rowF_one (by simp only [List.length_nil]; omega) (by simp only [List.length_nil]; omega) ?_ | refine st_append lay_ok rfl rfl rfl rfl rfl rfl rfl rfl (.lsl rfl rfl) (.sl (rows := [rowF ⟨p, z⟩])) rfl hx1 (by simp only [List.nil_append, List.length_map, List.length_cons, List.length_nil]; omega) (by simp only [List.nil_append, List.length_map, List.length_cons, List.length_nil]; omega) ?_); exact fin rfl) rfl rfl ?_ | refine dwg rfl rfl rfl rfl rfl (by (first | refine st_append lay_ok rfl rfl rfl rfl rfl rfl rfl rfl .sl0 .sl rfl rowF_one (by simp only [List.length_nil]; omega) (by simp only [List.length_nil]; omega) ?_ | refine st_append lay_ok rfl rfl rfl rfl rfl rfl rfl rfl (.lsl rfl rfl) (.sl (rows := [rowF ⟨p, z⟩])) rfl hx1 (by simp only [List.nil_append, List.length_map, List.length_cons, List.length_nil]; omega) (by simp only [List.nil_append, List.length_map, List.length_cons, List.length_nil]; omega) ?_); exact fin rfl) rfl rfl rfl rfl rfl ?_ | refine dw_dec rfl rfl rfl (fun hg => ?_) (fun hg => ?_) | refine dw_ndec rfl rfl rfl (fun hg => ?_) (fun hg => ?_)
  refine lpR (fun (i, a) => i ≤ m.length ∧ a = (if i ≤ w then i else i - 1)) (fun (i, a) => m.length - i) (fun (i, a) => [(14, I i), (13, I a)]) (fun (i, a) => []) ((0, 0)) [4, 7, 9, 11] [] [] rfl rfl rfl (.of [] (by (repeat' first | exact trivial | refine And.intro ?_ ?_ | rfl); first | done | fail) (by (repeat' first | exact trivial | refine And.intro ?_ ?_ | rfl); first | done | fail) rfl) ?_ ?_
  · exact ⟨Nat.zero_le _, by simp⟩
  rintro ⟨i, a⟩ ⟨g1, g2⟩
  refine nrm rfl rfl ?_
  by_cases hi : i < m.length
  case neg =>
    have hie : i = m.length := by omega
    have ha : a = s.length := by rw [g2, if_neg (by omega)]; omega
    subst ha
    repeat' first | refine wr (by omega) ?_ | refine ln ?_ | refine stp lay_ok rfl ?_ | refine fin ?_ | refine n_thn ?_ | refine n_blk ?_ | refine e_thn ?_ | refine e_hit ?_ | refine e_miss rfl ?_ | refine r_thn ?_ | refine r_blk ?_ | refine e_rr ?_ | refine r_rr ?_ | refine e_cr ?_ | refine r_cr ?_ | refine .seq ?_ | refine reg ?_ | refine .block ?_ | refine .skip ?_ | refine .ret ?_ | refine .exit ?_ | refine cndT rfl ?_ | refine cndF rfl ?_ | refine c_dec rfl (fun hc => ?_) (fun hc => ?_) | refine c_ndec rfl (fun hc => ?_) (fun hc => ?_) | refine cnd rfl (fun hc => ?_) (fun hc => ?_) | refine gd rfl rfl rfl (fun hg => ?_) (fun hg => ?_) | refine gn rfl rfl rfl (fun hg => ?_) (fun hg => ?_) | refine dwr (by omega) ?_ | refine dwl ?_ | refine dws lay_ok rfl rfl rfl rfl rfl rfl rfl ?_ | refine dwu lay_ok rfl rfl rfl rfl rfl rfl rfl rfl rfl ?_ | refine dw_end ?_ | refine dw_skip rfl rfl rfl ?_ | refine dwn lay_ok rfl rfl rfl rfl rfl ?_ | refine dw_dec rfl rfl rfl (fun hg => ?_) (fun hg => ?_) | refine dw_ndec rfl rfl rfl (fun hg => ?_) (fun hg => ?_)
    all_goals first
      | (exfalso; omega)
      | skip
    refine f_r [(0, .fact 0 o')] rfl (by (repeat' first | exact trivial | refine And.intro ?_ ?_ | rfl); first | done | fail) rfl ⟨?_, rfl⟩
    simp [retOf, hms, hmm, hml]
  have hat := at_rowE hi
  have hkm := hk _ (List.getElem_mem hi)
  have hstep : (a < s.length ∧ i ≠ w ∧ ∃ h : a < s.length, m[i] = s[a] ∧ a + 1 = (if i + 1 ≤ w then i + 1 else i + 1 - 1)) ∨ (i = w ∧ a = i ∧ m[i].path = p) := by
    rcases Nat.lt_trichotomy i w with h | h | h
    · have ha : a = i := by rw [g2, if_pos (by omega)]
      subst ha
      exact .inl ⟨by omega, by omega, by omega, hlo _ hi (by omega) h, by rw [if_pos (by omega)]⟩
    · subst h
      exact .inr ⟨rfl, by rw [g2, if_pos (Nat.le_refl _)], hmid hi⟩
    · have ha : a = i - 1 := by rw [g2, if_neg (by omega)]
      subst ha
      exact .inl ⟨by omega, by omega, by omega, hhi _ hi (by omega) h, by rw [if_neg (by omega)]; omega⟩
  generalize m[i] = e at *
  rcases hstep with ⟨h3, h4, h5, h6, h7⟩ | ⟨h3, h4, h5⟩
  · have hat2 := at_rowE h5
    have hsm := same4_ok e s[a] hkm (hk2 _ (List.getElem_mem h5))
    rw [decide_eq_true h6] at hsm
    generalize s[a] = e2 at *
    repeat' first | refine wr (by omega) ?_ | refine ln ?_ | refine stp lay_ok rfl ?_ | refine fin ?_ | refine n_thn ?_ | refine n_blk ?_ | refine e_thn ?_ | refine e_hit ?_ | refine e_miss rfl ?_ | refine r_thn ?_ | refine r_blk ?_ | refine e_rr ?_ | refine r_rr ?_ | refine e_cr ?_ | refine r_cr ?_ | refine .seq ?_ | refine reg ?_ | refine .block ?_ | refine .skip ?_ | refine .ret ?_ | refine .exit ?_ | refine cndT rfl ?_ | refine cndF rfl ?_ | refine c_dec rfl (fun hc => ?_) (fun hc => ?_) | refine c_ndec rfl (fun hc => ?_) (fun hc => ?_) | refine cnd rfl (fun hc => ?_) (fun hc => ?_) | refine gd rfl rfl rfl (fun hg => ?_) (fun hg => ?_) | refine gn rfl rfl rfl (fun hg => ?_) (fun hg => ?_) | refine dwr (by omega) ?_ | refine dwl ?_ | refine dws lay_ok rfl rfl rfl rfl rfl rfl rfl ?_ | refine dwu lay_ok rfl rfl rfl rfl rfl rfl rfl rfl rfl ?_ | refine dw_end ?_ | refine dw_skip rfl rfl rfl ?_ | refine dwn lay_ok rfl rfl rfl rfl rfl ?_ | refine dw_dec rfl rfl rfl (fun hg => ?_) (fun hg => ?_) | refine dw_ndec rfl rfl rfl (fun hg => ?_) (fun hg => ?_)
    all_goals first
      | (exfalso; omega)
      | skip
    refine dreg [(0, [], [65, 66]), (1, [], [64]), (2, [1], [64]), (3, [0, 1, 2], []), (4, [0, 1, 2, 3], []), (5, [0, 1, 2, 3, 4], [70, 73, 74, 75, 76]), (6, [0, 1, 2, 3, 4], [69, 73, 74, 75, 76]), (7, [0, 1, 2, 3, 4, 5, 6], [73, 74, 75, 76]), (8, [0, 1, 2, 3, 4, 5, 6, 7], [73, 74, 75, 76]), (9, [0, 1, 2, 3, 4], [69, 70, 71, 72, 74]), (10, [0, 1, 2, 3, 4], [69, 70, 71, 72, 73]), (11, [0, 1, 2, 3, 4, 9, 10], [69, 70, 71, 72]), (12, [0, 1, 2, 3, 4, 9, 10, 11], [69, 70, 71, 72]), (13, [0, 1, 2, 3, 4, 5, 6, 7, 8, 9, 10, 11, 12], []), (14, [0, 1, 2, 3, 4, 5, 6, 7, 8, 9, 10, 11, 12, 13], [])] mixed (by kernel_rfl) ?_
    repeat' first | refine wr (by omega) ?_ | refine ln ?_ | refine stp lay_ok rfl ?_ | refine fin ?_ | refine n_thn ?_ | refine n_blk ?_ | refine e_thn ?_ | refine e_hit ?_ | refine e_miss rfl ?_ | refine r_thn ?_ | refine r_blk ?_ | refine e_rr ?_ | refine r_rr ?_ | refine e_cr ?_ | refine r_cr ?_ | refine .seq ?_ | refine reg ?_ | refine .block ?_ | refine .skip ?_ | refine .ret ?_ | refine .exit ?_ | refine cndT rfl ?_ | refine cndF rfl ?_ | refine c_dec rfl (fun hc => ?_) (fun hc => ?_) | refine c_ndec rfl (fun hc => ?_) (fun hc => ?_) | refine cnd rfl (fun hc => ?_) (fun hc => ?_) | ((first | refine o_none rfl ?_ | refine o_none_ ?_ | refine o_yes rfl rfl rfl ?_ | refine o_yes_ rfl rfl ?_); first | refine st_index (rowE e) lay_ok rfl rfl rfl rfl (by omega) hat ?_ | refine st_index (rowE e2) lay_ok rfl rfl rfl rfl (by omega) hat2 ?_ | refine st_pure (hsm) b7 rfl rfl rfl rfl ?_) | refine gd rfl rfl rfl (fun hg => ?_) (fun hg => ?_) | refine gn rfl rfl rfl (fun hg => ?_) (fun hg => ?_) | refine dwr (by omega) ?_ | refine dwl ?_ | refine dws lay_ok rfl rfl rfl rfl rfl rfl rfl ?_ | refine dwu lay_ok rfl rfl rfl rfl rfl rfl rfl rfl rfl ?_ | refine dw_end ?_ | refine dw_skip rfl rfl rfl ?_ | refine dwn lay_ok rfl rfl rfl rfl rfl ?_ | refine dwb rfl rfl rfl rfl rfl (by (first | refine st_index (rowE e) lay_ok rfl rfl rfl rfl (by omega) hat ?_ | refine st_index (rowE e2) lay_ok rfl rfl rfl rfl (by omega) hat2 ?_ | refine st_pure (hsm) b7 rfl rfl rfl rfl ?_); exact fin rfl) rfl rfl ?_ | refine dwg rfl rfl rfl rfl rfl (by (first | refine st_index (rowE e) lay_ok rfl rfl rfl rfl (by omega) hat ?_ | refine st_index (rowE e2) lay_ok rfl rfl rfl rfl (by omega) hat2 ?_ | refine st_pure (hsm) b7 rfl rfl rfl rfl ?_); exact fin rfl) rfl rfl rfl rfl rfl ?_ | refine dw_dec rfl rfl rfl (fun hg => ?_) (fun hg => ?_) | refine dw_ndec rfl rfl rfl (fun hg => ?_) (fun hg => ?_)
    all_goals first
      | (exfalso; omega)
      | skip
    refine n_rr ((i + 1, a + 1)) ?_ (.of [] (by (repeat' first | exact trivial | refine And.intro ?_ ?_ | rfl | exact congrArg (fun z : Int => some (AV.st (.int .i64 z))) (show (i : Int) + 1 = ((i + 1 : Nat) : Int) by omega) | exact congrArg (fun z : Int => some (AV.st (.int .i64 z))) (show (a : Int) + 1 = ((a + 1 : Nat) : Int) by omega)); first | done | fail) (by (repeat' first | exact trivial | refine And.intro ?_ ?_ | rfl | exact congrArg (fun z : Int => some (AV.st (.int .i64 z))) (show (i : Int) + 1 = ((i + 1 : Nat) : Int) by omega) | exact congrArg (fun z : Int => some (AV.st (.int .i64 z))) (show (a : Int) + 1 = ((a + 1 : Nat) : Int) by omega)); first | done | fail) rfl) ?_
    · show m.length - (i + 1) < m.length - i; omega
    · exact ⟨hi, h7⟩
  · subst h3
    subst h4
    obtain ⟨q, z', ks⟩ := e
    simp only at h5
    subst h5
    by_cases hal : a < s.length
    · have hat2 := at_rowE hal
      have hnp := hne a hal
      have hsm := same4_ok ⟨q, z', ks⟩ s[a] hkm (hk2 _ (List.getElem_mem hal))
      rw [decide_eq_false (fun e => hnp (by rw [← e]))] at hsm
      generalize s[a] = e2 at *
      repeat' first | refine wr (by omega) ?_ | refine ln ?_ | refine stp lay_ok rfl ?_ | refine fin ?_ | refine n_thn ?_ | refine n_blk ?_ | refine e_thn ?_ | refine e_hit ?_ | refine e_miss rfl ?_ | refine r_thn ?_ | refine r_blk ?_ | refine e_rr ?_ | refine r_rr ?_ | refine e_cr ?_ | refine r_cr ?_ | refine .seq ?_ | refine reg ?_ | refine .block ?_ | refine .skip ?_ | refine .ret ?_ | refine .exit ?_ | refine cndT rfl ?_ | refine cndF rfl ?_ | refine c_dec rfl (fun hc => ?_) (fun hc => ?_) | refine c_ndec rfl (fun hc => ?_) (fun hc => ?_) | refine cnd rfl (fun hc => ?_) (fun hc => ?_) | refine gd rfl rfl rfl (fun hg => ?_) (fun hg => ?_) | refine gn rfl rfl rfl (fun hg => ?_) (fun hg => ?_) | refine dwr (by omega) ?_ | refine dwl ?_ | refine dws lay_ok rfl rfl rfl rfl rfl rfl rfl ?_ | refine dwu lay_ok rfl rfl rfl rfl rfl rfl rfl rfl rfl ?_ | refine dw_end ?_ | refine dw_skip rfl rfl rfl ?_ | refine dwn lay_ok rfl rfl rfl rfl rfl ?_ | refine dw_dec rfl rfl rfl (fun hg => ?_) (fun hg => ?_) | refine dw_ndec rfl rfl rfl (fun hg => ?_) (fun hg => ?_)
      all_goals first
        | (exfalso; omega)
        | skip
      refine dreg [(0, [], [65, 66]), (1, [], [64]), (2, [1], [64]), (3, [0, 1, 2], []), (4, [0, 1, 2, 3], []), (5, [0, 1, 2, 3, 4], [70, 73, 74, 75, 76]), (6, [0, 1, 2, 3, 4], [69, 73, 74, 75, 76]), (7, [0, 1, 2, 3, 4, 5, 6], [73, 74, 75, 76]), (8, [0, 1, 2, 3, 4, 5, 6, 7], [73, 74, 75, 76]), (9, [0, 1, 2, 3, 4], [69, 70, 71, 72, 74]), (10, [0, 1, 2, 3, 4], [69, 70, 71, 72, 73]), (11, [0, 1, 2, 3, 4, 9, 10], [69, 70, 71, 72]), (12, [0, 1, 2, 3, 4, 9, 10, 11], [69, 70, 71, 72]), (13, [0, 1, 2, 3, 4, 5, 6, 7, 8, 9, 10, 11, 12], []), (14, [0, 1, 2, 3, 4, 5, 6, 7, 8, 9, 10, 11, 12, 13], [])] mixed (by kernel_rfl) ?_
      repeat' first | refine wr (by omega) ?_ | refine ln ?_ | refine stp lay_ok rfl ?_ | refine fin ?_ | refine n_thn ?_ | refine n_blk ?_ | refine e_thn ?_ | refine e_hit ?_ | refine e_miss rfl ?_ | refine r_thn ?_ | refine r_blk ?_ | refine e_rr ?_ | refine r_rr ?_ | refine e_cr ?_ | refine r_cr ?_ | refine .seq ?_ | refine reg ?_ | refine .block ?_ | refine .skip ?_ | refine .ret ?_ | refine .exit ?_ | refine cndT rfl ?_ | refine cndF rfl ?_ | refine c_dec rfl (fun hc => ?_) (fun hc => ?_) | refine c_ndec rfl (fun hc => ?_) (fun hc => ?_) | refine cnd rfl (fun hc => ?_) (fun hc => ?_) | ((first | refine o_none rfl ?_ | refine o_none_ ?_ | refine o_yes rfl rfl rfl ?_ | refine o_yes_ rfl rfl ?_); first | refine st_index (rowE ⟨q, z', ks⟩) lay_ok rfl rfl rfl rfl (by omega) hat ?_ | refine st_index (rowE e2) lay_ok rfl rfl rfl rfl (by omega) hat2 ?_ | refine st_pure (hsm) b7 rfl rfl rfl rfl ?_) | refine gd rfl rfl rfl (fun hg => ?_) (fun hg => ?_) | refine gn rfl rfl rfl (fun hg => ?_) (fun hg => ?_) | refine dwr (by omega) ?_ | refine dwl ?_ | refine dws lay_ok rfl rfl rfl rfl rfl rfl rfl ?_ | refine dwu lay_ok rfl rfl rfl rfl rfl rfl rfl rfl rfl ?_ | refine dw_end ?_ | refine dw_skip rfl rfl rfl ?_ | refine dwn lay_ok rfl rfl rfl rfl rfl ?_ | refine dwb rfl rfl rfl rfl rfl (by (first | refine st_index (rowE ⟨q, z', ks⟩) lay_ok rfl rfl rfl rfl (by omega) hat ?_ | refine st_index (rowE e2) lay_ok rfl rfl rfl rfl (by omega) hat2 ?_ | refine st_pure (hsm) b7 rfl rfl rfl rfl ?_); exact fin rfl) rfl rfl ?_ | refine dwg rfl rfl rfl rfl rfl (by (first | refine st_index (rowE ⟨q, z', ks⟩) lay_ok rfl rfl rfl rfl (by omega) hat ?_ | refine st_index (rowE e2) lay_ok rfl rfl rfl rfl (by omega) hat2 ?_ | refine st_pure (hsm) b7 rfl rfl rfl rfl ?_); exact fin rfl) rfl rfl rfl rfl rfl ?_ | refine dw_dec rfl rfl rfl (fun hg => ?_) (fun hg => ?_) | refine dw_ndec rfl rfl rfl (fun hg => ?_) (fun hg => ?_)
      all_goals first
        | (exfalso; omega)
        | skip
      refine dreg [(0, [], [82, 86, 87]), (1, [], [81, 86, 87]), (2, [0, 1], [86, 87]), (3, [0, 1, 2], [86, 87]), (4, [0, 1, 2, 3], [86, 87]), (5, [], [81, 82, 83, 84, 85]), (6, [5], [81, 82, 83, 84, 85]), (7, [0, 1, 2, 3, 4, 5, 6], [])] mixed (by kernel_rfl) ?_
      repeat' first | refine wr (by omega) ?_ | refine ln ?_ | refine stp lay_ok rfl ?_ | refine fin ?_ | refine n_thn ?_ | refine n_blk ?_ | refine e_thn ?_ | refine e_hit ?_ | refine e_miss rfl ?_ | refine r_thn ?_ | refine r_blk ?_ | refine e_rr ?_ | refine r_rr ?_ | refine e_cr ?_ | refine r_cr ?_ | refine .seq ?_ | refine reg ?_ | refine .block ?_ | refine .skip ?_ | refine .ret ?_ | refine .exit ?_ | refine cndT rfl ?_ | refine cndF rfl ?_ | refine c_dec rfl (fun hc => ?_) (fun hc => ?_) | refine c_ndec rfl (fun hc => ?_) (fun hc => ?_) | refine cnd rfl (fun hc => ?_) (fun hc => ?_) | ((first | refine o_none rfl ?_ | refine o_none_ ?_ | refine o_yes rfl rfl rfl ?_ | refine o_yes_ rfl rfl ?_); first | refine st_index (rowE ⟨q, z', ks⟩) lay_ok rfl rfl rfl rfl (by omega) hat ?_) | refine gd rfl rfl rfl (fun hg => ?_) (fun hg => ?_) | refine gn rfl rfl rfl (fun hg => ?_) (fun hg => ?_) | refine dwr (by omega) ?_ | refine dwl ?_ | refine dws lay_ok rfl rfl rfl rfl rfl rfl rfl ?_ | refine dwu lay_ok rfl rfl rfl rfl rfl rfl rfl rfl rfl ?_ | refine dw_end ?_ | refine dw_skip rfl rfl rfl ?_ | refine dwn lay_ok rfl rfl rfl rfl rfl ?_ | refine dwb rfl rfl rfl rfl rfl (by (first | refine st_index (rowE ⟨q, z', ks⟩) lay_ok rfl rfl rfl rfl (by omega) hat ?_); exact fin rfl) rfl rfl ?_ | refine dwg rfl rfl rfl rfl rfl (by (first | refine st_index (rowE ⟨q, z', ks⟩) lay_ok rfl rfl rfl rfl (by omega) hat ?_); exact fin rfl) rfl rfl rfl rfl rfl ?_ | refine dw_dec rfl rfl rfl (fun hg => ?_) (fun hg => ?_) | refine dw_ndec rfl rfl rfl (fun hg => ?_) (fun hg => ?_)
      all_goals first
        | (exfalso; omega)
        | (exfalso; contradiction)
        | skip
      refine n_rr ((a + 1, a)) ?_ (.of [] (by (repeat' first | exact trivial | refine And.intro ?_ ?_ | rfl | exact congrArg (fun z : Int => some (AV.st (.int .i64 z))) (show (a : Int) + 1 = ((a + 1 : Nat) : Int) by omega)); first | done | fail) (by (repeat' first | exact trivial | refine And.intro ?_ ?_ | rfl | exact congrArg (fun z : Int => some (AV.st (.int .i64 z))) (show (a : Int) + 1 = ((a + 1 : Nat) : Int) by omega)); first | done | fail) rfl) ?_
      · show m.length - (a + 1) < m.length - a; omega
      · exact ⟨hi, by rw [if_neg (by omega)]; omega⟩
    · repeat' first | refine wr (by omega) ?_ | refine ln ?_ | refine stp lay_ok rfl ?_ | refine fin ?_ | refine n_thn ?_ | refine n_blk ?_ | refine e_thn ?_ | refine e_hit ?_ | refine e_miss rfl ?_ | refine r_thn ?_ | refine r_blk ?_ | refine e_rr ?_ | refine r_rr ?_ | refine e_cr ?_ | refine r_cr ?_ | refine .seq ?_ | refine reg ?_ | refine .block ?_ | refine .skip ?_ | refine .ret ?_ | refine .exit ?_ | refine cndT rfl ?_ | refine cndF rfl ?_ | refine c_dec rfl (fun hc => ?_) (fun hc => ?_) | refine c_ndec rfl (fun hc => ?_) (fun hc => ?_) | refine cnd rfl (fun hc => ?_) (fun hc => ?_) | refine gd rfl rfl rfl (fun hg => ?_) (fun hg => ?_) | refine gn rfl rfl rfl (fun hg => ?_) (fun hg => ?_) | refine dwr (by omega) ?_ | refine dwl ?_ | refine dws lay_ok rfl rfl rfl rfl rfl rfl rfl ?_ | refine dwu lay_ok rfl rfl rfl rfl rfl rfl rfl rfl rfl ?_ | refine dw_end ?_ | refine dw_skip rfl rfl rfl ?_ | refine dwn lay_ok rfl rfl rfl rfl rfl ?_ | refine dw_dec rfl rfl rfl (fun hg => ?_) (fun hg => ?_) | refine dw_ndec rfl rfl rfl (fun hg => ?_) (fun hg => ?_)
      all_goals first
        | (exfalso; omega)
        | skip
      refine dreg [(0, [], [65, 66]), (1, [], [64]), (2, [1], [64]), (3, [0, 1, 2], []), (4, [0, 1, 2, 3], []), (5, [0, 1, 2, 3, 4], [70, 73, 74, 75, 76]), (6, [0, 1, 2, 3, 4], [69, 73, 74, 75, 76]), (7, [0, 1, 2, 3, 4, 5, 6], [73, 74, 75, 76]), (8, [0, 1, 2, 3, 4, 5, 6, 7], [73, 74, 75, 76]), (9, [0, 1, 2, 3, 4], [69, 70, 71, 72, 74]), (10, [0, 1, 2, 3, 4], [69, 70, 71, 72, 73]), (11, [0, 1, 2, 3, 4, 9, 10], [69, 70, 71, 72]), (12, [0, 1, 2, 3, 4, 9, 10, 11], [69, 70, 71, 72]), (13, [0, 1, 2, 3, 4, 5, 6, 7, 8, 9, 10, 11, 12], []), (14, [0, 1, 2, 3, 4, 5, 6, 7, 8, 9, 10, 11, 12, 13], [])] mixed (by kernel_rfl) ?_
      repeat' first | refine wr (by omega) ?_ | refine ln ?_ | refine stp lay_ok rfl ?_ | refine fin ?_ | refine n_thn ?_ | refine n_blk ?_ | refine e_thn ?_ | refine e_hit ?_ | refine e_miss rfl ?_ | refine r_thn ?_ | refine r_blk ?_ | refine e_rr ?_ | refine r_rr ?_ | refine e_cr ?_ | refine r_cr ?_ | refine .seq ?_ | refine reg ?_ | refine .block ?_ | refine .skip ?_ | refine .ret ?_ | refine .exit ?_ | refine cndT rfl ?_ | refine cndF rfl ?_ | refine c_dec rfl (fun hc => ?_) (fun hc => ?_) | refine c_ndec rfl (fun hc => ?_) (fun hc => ?_) | refine cnd rfl (fun hc => ?_) (fun hc => ?_) | refine gd rfl rfl rfl (fun hg => ?_) (fun hg => ?_) | refine gn rfl rfl rfl (fun hg => ?_) (fun hg => ?_) | refine dwr (by omega) ?_ | refine dwl ?_ | refine dws lay_ok rfl rfl rfl rfl rfl rfl rfl ?_ | refine dwu lay_ok rfl rfl rfl rfl rfl rfl rfl rfl rfl ?_ | refine dw_end ?_ | refine dw_skip rfl rfl rfl ?_ | refine dwn lay_ok rfl rfl rfl rfl rfl ?_ | refine dw_dec rfl rfl rfl (fun hg => ?_) (fun hg => ?_) | refine dw_ndec rfl rfl rfl (fun hg => ?_) (fun hg => ?_)
      all_goals first
        | (exfalso; omega)
        | skip
      refine dreg [(0, [], [82, 86, 87]), (1, [], [81, 86, 87]), (2, [0, 1], [86, 87]), (3, [0, 1, 2], [86, 87]), (4, [0, 1, 2, 3], [86, 87]), (5, [], [81, 82, 83, 84, 85]), (6, [5], [81, 82, 83, 84, 85]), (7, [0, 1, 2, 3, 4, 5, 6], [])] mixed (by kernel_rfl) ?_
      repeat' first | refine wr (by omega) ?_ | refine ln ?_ | refine stp lay_ok rfl ?_ | refine fin ?_ | refine n_thn ?_ | refine n_blk ?_ | refine e_thn ?_ | refine e_hit ?_ | refine e_miss rfl ?_ | refine r_thn ?_ | refine r_blk ?_ | refine e_rr ?_ | refine r_rr ?_ | refine e_cr ?_ | refine r_cr ?_ | refine .seq ?_ | refine reg ?_ | refine .block ?_ | refine .skip ?_ | refine .ret ?_ | refine .exit ?_ | refine cndT rfl ?_ | refine cndF rfl ?_ | refine c_dec rfl (fun hc => ?_) (fun hc => ?_) | refine c_ndec rfl (fun hc => ?_) (fun hc => ?_) | refine cnd rfl (fun hc => ?_) (fun hc => ?_) | ((first | refine o_none rfl ?_ | refine o_none_ ?_ | refine o_yes rfl rfl rfl ?_ | refine o_yes_ rfl rfl ?_); first | refine st_index (rowE ⟨q, z', ks⟩) lay_ok rfl rfl rfl rfl (by omega) hat ?_) | refine gd rfl rfl rfl (fun hg => ?_) (fun hg => ?_) | refine gn rfl rfl rfl (fun hg => ?_) (fun hg => ?_) | refine dwr (by omega) ?_ | refine dwl ?_ | refine dws lay_ok rfl rfl rfl rfl rfl rfl rfl ?_ | refine dwu lay_ok rfl rfl rfl rfl rfl rfl rfl rfl rfl ?_ | refine dw_end ?_ | refine dw_skip rfl rfl rfl ?_ | refine dwn lay_ok rfl rfl rfl rfl rfl ?_ | refine dwb rfl rfl rfl rfl rfl (by (first | refine st_index (rowE ⟨q, z', ks⟩) lay_ok rfl rfl rfl rfl (by omega) hat ?_); exact fin rfl) rfl rfl ?_ | refine dwg rfl rfl rfl rfl rfl (by (first | refine st_index (rowE ⟨q, z', ks⟩) lay_ok rfl rfl rfl rfl (by omega) hat ?_); exact fin rfl) rfl rfl rfl rfl rfl ?_ | refine dw_dec rfl rfl rfl (fun hg => ?_) (fun hg => ?_) | refine dw_ndec rfl rfl rfl (fun hg => ?_) (fun hg => ?_)
      all_goals first
        | (exfalso; omega)
        | (exfalso; contradiction)
        | skip
      refine n_rr ((a + 1, a)) ?_ (.of [] (by (repeat' first | exact trivial | refine And.intro ?_ ?_ | rfl | exact congrArg (fun z : Int => some (AV.st (.int .i64 z))) (show (a : Int) + 1 = ((a + 1 : Nat) : Int) by omega)); first | done | fail) (by (repeat' first | exact trivial | refine And.intro ?_ ?_ | rfl | exact congrArg (fun z : Int => some (AV.st (.int .i64 z))) (show (a : Int) + 1 = ((a + 1 : Nat) : Int) by omega)); first | done | fail) rfl) ?_
      · show m.length - (a + 1) < m.length - a; omega
      · exact ⟨hi, by rw [if_neg (by omega)]; omega⟩
set_option maxHeartbeats 4000000 in
theorem lawMore_ok (o' : Obj) (hO : LaidE o') (l : List FV) (x : FV) (c : CV) (hl : l.length * 32 ≤ 140737488351232) : ACalls prog 3 1 [.st (.sl 2 (l.map rowF)), .st (.agg (rowF x)), cutE c] [(0, .fact 0 o')] fun r h => r = B true ∧ h = [(0, .fact 0 o')] := by
  have hu := up_ok o' hO
  have hf := few_ok (l ++ [x]) (by simp; omega)
  cases hfe : decide ((l ++ [x]).length ≤ 100) && (l ++ [x]).all fewB with
  | false =>
    rw [hfe] at hf
    exact more_few o' l x c hu hl hf
  | true =>
    rw [hfe] at hf
    simp only [Bool.and_eq_true, decide_eq_true_eq] at hfe
    obtain ⟨h100, hall⟩ := hfe
    have hbd := few_bounds hall
    have hp : ∀ e ∈ l ++ [x], e.path.size ≤ 4000000000 - 1 := fun e he => by have := hbd e he; omega
    have hb : ∀ e ∈ l ++ [x], e.bytes.size ≤ 4000000000 := fun e he => by have := hbd e he; omega
    have hln : (l ++ [x]).length = l.length + 1 := by simp
    have h1 := build_ok l c (by omega) (fun e he => hp e (List.mem_append_left _ he)) (fun e he => hb e (List.mem_append_left _ he))
    have h2 := build_ok (l ++ [x]) c (by omega) hp hb
    unfold buildC at h1 h2
    by_cases hok : c.ok = false
    · rw [if_pos hok] at h1 h2
      exact more_err o' l x c _ _ (.inl ⟨_, rfl⟩) (.inl ⟨_, rfl⟩) hu (by omega) hf h1 h2
    rw [if_neg hok] at h1 h2
    by_cases h32 : 32 < l.length
    · rw [if_pos h32] at h1
      rw [if_pos (by omega)] at h2
      exact more_err o' l x c _ _ (.inl ⟨_, rfl⟩) (.inl ⟨_, rfl⟩) hu (by omega) hf h1 h2
    rw [if_neg h32] at h1
    cases hbl : badFile l l.length 0 with
    | some r =>
      rw [hbl] at h1
      have hbm := badFile_app l x l.length 0 hbl
      rw [hln, hbm] at h2
      obtain ⟨i, n⟩ := r
      by_cases h33 : 32 < l.length + 1
      · rw [if_pos h33] at h2
        exact more_err o' l x c _ _ (.inr ⟨_, _, rfl⟩) (.inl ⟨_, rfl⟩) hu (by omega) hf h1 h2
      · rw [if_neg h33] at h2
        exact more_err o' l x c _ _ (.inr ⟨_, _, rfl⟩) (.inr ⟨_, _, rfl⟩) hu (by omega) hf h1 h2
    | none =>
      rw [hbl] at h1
      by_cases h33 : 32 < (l ++ [x]).length
      · rw [if_pos h33] at h2
        exact more_err2 o' l x c _ (.inl ⟨_, rfl⟩) _ hu (by omega) hf h1 h2
      rw [if_neg h33] at h2
      cases hbm : badFile (l ++ [x]) (l ++ [x]).length 0 with
      | some r =>
        obtain ⟨i, n⟩ := r
        rw [hbm] at h2
        exact more_err2 o' l x c _ (.inr ⟨_, _, rfl⟩) _ hu (by omega) hf h1 h2
      | none =>
        rw [hbm] at h2
        simp only at h1 h2
        obtain ⟨u, v, e1, e2, hne⟩ := more_split l x c hbm
        obtain ⟨b1, b2⟩ := srt_bounds l c (fun e he => hb e (List.mem_append_left _ he))
        obtain ⟨b3, b4⟩ := srt_bounds (l ++ [x]) c hb
        rw [e1] at h1 b1 b2
        rw [e2] at h2 b3 b4
        have hul : (u ++ v).length = u.length + v.length := List.length_append
        have hul2 : (u ++ fileE c x :: v).length = u.length + (v.length + 1) := by simp
        refine more_both o' l x c (u ++ v) (u ++ fileE c x :: v) u.length hu (by omega) hf h1 h2 (by omega) (by omega) (by omega) (fun i _ _ hi => ?_) (fun _ => ?_) (fun i hi hi2 hui => ?_) (fun i hi => hne _ (List.getElem_mem hi)) b4 b2
        · rw [List.getElem_append_left hi, List.getElem_append_left hi]
        · rw [List.getElem_append_right (Nat.le_refl _)]; simp [fileE]
        · rw [List.getElem_append_right (by omega), List.getElem_append_right (by omega)]
          obtain ⟨j, rfl⟩ : ∃ j, i = u.length + (j + 1) := ⟨i - u.length - 1, by omega⟩
          have e3 : u.length + (j + 1) - u.length = j + 1 := by omega
          have e4 : u.length + (j + 1) - 1 - u.length = j := by omega
          simp only [e3, e4, List.getElem_cons_succ]
end Go.Proofs.YtmekcbbieacioaaDoorFn
namespace Go.Proofs.YtmekcbbieacioaaDoorFn
open Go.Proofs.YtmekcbbieacioaaDoorAl Go.Proofs.Tryd Go.ChangeAt Go.RowKit
/-! ### what arguments of the laws' types read as -/
abbrev ΦI (xs : List SV) : Prop := ∃ n, xs = [.int .i64 n] ∧ (Lit.int .i64 n).wf = true
theorem rdI : Rd prog 3 ΦI := rd_int underlying3
abbrev ΦU8 (xs : List SV) : Prop := ∃ n, xs = [.int .u8 n] ∧ (Lit.int .u8 n).wf = true
theorem rdU8 : Rd prog 5 ΦU8 := rd_int underlying5
abbrev ΦB (xs : List SV) : Prop := ∃ b, xs = [.bool b]
theorem rdB : Rd prog 4 ΦB := rd_bool underlying4
abbrev ΦS (xs : List SV) : Prop := ∃ s : ByteArray, xs = [.str s] ∧ s.size ≤ reachBytes
theorem rdS : Rd prog 9 ΦS := rd_str underlying9
abbrev ΦL (sz bytes : Nat) (Φ : List SV → Prop) (xs : List SV) : Prop := ∃ rows, xs = [.sl sz rows] ∧ (∀ row ∈ rows, Φ row) ∧ rows.length * bytes ≤ reachBytes
theorem rdLS : Rd prog 35 (ΦL 1 16 ΦS) := rd_slice underlying35 (by kernel_rfl) (by kernel_rfl) rfl rdS
theorem cI : prog.cellsOf 3 = 1 := by kernel_rfl
theorem cB : prog.cellsOf 4 = 1 := by kernel_rfl
theorem cS : prog.cellsOf 9 = 1 := by kernel_rfl
theorem cLS : prog.cellsOf 35 = 1 := by kernel_rfl
theorem cE : prog.cellsOf 37 = 3 := by kernel_rfl
theorem cLE : prog.cellsOf 29 = 1 := by kernel_rfl
abbrev ΦE : List SV → Prop := Pieces [ΦS, ΦI, ΦL 1 16 ΦS]
theorem rdE : Rd prog 37 ΦE := rd_struct underlying37 ⟨rfl, rdS, by rw [cS], rdI, by rw [cI, cS], rdLS, by rw [cE, cI, cS, cLS]; rfl⟩
theorem rdLE : Rd prog 29 (ΦL 3 48 ΦE) := rd_slice underlying29 (by kernel_rfl) (by kernel_rfl) rfl rdE
/-- What is true of whatever a reader of memory brings: sizes that memory has room for. -/
def EV.inMem (e : EV) : Prop := e.path.size ≤ reachBytes ∧ e.keys.length * 16 ≤ reachBytes ∧ ∀ k ∈ e.keys, k.size ≤ reachBytes
theorem ofSs {rows : List (List SV)} (h : ∀ row ∈ rows, ΦS row) : ∃ l : List ByteArray, rows = l.map rowS ∧ ∀ s ∈ l, s.size ≤ reachBytes :=
  rows_map (f := rowS) (Ok := fun s => s.size ≤ reachBytes) h
theorem ofE {xs : List SV} (h : ΦE xs) : ∃ e : EV, xs = rowE e ∧ e.inMem := by
  obtain ⟨_, _, rfl, ⟨p, rfl, hp⟩, _, _, rfl, ⟨z, rfl, _⟩, _, _, rfl, ⟨rows, rfl, hr, hl⟩, rfl⟩ := h
  obtain ⟨l, rfl, hs⟩ := ofSs hr
  exact ⟨⟨p, z, l⟩, rfl, hp, by simpa using hl, hs⟩
/-! ### files and cuts -/
theorem cF : prog.cellsOf 24 = 2 := by kernel_rfl
abbrev ΦF : List SV → Prop := Pieces [ΦS, ΦS]
theorem rdF : Rd prog 24 ΦF := rd_struct underlying24 ⟨rfl, rdS, by rw [cS], rdS, by rw [cF, cS]; rfl⟩
theorem rdLF : Rd prog 22 (ΦL 2 32 ΦF) := rd_slice underlying22 (by kernel_rfl) (by kernel_rfl) rfl rdF
theorem cC : prog.cellsOf 26 = 3 := by kernel_rfl
abbrev ΦC : List SV → Prop := Pieces [ΦI, ΦI, ΦI]
theorem rdC : Rd prog 26 ΦC := rd_struct underlying26 ⟨rfl, rdI, by rw [cI], rdI, by rw [cI], rdI, by rw [cC, cI]; rfl⟩
end Go.Proofs.YtmekcbbieacioaaDoorFn
namespace Go.Proofs.YtmekcbbieacioaaDoorFn
open Go.Proofs.YtmekcbbieacioaaDoorAl Go.Proofs.Tryd Go.ChangeAt Go.RowKit
/-! ### what files and cuts read as -/
def FV.inMem (e : FV) : Prop := e.path.size ≤ reachBytes ∧ e.bytes.size ≤ reachBytes
theorem ofF {xs : List SV} (h : ΦF xs) : ∃ e : FV, xs = rowF e ∧ e.inMem := by
  obtain ⟨_, _, rfl, ⟨p, rfl, hp⟩, _, _, rfl, ⟨z, rfl, hz⟩, rfl⟩ := h
  exact ⟨⟨p, z⟩, rfl, hp, hz⟩
theorem ofC {xs : List SV} (h : ΦC xs) : ∃ c : CV, xs = [.int .i64 c.mn, .int .i64 c.mx, .int .i64 c.ms] := by
  obtain ⟨_, _, rfl, ⟨a, rfl, _⟩, _, _, rfl, ⟨b, rfl, _⟩, _, _, rfl, ⟨m, rfl, _⟩, rfl⟩ := h
  exact ⟨⟨a, b, m⟩, rfl⟩
end Go.Proofs.YtmekcbbieacioaaDoorFn
namespace Go.Proofs.YtmekcbbieacioaaDoor
open Go.Proofs.YtmekcbbieacioaaDoorAl Go.ChangeAt Go.RowKit
open Go.Proofs.YtmekcbbieacioaaDoorFn
theorem own : ownKnob Tryd.prog.godebug = none := by kernel_rfl
theorem laidOut : laidOutB Tryd.prog = true := by kernel_rfl
def pars : List Par := [⟨22, false, ΦL 2 32 ΦF⟩, ⟨24, true, ΦF⟩, ⟨26, true, ΦC⟩]
theorem pars_ok : ParsOk Tryd.prog pars :=
  ⟨rdLF, ⟨_, Tryd.underlying22, rfl⟩, by kernel_rfl, of_decide_eq_true (by kernel_rfl),
   rdF, ⟨_, Tryd.underlying24, rfl⟩, by kernel_rfl, of_decide_eq_true (by kernel_rfl),
   rdC, ⟨_, Tryd.underlying26, rfl⟩, by kernel_rfl, of_decide_eq_true (by kernel_rfl), trivial⟩
theorem law_ok : LawOkF Tryd.prog 3 pars LaidE := by
  rintro svs ⟨_, _, rfl, ⟨r0, h0, hr0, hl0⟩, _, _, rfl, ⟨xs1, rfl, hp1⟩, _, _, rfl, ⟨xs2, rfl, hp2⟩, rfl⟩ o hO
  cases h0
  obtain ⟨x0, rfl, hm0⟩ := rows_map (f := rowF) (Ok := FV.inMem) (fun row hm => ofF (hr0 row hm))
  simp only [List.length_map] at hl0
  obtain ⟨x1, rfl, hm1⟩ := ofF hp1
  obtain ⟨x2, rfl⟩ := ofC hp2
  have hreach : reachBytes ≤ 140737488351232 := by decide
  exact lawMore_ok o hO x0 x1 x2 (by omega)
theorem hE (W : World) (h : laidMetH Tryd.prog Rows.treeMoreRow.laid W) : ∃ o, W.heap[0]? = some o ∧ LaidE o := by
  have h' : laidMet Tryd.prog [("unicode/utf8.acceptRanges", Rows.laid_unicode_utf8_acceptRanges), ("unicode/utf8.first", Rows.laid_unicode_utf8_first)] W ∧ handlesMet Tryd.prog [("errors.errorType", Rows.laid_errors_errorType)] W := h
  obtain ⟨name, u, ty, e1, e2, e3, e4, e5⟩ := h'.2 _ (List.mem_singleton.2 rfl)
  have en : name = [101, 114, 114, 111, 114] := (Option.some.inj e1).symm
  subst en
  obtain rfl := Option.some.inj ((show (Tryd.prog.cutTypes.find? (·.1 == "internal/reflectlite.rtype")).map (·.2) = some 98 by kernel_rfl).symm.trans e2)
  have hm : ty ∈ (List.range Tryd.prog.types.size).filter fun t => Tryd.prog.rowNamed t [101, 114, 114, 111, 114] := List.mem_filter.2 ⟨List.mem_range.2 e3, e4⟩
  rw [show ((List.range Tryd.prog.types.size).filter fun t => Tryd.prog.rowNamed t [101, 114, 114, 111, 114]) = [31] by kernel_rfl] at hm
  obtain rfl := List.mem_singleton.1 hm
  rw [show typeHandle Tryd.prog 31 = .pointer (some ⟨4, 31, none⟩) by kernel_rfl] at e5
  have hc := World.var?_cell (show Tryd.prog.globalNamed "errors.errorType" = some 0 by kernel_rfl) e5 0
  unfold World.cell? at hc
  split at hc
  · rename_i c T fr ho
    exact ⟨_, ho, c, T, fr, rfl, by simpa using hc⟩
  · cases hc
def plain : List (String × DataW Unit) := [("unicode/utf8.acceptRanges", Rows.laid_unicode_utf8_acceptRanges), ("unicode/utf8.first", Rows.laid_unicode_utf8_first)]
noncomputable def w0 (os : Os) : World := { World.holding Tryd.prog os ⟨#[], #[], []⟩ with heap := (World.holding Tryd.prog os ⟨#[], #[], []⟩).heap.modify 0 fun
  | .cells _ t fr => .cells #[.iface 98 (.agg #[.pointer (some ⟨4, 31, none⟩)])] t fr
  | o => o }
noncomputable def w1 (os : Os) : World := (w0 os).layVars Tryd.prog plain
theorem plain_met (os : Os) : laidMet Tryd.prog plain (w1 os) := by
  have e1 : (plain.filter fun x => (plain.map (·.1)).contains x.1) = plain := List.filter_eq_self.2 fun x hx => List.contains_iff_mem.2 (List.mem_map.2 ⟨x, hx, rfl⟩)
  have e2 : (plain.filter fun x => !(plain.map (·.1)).contains x.1) = [] := List.filter_eq_nil_iff.2 fun x hx => by rw [List.contains_iff_mem.2 (List.mem_map.2 ⟨x, hx, rfl⟩)]; simp
  exact laidMet_layVars (w0 := w0 os) (plain.map (·.1)) [] (by rw [e1]; rfl) (by rw [e1]; kernel_rfl) (by rw [e1]; kernel_rfl) (by rw [e2]; exact LaidIn.none)
theorem door_met (os : Os) (args : Array Value) : laidMetH Tryd.prog Rows.treeMoreRow.laid ((w1 os).forCall (fun _ _ => 0) ⟨#[], args, []⟩).memory :=
  laidMetH_of_parts (show laidMet Tryd.prog plain _ from (plain_met os).of_heap (by simp [World.memory, World.forCall, Input.heap])) (by kernel_rfl)
set_option maxRecDepth 100000 in
theorem law_lift (os : Os) (started : os.Started) (H : Type) (enc : TypeId × Value → H) :
    ReturnsInHanded {} Tryd.checked os 3 .any (fun w args => (Rows.treeMoreSpec.pre enc Tryd.prog Tryd.f3 [] false w args ∧ laidMetH Tryd.prog Rows.treeMoreRow.laid w) ∧ sizedMet enc Tryd.prog Tryd.f3 (OpenSpec.ofChange Rows.treeMoreSpec) false w args) (Rows.treeMoreSpec.post enc Tryd.prog Tryd.f3 false true false false) :=
  law_liftedF (C := Tryd.checked) (ps := pars) own started (by kernel_rfl) Tryd.func3
    (ChangeSpec.witness_shaped (enc := enc) (C := Tryd.checked) (os := os) (X := fun w _ => laidMetH Tryd.prog Rows.treeMoreRow.laid w) false (w1 os) #[.slice none 0 0, .agg #[.string ByteArray.empty, .string ByteArray.empty], .agg #[.int .i64 0, .int .i64 0, .int .i64 0]] 8 (World.layVars_os _ _ _)
      (World.shaped_of_ZipB (by kernel_rfl) (by kernel_rfl)) (by kernel_rfl) (by kernel_rfl) (by kernel_rfl) (door_met os _))
    laidOut rfl rfl Tryd.underlying4 rfl
    (fun ds hds => by
      match ds, hds with
      | [_, _, _], _ => rfl) pars_ok LaidE hE law_ok
theorem law_over : Rows.treeMoreRow.holds Tryd.pinned (OpenSpec.ofChange Rows.treeMoreSpec) :=
  OpenClaim.holds_of_wide 3 Tryd.f3 rfl rfl rfl rfl rfl rfl rfl ⟨rfl, rfl, rfl, rfl, rfl⟩ rfl rfl rfl rfl rfl (by kernel_rfl) Tryd.func3 (by kernel_rfl)
    (of_decide_eq_true (by kernel_rfl)) (by unfold Func.isWrapper; first | (rw [if_pos (by decide +kernel)]; kernel_rfl) | (rw [if_neg (by decide +kernel)]; exact ⟨rfl, rfl⟩))
    (fun os started H enc _ => law_lift os started H enc)
theorem TreeMore_holds : Rows.TreeMoreCardSaid :=
  Claim7.holds_tied_plain_at .later [] [.data, .handle, .pinned] true Rows.treeMoreCard.stood.harness Rows.treeMoreCard.stood.looks law_over (fun _ h => by cases h) (by kernel_rfl) (fun _ h => by cases h) treeMore_row_tie rfl ⟨rfl, rfl⟩ (by kernel_rfl) rfl
    (fun f fn hf hfn => by
      obtain rfl : f = 3 := Option.some.inj ((show Tryd.prog.funcNamed "becket/becketlaw04.TreeMore" = some 3 by kernel_rfl).symm.trans hf) |>.symm
      obtain rfl : fn = Tryd.f3 := (Option.some.inj (Tryd.func3.symm.trans hfn)).symm
      exact ⟨by kernel_rfl, fun j t ht => by
        have hm : t ∈ ([22, 24, 26] : List Nat) := by
          have e := Array.mem_of_getElem? ht
          rw [Tryd.params3] at e
          simpa using e
        have hall : (([22, 24, 26] : List Nat).all fun u => !Tryd.prog.wantsStandIn u) = true := by kernel_rfl
        exact (show Tryd.prog.wantsStandIn t = false by simpa using List.all_eq_true.1 hall t hm)⟩)
    (by kernel_rfl)
#print axioms TreeMore_holds
end Go.Proofs.YtmekcbbieacioaaDoor
