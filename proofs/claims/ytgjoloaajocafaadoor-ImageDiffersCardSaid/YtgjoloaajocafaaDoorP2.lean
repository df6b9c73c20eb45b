/- Texts that the law's proof uses: part 2. -/
import Derived.Test.YtgjoloaajocafaaDoorP1
import Derived.Test.YtgjoloaajocafaaDoorAlZm
set_option linter.all false
namespace Go.Proofs.YtgjoloaajocafaaDoorFn
open Go.Proofs.YtgjoloaajocafaaDoorAl Go.Proofs.Tryd
attribute [local irreducible] IntKind.wrap CodeOk OpsL OpG ACalls thn inBlk rndR cutR WkR Wk fnR DW ExtOk partsOf
theorem b52 : HasBody prog 52 := ⟨f52, func52, Option.some_ne_none _, by decide⟩
theorem b30 : HasBody prog 30 := ⟨f30, func30, Option.some_ne_none _, by decide⟩
theorem b14 : HasBody prog 14 := ⟨f14, func14, Option.some_ne_none _, by decide⟩
theorem textF_ok (b : List UInt8) (s : ByteArray) (hb : b.length ≤ 3000000000) (hs : s.size ≤ 3000000000) : ACalls prog 53 0 [Bs b, Sx s] [] fun r h => r = Bs (b ++ textL s) ∧ h = [] := by
  refine fnC lay_ok func53 rfl rfl rfl rfl rfl ?_
  have hn := num_ok b s.size hb (by omega)
  have hl := numF_len 10 s.size
  have hlen : ((b ++ numL s.size).map rowB).length ≤ 3000000010 := by simp [numL]; omega
  have hr : (b ++ numL s.size).map rowB ++ s.data.toList.map rowB = (b ++ textL s).map rowB := by rw [← List.map_append, textL, List.append_assoc]
  repeat' first | refine wr (by omega) ?_ | refine ln ?_ | refine stp lay_ok rfl ?_ | refine fin ?_ | refine n_thn ?_ | refine n_blk ?_ | refine e_thn ?_ | refine e_hit ?_ | refine e_miss rfl ?_ | refine r_thn ?_ | refine r_blk ?_ | refine e_rr ?_ | refine r_rr ?_ | refine e_cr ?_ | refine r_cr ?_ | refine .seq ?_ | refine reg ?_ | refine .block ?_ | refine .skip ?_ | refine .ret ?_ | refine .exit ?_ | refine cndT rfl ?_ | refine cndF rfl ?_ | refine c_dec rfl (fun hc => ?_) (fun hc => ?_) | refine c_ndec rfl (fun hc => ?_) (fun hc => ?_) | refine cnd rfl (fun hc => ?_) (fun hc => ?_) | refine gd rfl rfl rfl (fun hg => ?_) (fun hg => ?_) | refine gn rfl rfl rfl (fun hg => ?_) (fun hg => ?_) | refine dwr (by omega) ?_ | refine dwl ?_ | refine dws lay_ok rfl rfl rfl rfl rfl rfl rfl ?_ | refine dwu lay_ok rfl rfl rfl rfl rfl rfl rfl rfl rfl ?_ | refine dw_end ?_ | refine dw_skip rfl rfl rfl ?_ | refine dwn lay_ok rfl rfl rfl rfl rfl ?_ | refine dw_dec rfl rfl rfl (fun hg => ?_) (fun hg => ?_) | refine dw_ndec rfl rfl rfl (fun hg => ?_) (fun hg => ?_)
  rw [u64wrap _ (by omega)]
  repeat' first | refine wr (by omega) ?_ | refine ln ?_ | refine stp lay_ok rfl ?_ | refine fin ?_ | refine n_thn ?_ | refine n_blk ?_ | refine e_thn ?_ | refine e_hit ?_ | refine e_miss rfl ?_ | refine r_thn ?_ | refine r_blk ?_ | refine e_rr ?_ | refine r_rr ?_ | refine e_cr ?_ | refine r_cr ?_ | refine .seq ?_ | refine reg ?_ | refine .block ?_ | refine .skip ?_ | refine .ret ?_ | refine .exit ?_ | refine cndT rfl ?_ | refine cndF rfl ?_ | refine c_dec rfl (fun hc => ?_) (fun hc => ?_) | refine c_ndec rfl (fun hc => ?_) (fun hc => ?_) | refine cnd rfl (fun hc => ?_) (fun hc => ?_) | ((first | refine o_none rfl ?_ | refine o_none_ ?_ | refine o_yes rfl rfl rfl ?_ | refine o_yes_ rfl rfl ?_); first | refine st_callF 1 (hn) b65 rfl rfl rfl rfl rfl rfl (by (repeat' first | exact trivial | refine And.intro ?_ ?_ | rfl); first | done | fail) rfl ?_ | refine st_appendS lay_ok rfl rfl rfl rfl rfl rfl rfl rfl (.lsl rfl rfl) rfl (by omega) (by omega) ?_) | refine gd rfl rfl rfl (fun hg => ?_) (fun hg => ?_) | refine gn rfl rfl rfl (fun hg => ?_) (fun hg => ?_) | refine dwr (by omega) ?_ | refine dwl ?_ | refine dws lay_ok rfl rfl rfl rfl rfl rfl rfl ?_ | refine dwu lay_ok rfl rfl rfl rfl rfl rfl rfl rfl rfl ?_ | refine dw_end ?_ | refine dw_skip rfl rfl rfl ?_ | refine dwn lay_ok rfl rfl rfl rfl rfl ?_ | refine dwb rfl rfl rfl rfl rfl (by (first | refine st_callF 1 (hn) b65 rfl rfl rfl rfl rfl rfl (by (repeat' first | exact trivial | refine And.intro ?_ ?_ | rfl); first | done | fail) rfl ?_ | refine st_appendS lay_ok rfl rfl rfl rfl rfl rfl rfl rfl (.lsl rfl rfl) rfl (by omega) (by omega) ?_); exact fin rfl) rfl rfl ?_ | refine dwg rfl rfl rfl rfl rfl (by (first | refine st_callF 1 (hn) b65 rfl rfl rfl rfl rfl rfl (by (repeat' first | exact trivial | refine And.intro ?_ ?_ | rfl); first | done | fail) rfl ?_ | refine st_appendS lay_ok rfl rfl rfl rfl rfl rfl rfl rfl (.lsl rfl rfl) rfl (by omega) (by omega) ?_); exact fin rfl) rfl rfl rfl rfl rfl ?_ | refine dw_dec rfl rfl rfl (fun hg => ?_) (fun hg => ?_) | refine dw_ndec rfl rfl rfl (fun hg => ?_) (fun hg => ?_)
  rw [hr]
  refine f_end (n0 := 0) (t'' := [(4, Bs (b ++ textL s))]) (h'' := []) (Wk.then (Wk.frz 1 [4] rfl rfl rfl (by (repeat' first | exact trivial | refine And.intro ?_ ?_ | rfl); first | done | fail) (by (repeat' first | exact trivial | refine And.intro ?_ ?_ | rfl); first | done | fail) rfl rfl) (WkR.of [] (by (repeat' first | exact trivial | refine And.intro ?_ ?_ | rfl); first | done | fail) (by (repeat' first | exact trivial | refine And.intro ?_ ?_ | rfl); first | done | fail) rfl)) rfl rfl ⟨?_, rfl⟩
  rfl
theorem icount_ok (b : List UInt8) (n : Nat) (hb : b.length ≤ 3000000000) (hn : n < 2 ^ 63) : ACalls prog 52 0 [Bs b, I n] [] fun r h => r = Bs (b ++ numL n) ∧ h = [] := by
  refine fnC lay_ok func52 rfl rfl rfl rfl rfl ?_
  have h1 := num_ok b n hb (by omega)
  repeat' first | refine wr (by omega) ?_ | refine ln ?_ | refine stp lay_ok rfl ?_ | refine fin ?_ | refine n_thn ?_ | refine n_blk ?_ | refine e_thn ?_ | refine e_hit ?_ | refine e_miss rfl ?_ | refine r_thn ?_ | refine r_blk ?_ | refine e_rr ?_ | refine r_rr ?_ | refine e_cr ?_ | refine r_cr ?_ | refine .seq ?_ | refine reg ?_ | refine .block ?_ | refine .skip ?_ | refine .ret ?_ | refine .exit ?_ | refine cndT rfl ?_ | refine cndF rfl ?_ | refine c_dec rfl (fun hc => ?_) (fun hc => ?_) | refine c_ndec rfl (fun hc => ?_) (fun hc => ?_) | refine cnd rfl (fun hc => ?_) (fun hc => ?_) | refine gd rfl rfl rfl (fun hg => ?_) (fun hg => ?_) | refine gn rfl rfl rfl (fun hg => ?_) (fun hg => ?_) | refine dwr (by omega) ?_ | refine dwl ?_ | refine dws lay_ok rfl rfl rfl rfl rfl rfl rfl ?_ | refine dwu lay_ok rfl rfl rfl rfl rfl rfl rfl rfl rfl ?_ | refine dw_end ?_ | refine dw_skip rfl rfl rfl ?_ | refine dwn lay_ok rfl rfl rfl rfl rfl ?_ | refine dw_dec rfl rfl rfl (fun hg => ?_) (fun hg => ?_) | refine dw_ndec rfl rfl rfl (fun hg => ?_) (fun hg => ?_)
  rw [u64wrap _ (by omega)]
  repeat' first | refine wr (by omega) ?_ | refine ln ?_ | refine stp lay_ok rfl ?_ | refine fin ?_ | refine n_thn ?_ | refine n_blk ?_ | refine e_thn ?_ | refine e_hit ?_ | refine e_miss rfl ?_ | refine r_thn ?_ | refine r_blk ?_ | refine e_rr ?_ | refine r_rr ?_ | refine e_cr ?_ | refine r_cr ?_ | refine .seq ?_ | refine reg ?_ | refine .block ?_ | refine .skip ?_ | refine .ret ?_ | refine .exit ?_ | refine cndT rfl ?_ | refine cndF rfl ?_ | refine c_dec rfl (fun hc => ?_) (fun hc => ?_) | refine c_ndec rfl (fun hc => ?_) (fun hc => ?_) | refine cnd rfl (fun hc => ?_) (fun hc => ?_) | ((first | refine o_none rfl ?_ | refine o_none_ ?_ | refine o_yes rfl rfl rfl ?_ | refine o_yes_ rfl rfl ?_); first | refine st_callF 1 (h1) b65 rfl rfl rfl rfl rfl rfl (by (repeat' first | exact trivial | refine And.intro ?_ ?_ | rfl); first | done | fail) rfl ?_) | refine gd rfl rfl rfl (fun hg => ?_) (fun hg => ?_) | refine gn rfl rfl rfl (fun hg => ?_) (fun hg => ?_) | refine dwr (by omega) ?_ | refine dwl ?_ | refine dws lay_ok rfl rfl rfl rfl rfl rfl rfl ?_ | refine dwu lay_ok rfl rfl rfl rfl rfl rfl rfl rfl rfl ?_ | refine dw_end ?_ | refine dw_skip rfl rfl rfl ?_ | refine dwn lay_ok rfl rfl rfl rfl rfl ?_ | refine dwb rfl rfl rfl rfl rfl (by (first | refine st_callF 1 (h1) b65 rfl rfl rfl rfl rfl rfl (by (repeat' first | exact trivial | refine And.intro ?_ ?_ | rfl); first | done | fail) rfl ?_); exact fin rfl) rfl rfl ?_ | refine dwg rfl rfl rfl rfl rfl (by (first | refine st_callF 1 (h1) b65 rfl rfl rfl rfl rfl rfl (by (repeat' first | exact trivial | refine And.intro ?_ ?_ | rfl); first | done | fail) rfl ?_); exact fin rfl) rfl rfl rfl rfl rfl ?_ | refine dw_dec rfl rfl rfl (fun hg => ?_) (fun hg => ?_) | refine dw_ndec rfl rfl rfl (fun hg => ?_) (fun hg => ?_)
  refine f_end (n0 := 0) (t'' := [(4, Bs (b ++ numL n))]) (h'' := []) (Wk.then (Wk.frz 0 [4] rfl rfl rfl (by (repeat' first | exact trivial | refine And.intro ?_ ?_ | rfl); first | done | fail) (by (repeat' first | exact trivial | refine And.intro ?_ ?_ | rfl); first | done | fail) rfl rfl) (WkR.of [] (by (repeat' first | exact trivial | refine And.intro ?_ ?_ | rfl); first | done | fail) (by (repeat' first | exact trivial | refine And.intro ?_ ?_ | rfl); first | done | fail) rfl)) rfl rfl ⟨?_, rfl⟩
  rfl
theorem textL_len (s : ByteArray) : (textL s).length ≤ 10 + s.size := by
  have := numF_len 10 s.size
  rw [textL, List.length_append, bytes_len]; exact Nat.add_le_add_right this _
def headE (e : EV) : List UInt8 := textL e.path ++ numL e.size.toNat ++ numL e.keys.length
/-- An entry's bytes. -/
def entL (e : EV) : List UInt8 := headE e ++ (e.keys.map textL).flatten
def headN (s : NV) : List UInt8 := numL s.client.toNat ++ textL s.name ++ numL (if s.done then 1 else 0) ++ numL s.entries.length
def snapL (s : NV) : List UInt8 := headN s ++ (s.entries.map entL).flatten
def putK (l : List NV) (k : Nat) : List UInt8 := numL l.length ++ ((l.take k).map snapL).flatten
def putL (l : List NV) : List UInt8 := numL l.length ++ (l.map snapL).flatten
theorem flat_take {α : Type} (f : α → List UInt8) {l : List α} {k : Nat} (h : k < l.length) : ((l.take (k + 1)).map f).flatten = ((l.take k).map f).flatten ++ f l[k] := by
  rw [List.take_succ_eq_append_getElem h, List.map_append, List.flatten_append]; simp only [List.map_cons, List.map_nil, List.flatten_cons, List.flatten_nil, List.append_nil]
theorem flat_le {α : Type} (f : α → List UInt8) (l : List α) (k : Nat) : ((l.take k).map f).flatten.length ≤ (l.map f).flatten.length := by
  have : l.map f = (l.take k).map f ++ (l.drop k).map f := by rw [← List.map_append, List.take_append_drop]
  rw [this, List.flatten_append, List.length_append]; omega
/-- What can be written. -/
def EV.put (e : EV) : Prop := 0 ≤ e.size ∧ e.size < 2 ^ 62 ∧ e.path.size ≤ 3000000000 ∧ e.keys.length ≤ 3000000000 ∧ ∀ k ∈ e.keys, k.size ≤ 3000000000
def NV.put (s : NV) : Prop := 0 ≤ s.client ∧ s.client < 2 ^ 62 ∧ s.name.size ≤ 3000000000 ∧ s.entries.length ≤ 3000000000 ∧ ∀ e ∈ s.entries, e.put
set_option maxHeartbeats 2000000 in
theorem written_ok (l : List NV) (hl : l.length ≤ 3000000000) (hB : (putL l).length ≤ 3000000000) (hw : ∀ s ∈ l, s.put) : ACalls prog 30 0 [.st (.sl 4 (l.map rowN))] [] fun r h => r = Bs (putL l) ∧ h = [] := by
  have hm : (List.map rowN l).length = l.length := List.length_map _
  have h0 := icount_ok [] l.length (by simp) (by omega)
  rw [List.nil_append, show numL l.length = putK l 0 by simp [putK]] at h0
  refine fnC lay_ok func30 rfl rfl rfl rfl rfl ?_
  repeat' first | refine wr (by omega) ?_ | refine ln ?_ | refine stp lay_ok rfl ?_ | refine fin ?_ | refine n_thn ?_ | refine n_blk ?_ | refine e_thn ?_ | refine e_hit ?_ | refine e_miss rfl ?_ | refine r_thn ?_ | refine r_blk ?_ | refine e_rr ?_ | refine r_rr ?_ | refine e_cr ?_ | refine r_cr ?_ | refine .seq ?_ | refine reg ?_ | refine .block ?_ | refine .skip ?_ | refine .ret ?_ | refine .exit ?_ | refine cndT rfl ?_ | refine cndF rfl ?_ | refine c_dec rfl (fun hc => ?_) (fun hc => ?_) | refine c_ndec rfl (fun hc => ?_) (fun hc => ?_) | refine cnd rfl (fun hc => ?_) (fun hc => ?_) | ((first | refine o_none rfl ?_ | refine o_none_ ?_ | refine o_yes rfl rfl rfl ?_ | refine o_yes_ rfl rfl ?_); first | refine st_pureL (h0) b52 rfl (by (repeat' first | exact AVLeL.nil | refine AVLeL.cons ?_ ?_ | exact AVLe.refl _ | refine AVLe.st ?_ | exact SLe.refl _ | exact SLe.nil _ | exact SLe.sl0 _ | refine SLe.agg ?_ | refine SLe.sl ?_ | refine SLe.iface ?_ | exact SLeL.nil | refine SLeL.cons ?_ ?_ | exact RLe.nil' | refine RLe.cons' rfl ?_ ?_); first | done | fail) rfl rfl rfl ?_) | refine gd rfl rfl rfl (fun hg => ?_) (fun hg => ?_) | refine gn rfl rfl rfl (fun hg => ?_) (fun hg => ?_) | refine dwr (by omega) ?_ | refine dwl ?_ | refine dws lay_ok rfl rfl rfl rfl rfl rfl rfl ?_ | refine dwu lay_ok rfl rfl rfl rfl rfl rfl rfl rfl rfl ?_ | refine dw_end ?_ | refine dw_skip rfl rfl rfl ?_ | refine dwn lay_ok rfl rfl rfl rfl rfl ?_ | refine dwb rfl rfl rfl rfl rfl (by (first | refine st_pureL (h0) b52 rfl (by (repeat' first | exact AVLeL.nil | refine AVLeL.cons ?_ ?_ | exact AVLe.refl _ | refine AVLe.st ?_ | exact SLe.refl _ | exact SLe.nil _ | exact SLe.sl0 _ | refine SLe.agg ?_ | refine SLe.sl ?_ | refine SLe.iface ?_ | exact SLeL.nil | refine SLeL.cons ?_ ?_ | exact RLe.nil' | refine RLe.cons' rfl ?_ ?_); first | done | fail) rfl rfl rfl ?_); exact fin rfl) rfl rfl ?_ | refine dwg rfl rfl rfl rfl rfl (by (first | refine st_pureL (h0) b52 rfl (by (repeat' first | exact AVLeL.nil | refine AVLeL.cons ?_ ?_ | exact AVLe.refl _ | refine AVLe.st ?_ | exact SLe.refl _ | exact SLe.nil _ | exact SLe.sl0 _ | refine SLe.agg ?_ | refine SLe.sl ?_ | refine SLe.iface ?_ | exact SLeL.nil | refine SLeL.cons ?_ ?_ | exact RLe.nil' | refine RLe.cons' rfl ?_ ?_); first | done | fail) rfl rfl rfl ?_); exact fin rfl) rfl rfl rfl rfl rfl ?_ | refine dw_dec rfl rfl rfl (fun hg => ?_) (fun hg => ?_) | refine dw_ndec rfl rfl rfl (fun hg => ?_) (fun hg => ?_)
  refine lpR (fun k => k ≤ l.length) (fun k => l.length - k) (fun k => [(16, I k), (3, Bs (putK l k))]) (fun k => []) (0) [14, 15] [] [] rfl rfl rfl (.of [] (by (repeat' first | exact trivial | refine And.intro ?_ ?_ | rfl); first | done | fail) (by (repeat' first | exact trivial | refine And.intro ?_ ?_ | rfl); first | done | fail) rfl) ?_ ?_
  · exact Nat.zero_le _
  rintro k hk
  refine nrm rfl rfl ?_
  repeat' first | refine wr (by omega) ?_ | refine ln ?_ | refine stp lay_ok rfl ?_ | refine fin ?_ | refine n_thn ?_ | refine n_blk ?_ | refine e_thn ?_ | refine e_hit ?_ | refine e_miss rfl ?_ | refine r_thn ?_ | refine r_blk ?_ | refine e_rr ?_ | refine r_rr ?_ | refine e_cr ?_ | refine r_cr ?_ | refine .seq ?_ | refine reg ?_ | refine .block ?_ | refine .skip ?_ | refine .ret ?_ | refine .exit ?_ | refine cndT rfl ?_ | refine cndF rfl ?_ | refine c_dec rfl (fun hc => ?_) (fun hc => ?_) | refine c_ndec rfl (fun hc => ?_) (fun hc => ?_) | refine cnd rfl (fun hc => ?_) (fun hc => ?_) | refine gd rfl rfl rfl (fun hg => ?_) (fun hg => ?_) | refine gn rfl rfl rfl (fun hg => ?_) (fun hg => ?_) | refine dwr (by omega) ?_ | refine dwl ?_ | refine dws lay_ok rfl rfl rfl rfl rfl rfl rfl ?_ | refine dwu lay_ok rfl rfl rfl rfl rfl rfl rfl rfl rfl ?_ | refine dw_end ?_ | refine dw_skip rfl rfl rfl ?_ | refine dwn lay_ok rfl rfl rfl rfl rfl ?_ | refine dw_dec rfl rfl rfl (fun hg => ?_) (fun hg => ?_) | refine dw_ndec rfl rfl rfl (fun hg => ?_) (fun hg => ?_)
  · have hk' : k < l.length := by omega
    have hat : (l.map rowN)[((k : Nat) : Int).toNat]? = some (rowN l[k]) := by simp [hk']
    have hws := hw _ (List.getElem_mem hk')
    have hst : putK l (k + 1) = putK l k ++ snapL l[k] := by rw [putK, flat_take _ hk', putK, List.append_assoc]
    have hle : (putK l (k + 1)).length ≤ 3000000000 := by
      have := flat_le snapL l (k + 1)
      rw [putL, List.length_append] at hB
      rw [putK, List.length_append]; omega
    generalize putK l k = b0 at *
    generalize hb1 : putK l (k + 1) = b1 at *
    generalize l[k] = s at *
    obtain ⟨c, nm, d, es⟩ := s
    obtain ⟨w1, w2, w3, w4, w5⟩ := hws
    simp only at w1 w2 w3 w4 w5
    obtain ⟨c, rfl⟩ : ∃ c' : Nat, c = c' := ⟨c.toNat, by omega⟩
    rw [snapL, headN] at hst
    simp only [Int.toNat_natCast] at hst
    have hlen : b0.length + (numL c).length + (textL nm).length + (numL (if d = true then 1 else 0)).length + (numL es.length).length + ((es.map entL).flatten).length ≤ 3000000000 := by
      rw [hst] at hle; simp only [List.length_append] at hle; omega
    have e1 := icount_ok b0 c (by omega) (by omega)
    have e2 := textF_ok (b0 ++ numL c) nm (by simp only [List.length_append]; omega) w3
    have e3 := icount_ok (b0 ++ numL c ++ textL nm) (if d = true then 1 else 0) (by simp only [List.length_append]; omega) (by split <;> omega)
    have e4 := icount_ok (b0 ++ numL c ++ textL nm ++ numL (if d = true then 1 else 0)) es.length (by simp only [List.length_append]; omega) (by omega)
    have hst2 : b1 = (b0 ++ numL c ++ textL nm ++ numL (if d = true then 1 else 0) ++ numL es.length) ++ (es.map entL).flatten := by rw [hst]; simp only [List.append_assoc]
    generalize hb2 : b0 ++ numL c ++ textL nm ++ numL (if d = true then 1 else 0) ++ numL es.length = b2 at *
    have hl2 : b2.length + ((es.map entL).flatten).length ≤ 3000000000 := by rw [← List.length_append, ← hst2]; exact hle
    clear hst hb2
    cases d
    all_goals
      repeat' first | refine o_frb 0 [.int .i64 c, .str nm, .bool _, .sl 3 (es.map rowE)] rfl rfl rfl (by (repeat' first | exact trivial | refine And.intro ?_ ?_ | rfl); first | done | fail) (by (repeat' first | exact trivial | refine And.intro ?_ ?_ | rfl); first | done | fail) rfl rfl ?_ | refine wr (by omega) ?_ | refine ln ?_ | refine stp lay_ok rfl ?_ | refine fin ?_ | refine n_thn ?_ | refine n_blk ?_ | refine e_thn ?_ | refine e_hit ?_ | refine e_miss rfl ?_ | refine r_thn ?_ | refine r_blk ?_ | refine e_rr ?_ | refine r_rr ?_ | refine e_cr ?_ | refine r_cr ?_ | refine .seq ?_ | refine reg ?_ | refine .block ?_ | refine .skip ?_ | refine .ret ?_ | refine .exit ?_ | refine cndT rfl ?_ | refine cndF rfl ?_ | refine c_dec rfl (fun hc => ?_) (fun hc => ?_) | refine c_ndec rfl (fun hc => ?_) (fun hc => ?_) | refine cnd rfl (fun hc => ?_) (fun hc => ?_) | ((first | refine o_none rfl ?_ | refine o_none_ ?_ | refine o_yes rfl rfl rfl ?_ | refine o_yes_ rfl rfl ?_); first | refine st_index (rowN ⟨c, nm, _, es⟩) lay_ok rfl rfl rfl rfl (by omega) hat ?_) | refine gd rfl rfl rfl (fun hg => ?_) (fun hg => ?_) | refine gn rfl rfl rfl (fun hg => ?_) (fun hg => ?_) | refine dwr (by omega) ?_ | refine dwl ?_ | refine dws lay_ok rfl rfl rfl rfl rfl rfl rfl ?_ | refine dwu lay_ok rfl rfl rfl rfl rfl rfl rfl rfl rfl ?_ | refine dw_end ?_ | refine dw_skip rfl rfl rfl ?_ | refine dwn lay_ok rfl rfl rfl rfl rfl ?_ | refine dwb rfl rfl rfl rfl rfl (by (first | refine st_index (rowN ⟨c, nm, _, es⟩) lay_ok rfl rfl rfl rfl (by omega) hat ?_); exact fin rfl) rfl rfl ?_ | refine dwg rfl rfl rfl rfl rfl (by (first | refine st_index (rowN ⟨c, nm, _, es⟩) lay_ok rfl rfl rfl rfl (by omega) hat ?_); exact fin rfl) rfl rfl rfl rfl rfl ?_ | refine dw_dec rfl rfl rfl (fun hg => ?_) (fun hg => ?_) | refine dw_ndec rfl rfl rfl (fun hg => ?_) (fun hg => ?_)
      refine dreg [(0, [], [23, 24, 26, 27, 29, 31, 32, 33]), (1, [], [22, 26, 27, 29, 31, 32, 33]), (2, [1], [22, 26, 27, 29, 31, 32, 33]), (3, [0, 1, 2], [26, 27, 29, 31, 32, 33]), (4, [], [22, 23, 24, 25, 29, 31, 32, 33]), (5, [4], [22, 23, 24, 25, 29, 31, 32, 33]), (6, [0, 1, 2, 3, 4, 5], [29, 31, 32, 33]), (7, [], [22, 23, 24, 25, 26, 27, 28, 31, 32, 33]), (8, [0, 1, 2, 3, 4, 5, 6, 7], [31, 32, 33]), (9, [], [22, 23, 24, 25, 26, 27, 28, 29, 30]), (10, [9], [22, 23, 24, 25, 26, 27, 28, 29, 30]), (11, [9, 10], [22, 23, 24, 25, 26, 27, 28, 29, 30]), (12, [0, 1, 2, 3, 4, 5, 6, 7, 8, 9, 10, 11], []), (13, [0, 1, 2, 3, 4, 5, 6, 7, 8, 9, 10, 11, 12], [])] mixed (by kernel_rfl) ?_
      repeat' first | refine wr (by omega) ?_ | refine ln ?_ | refine stp lay_ok rfl ?_ | refine fin ?_ | refine n_thn ?_ | refine n_blk ?_ | refine e_thn ?_ | refine e_hit ?_ | refine e_miss rfl ?_ | refine r_thn ?_ | refine r_blk ?_ | refine e_rr ?_ | refine r_rr ?_ | refine e_cr ?_ | refine r_cr ?_ | refine .seq ?_ | refine reg ?_ | refine .block ?_ | refine .skip ?_ | refine .ret ?_ | refine .exit ?_ | refine cndT rfl ?_ | refine cndF rfl ?_ | refine c_dec rfl (fun hc => ?_) (fun hc => ?_) | refine c_ndec rfl (fun hc => ?_) (fun hc => ?_) | refine cnd rfl (fun hc => ?_) (fun hc => ?_) | ((first | refine o_none rfl ?_ | refine o_none_ ?_ | refine o_yes rfl rfl rfl ?_ | refine o_yes_ rfl rfl ?_); first | refine st_pure (e1) b52 rfl rfl rfl rfl ?_ | refine st_pure (e2) b53 rfl rfl rfl rfl ?_ | refine st_pure (e3) b52 rfl rfl rfl rfl ?_ | refine st_pure (e4) b52 rfl rfl rfl rfl ?_) | refine gd rfl rfl rfl (fun hg => ?_) (fun hg => ?_) | refine gn rfl rfl rfl (fun hg => ?_) (fun hg => ?_) | refine dwr (by omega) ?_ | refine dwl ?_ | refine dws lay_ok rfl rfl rfl rfl rfl rfl rfl ?_ | refine dwu lay_ok rfl rfl rfl rfl rfl rfl rfl rfl rfl ?_ | refine dw_end ?_ | refine dw_skip rfl rfl rfl ?_ | refine dwn lay_ok rfl rfl rfl rfl rfl ?_ | refine dwb rfl rfl rfl rfl rfl (by (first | refine st_pure (e1) b52 rfl rfl rfl rfl ?_ | refine st_pure (e2) b53 rfl rfl rfl rfl ?_ | refine st_pure (e3) b52 rfl rfl rfl rfl ?_ | refine st_pure (e4) b52 rfl rfl rfl rfl ?_); exact fin rfl) rfl rfl ?_ | refine dwg rfl rfl rfl rfl rfl (by (first | refine st_pure (e1) b52 rfl rfl rfl rfl ?_ | refine st_pure (e2) b53 rfl rfl rfl rfl ?_ | refine st_pure (e3) b52 rfl rfl rfl rfl ?_ | refine st_pure (e4) b52 rfl rfl rfl rfl ?_); exact fin rfl) rfl rfl rfl rfl rfl ?_ | refine dw_dec rfl rfl rfl (fun hg => ?_) (fun hg => ?_) | refine dw_ndec rfl rfl rfl (fun hg => ?_) (fun hg => ?_)
    all_goals
      clear e1 e2 e3 e4 hat h0
      rw [← show b2 ++ ((es.take 0).map entL).flatten = b2 by simp]
      refine lpR (fun j => j ≤ es.length) (fun j => es.length - j) (fun j => [(38, I j), (3, Bs (b2 ++ ((es.take j).map entL).flatten))]) (fun j => []) (0) [14, 15, 16, 36, 37] [] [] rfl rfl rfl (.of [] (by (repeat' first | exact trivial | refine And.intro ?_ ?_ | rfl); first | done | fail) (by (repeat' first | exact trivial | refine And.intro ?_ ?_ | rfl); first | done | fail) rfl) ?_ ?_
      · exact Nat.zero_le _
      rintro j hj
      refine nrm rfl rfl ?_
      repeat' first | refine wr (by omega) ?_ | refine ln ?_ | refine stp lay_ok rfl ?_ | refine fin ?_ | refine n_thn ?_ | refine n_blk ?_ | refine e_thn ?_ | refine e_hit ?_ | refine e_miss rfl ?_ | refine r_thn ?_ | refine r_blk ?_ | refine e_rr ?_ | refine r_rr ?_ | refine e_cr ?_ | refine r_cr ?_ | refine .seq ?_ | refine reg ?_ | refine .block ?_ | refine .skip ?_ | refine .ret ?_ | refine .exit ?_ | refine cndT rfl ?_ | refine cndF rfl ?_ | refine c_dec rfl (fun hc => ?_) (fun hc => ?_) | refine c_ndec rfl (fun hc => ?_) (fun hc => ?_) | refine cnd rfl (fun hc => ?_) (fun hc => ?_) | refine gd rfl rfl rfl (fun hg => ?_) (fun hg => ?_) | refine gn rfl rfl rfl (fun hg => ?_) (fun hg => ?_) | refine dwr (by omega) ?_ | refine dwl ?_ | refine dws lay_ok rfl rfl rfl rfl rfl rfl rfl ?_ | refine dwu lay_ok rfl rfl rfl rfl rfl rfl rfl rfl rfl ?_ | refine dw_end ?_ | refine dw_skip rfl rfl rfl ?_ | refine dwn lay_ok rfl rfl rfl rfl rfl ?_ | refine dw_dec rfl rfl rfl (fun hg => ?_) (fun hg => ?_) | refine dw_ndec rfl rfl rfl (fun hg => ?_) (fun hg => ?_)
      · have hj' : j < es.length := by omega
        have hat : (es.map rowE)[((j : Nat) : Int).toNat]? = some (rowE es[j]) := by simp [hj']
        have hes := w5 _ (List.getElem_mem hj')
        have hst3 : b2 ++ ((es.take (j + 1)).map entL).flatten = b2 ++ ((es.take j).map entL).flatten ++ entL es[j] := by rw [flat_take _ hj', List.append_assoc]
        have hl3 : (b2 ++ ((es.take (j + 1)).map entL).flatten).length ≤ 3000000000 := by
          have := flat_le entL es (j + 1)
          rw [List.length_append]; omega
        generalize b2 ++ ((es.take j).map entL).flatten = b3 at *
        rw [hst3] at hl3
        generalize hee : es[j] = e at *
        obtain ⟨p, z, ks⟩ := e
        obtain ⟨v1, v2, v3, v4, v5⟩ := hes
        simp only at v1 v2 v3 v4 v5
        obtain ⟨z, rfl⟩ : ∃ z' : Nat, z = z' := ⟨z.toNat, by omega⟩
        rw [entL, headE] at hst3 hl3
        simp only [Int.toNat_natCast] at hst3 hl3
        have hlen3 : b3.length + (textL p).length + (numL z).length + (numL ks.length).length + ((ks.map textL).flatten).length ≤ 3000000000 := by
          simp only [List.length_append] at hl3; omega
        have f1 := textF_ok b3 p (by omega) v3
        have f2 := icount_ok (b3 ++ textL p) z (by simp only [List.length_append]; omega) (by omega)
        have f3 := icount_ok (b3 ++ textL p ++ numL z) ks.length (by simp only [List.length_append]; omega) (by omega)
        have hst4 : b3 ++ (textL p ++ numL z ++ numL ks.length ++ (ks.map textL).flatten) = (b3 ++ textL p ++ numL z ++ numL ks.length) ++ (ks.map textL).flatten := by simp only [List.append_assoc]
        rw [hst4] at hst3 hl3
        generalize b3 ++ textL p ++ numL z ++ numL ks.length = b4 at *
        repeat' first | refine o_frb 1 [.str p, .int .i64 z, .sl 1 (ks.map rowS)] rfl rfl rfl (by (repeat' first | exact trivial | refine And.intro ?_ ?_ | rfl); first | done | fail) (by (repeat' first | exact trivial | refine And.intro ?_ ?_ | rfl); first | done | fail) rfl rfl ?_ | refine wr (by omega) ?_ | refine ln ?_ | refine stp lay_ok rfl ?_ | refine fin ?_ | refine n_thn ?_ | refine n_blk ?_ | refine e_thn ?_ | refine e_hit ?_ | refine e_miss rfl ?_ | refine r_thn ?_ | refine r_blk ?_ | refine e_rr ?_ | refine r_rr ?_ | refine e_cr ?_ | refine r_cr ?_ | refine .seq ?_ | refine reg ?_ | refine .block ?_ | refine .skip ?_ | refine .ret ?_ | refine .exit ?_ | refine cndT rfl ?_ | refine cndF rfl ?_ | refine c_dec rfl (fun hc => ?_) (fun hc => ?_) | refine c_ndec rfl (fun hc => ?_) (fun hc => ?_) | refine cnd rfl (fun hc => ?_) (fun hc => ?_) | ((first | refine o_none rfl ?_ | refine o_none_ ?_ | refine o_yes rfl rfl rfl ?_ | refine o_yes_ rfl rfl ?_); first | refine st_index (rowE ⟨p, z, ks⟩) lay_ok rfl rfl rfl rfl (by omega) hat ?_) | refine gd rfl rfl rfl (fun hg => ?_) (fun hg => ?_) | refine gn rfl rfl rfl (fun hg => ?_) (fun hg => ?_) | refine dwr (by omega) ?_ | refine dwl ?_ | refine dws lay_ok rfl rfl rfl rfl rfl rfl rfl ?_ | refine dwu lay_ok rfl rfl rfl rfl rfl rfl rfl rfl rfl ?_ | refine dw_end ?_ | refine dw_skip rfl rfl rfl ?_ | refine dwn lay_ok rfl rfl rfl rfl rfl ?_ | refine dwb rfl rfl rfl rfl rfl (by (first | refine st_index (rowE ⟨p, z, ks⟩) lay_ok rfl rfl rfl rfl (by omega) hat ?_); exact fin rfl) rfl rfl ?_ | refine dwg rfl rfl rfl rfl rfl (by (first | refine st_index (rowE ⟨p, z, ks⟩) lay_ok rfl rfl rfl rfl (by omega) hat ?_); exact fin rfl) rfl rfl rfl rfl rfl ?_ | refine dw_dec rfl rfl rfl (fun hg => ?_) (fun hg => ?_) | refine dw_ndec rfl rfl rfl (fun hg => ?_) (fun hg => ?_)
        refine dreg [(0, [], [43, 44, 46, 47, 49, 50, 51]), (1, [], [42, 46, 47, 49, 50, 51]), (2, [1], [42, 46, 47, 49, 50, 51]), (3, [0, 1, 2], [46, 47, 49, 50, 51]), (4, [], [42, 43, 44, 45, 49, 50, 51]), (5, [4], [42, 43, 44, 45, 49, 50, 51]), (6, [0, 1, 2, 3, 4, 5], [49, 50, 51]), (7, [], [42, 43, 44, 45, 46, 47, 48]), (8, [7], [42, 43, 44, 45, 46, 47, 48]), (9, [7, 8], [42, 43, 44, 45, 46, 47, 48]), (10, [0, 1, 2, 3, 4, 5, 6, 7, 8, 9], []), (11, [0, 1, 2, 3, 4, 5, 6, 7, 8, 9, 10], [])] mixed (by kernel_rfl) ?_
        repeat' first | refine wr (by omega) ?_ | refine ln ?_ | refine stp lay_ok rfl ?_ | refine fin ?_ | refine n_thn ?_ | refine n_blk ?_ | refine e_thn ?_ | refine e_hit ?_ | refine e_miss rfl ?_ | refine r_thn ?_ | refine r_blk ?_ | refine e_rr ?_ | refine r_rr ?_ | refine e_cr ?_ | refine r_cr ?_ | refine .seq ?_ | refine reg ?_ | refine .block ?_ | refine .skip ?_ | refine .ret ?_ | refine .exit ?_ | refine cndT rfl ?_ | refine cndF rfl ?_ | refine c_dec rfl (fun hc => ?_) (fun hc => ?_) | refine c_ndec rfl (fun hc => ?_) (fun hc => ?_) | refine cnd rfl (fun hc => ?_) (fun hc => ?_) | ((first | refine o_none rfl ?_ | refine o_none_ ?_ | refine o_yes rfl rfl rfl ?_ | refine o_yes_ rfl rfl ?_); first | refine st_pure (f1) b53 rfl rfl rfl rfl ?_ | refine st_pure (f2) b52 rfl rfl rfl rfl ?_ | refine st_pure (f3) b52 rfl rfl rfl rfl ?_) | refine gd rfl rfl rfl (fun hg => ?_) (fun hg => ?_) | refine gn rfl rfl rfl (fun hg => ?_) (fun hg => ?_) | refine dwr (by omega) ?_ | refine dwl ?_ | refine dws lay_ok rfl rfl rfl rfl rfl rfl rfl ?_ | refine dwu lay_ok rfl rfl rfl rfl rfl rfl rfl rfl rfl ?_ | refine dw_end ?_ | refine dw_skip rfl rfl rfl ?_ | refine dwn lay_ok rfl rfl rfl rfl rfl ?_ | refine dwb rfl rfl rfl rfl rfl (by (first | refine st_pure (f1) b53 rfl rfl rfl rfl ?_ | refine st_pure (f2) b52 rfl rfl rfl rfl ?_ | refine st_pure (f3) b52 rfl rfl rfl rfl ?_); exact fin rfl) rfl rfl ?_ | refine dwg rfl rfl rfl rfl rfl (by (first | refine st_pure (f1) b53 rfl rfl rfl rfl ?_ | refine st_pure (f2) b52 rfl rfl rfl rfl ?_ | refine st_pure (f3) b52 rfl rfl rfl rfl ?_); exact fin rfl) rfl rfl rfl rfl rfl ?_ | refine dw_dec rfl rfl rfl (fun hg => ?_) (fun hg => ?_) | refine dw_ndec rfl rfl rfl (fun hg => ?_) (fun hg => ?_)
        clear f1 f2 f3 hat
        rw [← show b4 ++ ((ks.take 0).map textL).flatten = b4 by simp]
        refine lpR (fun i => i ≤ ks.length) (fun i => ks.length - i) (fun i => [(56, I i), (3, Bs (b4 ++ ((ks.take i).map textL).flatten))]) (fun i => []) (0) [14, 15, 16, 36, 37, 38, 54, 55] [] [] rfl rfl rfl (.of [] (by (repeat' first | exact trivial | refine And.intro ?_ ?_ | rfl); first | done | fail) (by (repeat' first | exact trivial | refine And.intro ?_ ?_ | rfl); first | done | fail) rfl) ?_ ?_
        · exact Nat.zero_le _
        rintro i hi
        refine nrm rfl rfl ?_
        repeat' first | refine wr (by omega) ?_ | refine ln ?_ | refine stp lay_ok rfl ?_ | refine fin ?_ | refine n_thn ?_ | refine n_blk ?_ | refine e_thn ?_ | refine e_hit ?_ | refine e_miss rfl ?_ | refine r_thn ?_ | refine r_blk ?_ | refine e_rr ?_ | refine r_rr ?_ | refine e_cr ?_ | refine r_cr ?_ | refine .seq ?_ | refine reg ?_ | refine .block ?_ | refine .skip ?_ | refine .ret ?_ | refine .exit ?_ | refine cndT rfl ?_ | refine cndF rfl ?_ | refine c_dec rfl (fun hc => ?_) (fun hc => ?_) | refine c_ndec rfl (fun hc => ?_) (fun hc => ?_) | refine cnd rfl (fun hc => ?_) (fun hc => ?_) | refine gd rfl rfl rfl (fun hg => ?_) (fun hg => ?_) | refine gn rfl rfl rfl (fun hg => ?_) (fun hg => ?_) | refine dwr (by omega) ?_ | refine dwl ?_ | refine dws lay_ok rfl rfl rfl rfl rfl rfl rfl ?_ | refine dwu lay_ok rfl rfl rfl rfl rfl rfl rfl rfl rfl ?_ | refine dw_end ?_ | refine dw_skip rfl rfl rfl ?_ | refine dwn lay_ok rfl rfl rfl rfl rfl ?_ | refine dw_dec rfl rfl rfl (fun hg => ?_) (fun hg => ?_) | refine dw_ndec rfl rfl rfl (fun hg => ?_) (fun hg => ?_)
        · have hi' : i < ks.length := by omega
          have hat := at_rowS hi'
          have hst5 : b4 ++ ((ks.take (i + 1)).map textL).flatten = b4 ++ ((ks.take i).map textL).flatten ++ textL ks[i] := by rw [flat_take _ hi', List.append_assoc]
          have hl5 : (b4 ++ ((ks.take i).map textL).flatten).length ≤ 3000000000 := by
            have := flat_le textL ks i
            rw [List.length_append] at hl3 ⊢; omega
          have hkz := v5 _ (List.getElem_mem hi')
          generalize hb5 : b4 ++ ((ks.take i).map textL).flatten = b5 at *
          generalize ks[i] = x at *
          have f4 := textF_ok b5 x hl5 hkz
          repeat' first | refine wr (by omega) ?_ | refine ln ?_ | refine stp lay_ok rfl ?_ | refine fin ?_ | refine n_thn ?_ | refine n_blk ?_ | refine e_thn ?_ | refine e_hit ?_ | refine e_miss rfl ?_ | refine r_thn ?_ | refine r_blk ?_ | refine e_rr ?_ | refine r_rr ?_ | refine e_cr ?_ | refine r_cr ?_ | refine .seq ?_ | refine reg ?_ | refine .block ?_ | refine .skip ?_ | refine .ret ?_ | refine .exit ?_ | refine cndT rfl ?_ | refine cndF rfl ?_ | refine c_dec rfl (fun hc => ?_) (fun hc => ?_) | refine c_ndec rfl (fun hc => ?_) (fun hc => ?_) | refine cnd rfl (fun hc => ?_) (fun hc => ?_) | ((first | refine o_none rfl ?_ | refine o_none_ ?_ | refine o_yes rfl rfl rfl ?_ | refine o_yes_ rfl rfl ?_); first | refine st_index (rowS x) lay_ok rfl rfl rfl rfl (by omega) hat ?_ | refine st_pure (f4) b53 rfl rfl rfl rfl ?_) | refine gd rfl rfl rfl (fun hg => ?_) (fun hg => ?_) | refine gn rfl rfl rfl (fun hg => ?_) (fun hg => ?_) | refine dwr (by omega) ?_ | refine dwl ?_ | refine dws lay_ok rfl rfl rfl rfl rfl rfl rfl ?_ | refine dwu lay_ok rfl rfl rfl rfl rfl rfl rfl rfl rfl ?_ | refine dw_end ?_ | refine dw_skip rfl rfl rfl ?_ | refine dwn lay_ok rfl rfl rfl rfl rfl ?_ | refine dwb rfl rfl rfl rfl rfl (by (first | refine st_index (rowS x) lay_ok rfl rfl rfl rfl (by omega) hat ?_ | refine st_pure (f4) b53 rfl rfl rfl rfl ?_); exact fin rfl) rfl rfl ?_ | refine dwg rfl rfl rfl rfl rfl (by (first | refine st_index (rowS x) lay_ok rfl rfl rfl rfl (by omega) hat ?_ | refine st_pure (f4) b53 rfl rfl rfl rfl ?_); exact fin rfl) rfl rfl rfl rfl rfl ?_ | refine dw_dec rfl rfl rfl (fun hg => ?_) (fun hg => ?_) | refine dw_ndec rfl rfl rfl (fun hg => ?_) (fun hg => ?_)
          rw [← hst5]
          refine n_rr (i + 1) ?_ (.of [] (by (repeat' first | exact trivial | refine And.intro ?_ ?_ | rfl); first | done | fail) (by (repeat' first | exact trivial | refine And.intro ?_ ?_ | rfl); first | done | fail) rfl) ?_
          · omega
          · exact hi'
        · have hie : i = ks.length := by omega
          subst hie
          rw [List.take_length, ← hst3]
          refine n_rr (j + 1) ?_ (.of [] (by (repeat' first | exact trivial | refine And.intro ?_ ?_ | rfl); first | done | fail) (by (repeat' first | exact trivial | refine And.intro ?_ ?_ | rfl); first | done | fail) rfl) ?_
          · omega
          · exact hj'
      · have hje : j = es.length := by omega
        subst hje
        rw [List.take_length, ← hst2, ← hb1]
        refine n_rr (k + 1) ?_ (.of [] (by (repeat' first | exact trivial | refine And.intro ?_ ?_ | rfl); first | done | fail) (by (repeat' first | exact trivial | refine And.intro ?_ ?_ | rfl); first | done | fail) rfl) ?_
        · omega
        · exact hk'
  · have hke : k = l.length := by omega
    subst hke
    have hfin : putK l l.length = putL l := by rw [putK, List.take_length, putL]
    rw [hfin]
    refine f_r [] rfl trivial rfl ⟨?_, rfl⟩
    rfl
end Go.Proofs.YtgjoloaajocafaaDoorFn
namespace Go.Proofs.YtgjoloaajocafaaDoorFn
open Go.Proofs.YtgjoloaajocafaaDoorAl Go.Proofs.Tryd
attribute [local irreducible] IntKind.wrap CodeOk OpsL OpG ACalls thn inBlk rndR cutR WkR Wk fnR DW ExtOk partsOf
theorem put_nil : ACalls prog 14 0 [.st .nilptr] [] fun r h => r = .tuple [.st .nilsl, errE 1] ∧ h = [] := by
  refine fnC lay_ok func14 rfl rfl rfl rfl rfl ?_
  repeat' first | refine wr (by omega) ?_ | refine ln ?_ | refine stp lay_ok rfl ?_ | refine fin ?_ | refine n_thn ?_ | refine n_blk ?_ | refine e_thn ?_ | refine e_hit ?_ | refine e_miss rfl ?_ | refine r_thn ?_ | refine r_blk ?_ | refine e_rr ?_ | refine r_rr ?_ | refine e_cr ?_ | refine r_cr ?_ | refine .seq ?_ | refine reg ?_ | refine .block ?_ | refine .skip ?_ | refine .ret ?_ | refine .exit ?_ | refine cndT rfl ?_ | refine cndF rfl ?_ | refine c_dec rfl (fun hc => ?_) (fun hc => ?_) | refine c_ndec rfl (fun hc => ?_) (fun hc => ?_) | refine cnd rfl (fun hc => ?_) (fun hc => ?_) | refine gd rfl rfl rfl (fun hg => ?_) (fun hg => ?_) | refine gn rfl rfl rfl (fun hg => ?_) (fun hg => ?_)
  refine f_r [] rfl trivial rfl ⟨?_, rfl⟩; rfl
theorem put_ok (l : List NV) (hl : l.length ≤ 3000000000) (hB : (putL l).length ≤ 3000000000) (hw : ∀ s ∈ l, s.put) (hf : ∀ s ∈ l, s.fit) :
    ACalls prog 14 0 [.st (.sptr [.sl 4 (l.map rowN)])] [] fun r h => r = .tuple [Bs (putL l), nilE] ∧ h = [] := by
  have h1 := snaps_ok l (by omega) hf
  have h2 := written_ok l hl hB hw
  refine fnC lay_ok func14 rfl rfl rfl rfl rfl ?_
  repeat' first | refine wr (by omega) ?_ | refine ln ?_ | refine stp lay_ok rfl ?_ | refine fin ?_ | refine n_thn ?_ | refine n_blk ?_ | refine e_thn ?_ | refine e_hit ?_ | refine e_miss rfl ?_ | refine r_thn ?_ | refine r_blk ?_ | refine e_rr ?_ | refine r_rr ?_ | refine e_cr ?_ | refine r_cr ?_ | refine .seq ?_ | refine reg ?_ | refine .block ?_ | refine .skip ?_ | refine .ret ?_ | refine .exit ?_ | refine cndT rfl ?_ | refine cndF rfl ?_ | refine c_dec rfl (fun hc => ?_) (fun hc => ?_) | refine c_ndec rfl (fun hc => ?_) (fun hc => ?_) | refine cnd rfl (fun hc => ?_) (fun hc => ?_) | ((first | refine o_none rfl ?_ | refine o_none_ ?_ | refine o_yes rfl rfl rfl ?_ | refine o_yes_ rfl rfl ?_); first | refine st_pure (h1) b10 rfl rfl rfl rfl ?_ | refine st_pure (h2) b30 rfl rfl rfl rfl ?_) | refine gd rfl rfl rfl (fun hg => ?_) (fun hg => ?_) | refine gn rfl rfl rfl (fun hg => ?_) (fun hg => ?_)
  refine f_r [] rfl trivial rfl ⟨?_, rfl⟩; rfl
theorem new_ok : ACalls prog 19 0 [] [] fun r h => r = .ptr 0 0 ∧ h = [(0, .cells [.st .nilsl])] := by
  refine fnC lay_ok func19 rfl rfl rfl rfl rfl ?_
  repeat' first | refine wr (by omega) ?_ | refine ln ?_ | refine stp lay_ok rfl ?_ | refine fin ?_ | refine n_thn ?_ | refine n_blk ?_ | refine e_thn ?_ | refine e_hit ?_ | refine e_miss rfl ?_ | refine r_thn ?_ | refine r_blk ?_ | refine e_rr ?_ | refine r_rr ?_ | refine e_cr ?_ | refine r_cr ?_ | refine .seq ?_ | refine reg ?_ | refine .block ?_ | refine .skip ?_ | refine .ret ?_ | refine .exit ?_ | refine cndT rfl ?_ | refine cndF rfl ?_ | refine c_dec rfl (fun hc => ?_) (fun hc => ?_) | refine c_ndec rfl (fun hc => ?_) (fun hc => ?_) | refine cnd rfl (fun hc => ?_) (fun hc => ?_) | refine gd rfl rfl rfl (fun hg => ?_) (fun hg => ?_) | refine gn rfl rfl rfl (fun hg => ?_) (fun hg => ?_)
  refine f_end (n0 := 1) (t'' := [(0, .ptr 0 0)]) (h'' := [(0, .cells [.st .nilsl])]) (WkR.of [0] (by (repeat' first | exact trivial | refine And.intro ?_ ?_ | rfl); first | done | fail) (by (repeat' first | exact trivial | refine And.intro ?_ ?_ | rfl); first | done | fail) rfl) rfl rfl ⟨?_, rfl⟩
  rfl
end Go.Proofs.YtgjoloaajocafaaDoorFn
namespace Go.Proofs.YtgjoloaajocafaaDoorFn
open Go.Proofs.YtgjoloaajocafaaDoorAl Go.Proofs.Tryd
attribute [local irreducible] IntKind.wrap CodeOk OpsL OpG ACalls thn inBlk rndR cutR WkR Wk fnR DW ExtOk partsOf
theorem b6 : HasBody prog 6 := ⟨f6, func6, Option.some_ne_none _, by decide⟩
theorem newF_ok : ACalls prog 19 0 [] [] fun r h => r = .st (.sptr [.sl 4 (([] : List NV).map rowN)]) ∧ h = [] := by
  refine fnC lay_ok func19 rfl rfl rfl rfl rfl ?_
  repeat' first | refine wr (by omega) ?_ | refine ln ?_ | refine stp lay_ok rfl ?_ | refine fin ?_ | refine n_thn ?_ | refine n_blk ?_ | refine e_thn ?_ | refine e_hit ?_ | refine e_miss rfl ?_ | refine r_thn ?_ | refine r_blk ?_ | refine e_rr ?_ | refine r_rr ?_ | refine e_cr ?_ | refine r_cr ?_ | refine .seq ?_ | refine reg ?_ | refine .block ?_ | refine .skip ?_ | refine .ret ?_ | refine .exit ?_ | refine cndT rfl ?_ | refine cndF rfl ?_ | refine c_dec rfl (fun hc => ?_) (fun hc => ?_) | refine c_ndec rfl (fun hc => ?_) (fun hc => ?_) | refine cnd rfl (fun hc => ?_) (fun hc => ?_) | refine gd rfl rfl rfl (fun hg => ?_) (fun hg => ?_) | refine gn rfl rfl rfl (fun hg => ?_) (fun hg => ?_)
  refine f_end (n0 := 0) (t'' := [(0, .st (.sptr [.sl 4 []]))]) (h'' := []) (Wk.then (Wk.trans (Wk.nilC 4 0 0 rfl rfl rfl rfl rfl) (Wk.trans (Wk.frz 1 [0] rfl rfl rfl (by (repeat' first | exact trivial | refine And.intro ?_ ?_ | rfl); first | done | fail) (by (repeat' first | exact trivial | refine And.intro ?_ ?_ | rfl); first | done | fail) rfl rfl) (Wk.frb 0 [0] rfl rfl rfl rfl (by (repeat' first | exact trivial | refine And.intro ?_ ?_ | rfl); first | done | fail) (by (repeat' first | exact trivial | refine And.intro ?_ ?_ | rfl); first | done | fail) rfl rfl))) (WkR.of [] (by (repeat' first | exact trivial | refine And.intro ?_ ?_ | rfl); first | done | fail) (by (repeat' first | exact trivial | refine And.intro ?_ ?_ | rfl); first | done | fail) rfl)) rfl rfl ⟨?_, rfl⟩
  rfl
theorem up_ok : ACalls prog 6 0 [] [] fun r h => r = B true ∧ h = [] := by
  have h1 := put_ok [] (by simp) (by decide) (fun s h => by cases h) (fun s h => by cases h)
  rw [show putL [] = [0] by decide] at h1
  have h2 := get_no [] (by simp) (by rfl)
  refine fnC lay_ok func6 rfl rfl rfl rfl rfl ?_
  repeat' first | refine wr (by omega) ?_ | refine ln ?_ | refine stp lay_ok rfl ?_ | refine fin ?_ | refine n_thn ?_ | refine n_blk ?_ | refine e_thn ?_ | refine e_hit ?_ | refine e_miss rfl ?_ | refine r_thn ?_ | refine r_blk ?_ | refine e_rr ?_ | refine r_rr ?_ | refine e_cr ?_ | refine r_cr ?_ | refine .seq ?_ | refine reg ?_ | refine .block ?_ | refine .skip ?_ | refine .ret ?_ | refine .exit ?_ | refine cndT rfl ?_ | refine cndF rfl ?_ | refine c_dec rfl (fun hc => ?_) (fun hc => ?_) | refine c_ndec rfl (fun hc => ?_) (fun hc => ?_) | refine cnd rfl (fun hc => ?_) (fun hc => ?_) | ((first | refine o_none rfl ?_ | refine o_none_ ?_ | refine o_yes rfl rfl rfl ?_ | refine o_yes_ rfl rfl ?_); first | refine st_pure (newF_ok) b19 rfl rfl rfl rfl ?_ | refine st_pure (h1) b14 rfl rfl rfl rfl ?_ | refine st_pure (put_nil) b14 rfl rfl rfl rfl ?_ | refine st_pureL (h2) b7 rfl (by (repeat' first | exact AVLeL.nil | refine AVLeL.cons ?_ ?_ | exact AVLe.refl _ | refine AVLe.st ?_ | exact SLe.refl _ | exact SLe.nil _ | exact SLe.sl0 _ | refine SLe.agg ?_ | refine SLe.sl ?_ | refine SLe.iface ?_ | exact SLeL.nil | refine SLeL.cons ?_ ?_ | exact RLe.nil' | refine RLe.cons' rfl ?_ ?_); first | done | fail) rfl rfl rfl ?_ | refine st_strOf (b := [0]) lay_ok rfl rfl rfl rfl rfl rfl rfl ?_) | refine gd rfl rfl rfl (fun hg => ?_) (fun hg => ?_) | refine gn rfl rfl rfl (fun hg => ?_) (fun hg => ?_)
  refine f_r [] rfl trivial rfl ⟨?_, rfl⟩
  rfl
end Go.Proofs.YtgjoloaajocafaaDoorFn
namespace Go.Proofs.YtgjoloaajocafaaDoorFn
open Go.Proofs.YtgjoloaajocafaaDoorAl Go.Proofs.Tryd
attribute [local irreducible] IntKind.wrap CodeOk OpsL OpG ACalls thn inBlk rndR cutR WkR Wk fnR DW ExtOk partsOf
theorem b31 : HasBody prog 31 := ⟨f31, func31, Option.some_ne_none _, by decide⟩
theorem b36 : HasBody prog 36 := ⟨f36, func36, Option.some_ne_none _, by decide⟩
theorem rem128 (n : Nat) : divI .rem .u64 (n : Int) 128 = some (.int .u64 ((n % 128 : Nat) : Int)) := by
  simp only [divI]
  have : (n : Int).tmod 128 = ((n % 128 : Nat) : Int) := by rw [Int.tmod_eq_emod_of_nonneg (by omega)]; rfl
  rw [this]
theorem quo128 (n : Nat) (h : n < 2 ^ 64) : divI .quo .u64 (n : Int) 128 = some (.int .u64 ((n / 128 : Nat) : Int)) := by
  simp only [divI]
  have : (n : Int).tdiv 128 = ((n / 128 : Nat) : Int) := by rw [Int.tdiv_eq_ediv_of_nonneg (by omega)]; rfl
  rw [this, u64wrap _ (by omega)]
theorem val128 (n : Nat) : IntKind.u8.wrap (IntKind.u64.wrap (((n % 128 : Nat) : Int) + 128)) = ((UInt8.ofNat (n % 128 + 128)).toNat : Int) := by
  have e : ((n % 128 : Nat) : Int) + 128 = ((n % 128 + 128 : Nat) : Int) := by omega
  rw [e, u64wrap _ (by omega), u8wrap]
theorem refNum_ok (n0 : Nat) (hn : n0 < 2 ^ 64) : ACalls prog 31 0 [U n0] [] fun r h => r = Bs (numL n0) ∧ h = [] := by
  refine fnC lay_ok func31 rfl rfl rfl rfl rfl ?_
  repeat' first | refine wr (by omega) ?_ | refine ln ?_ | refine stp lay_ok rfl ?_ | refine fin ?_ | refine n_thn ?_ | refine n_blk ?_ | refine e_thn ?_ | refine e_hit ?_ | refine e_miss rfl ?_ | refine r_thn ?_ | refine r_blk ?_ | refine e_rr ?_ | refine r_rr ?_ | refine e_cr ?_ | refine r_cr ?_ | refine .seq ?_ | refine reg ?_ | refine .block ?_ | refine .skip ?_ | refine .ret ?_ | refine .exit ?_ | refine cndT rfl ?_ | refine cndF rfl ?_ | refine c_dec rfl (fun hc => ?_) (fun hc => ?_) | refine c_ndec rfl (fun hc => ?_) (fun hc => ?_) | refine cnd rfl (fun hc => ?_) (fun hc => ?_) | refine gd rfl rfl rfl (fun hg => ?_) (fun hg => ?_) | refine gn rfl rfl rfl (fun hg => ?_) (fun hg => ?_)
  refine CodeOk.wk (Wk.nilT 1 3 rfl rfl) (Nat.le_succ _) ?_
  refine nrm rfl rfl ?_
  refine lpR (fun (out, n, f) => numL n0 = out ++ numF (f + 1) n ∧ n < 128 ^ (f + 1) ∧ f ≤ 9 ∧ n < 2 ^ 64 ∧ out.length + f = 9) (fun (out, n, f) => f) (fun (out, n, f) => [(0, U n), (3, .lsl 1 1 0 (out.map rowB).length)]) (fun (out, n, f) => [(1, .arr 1 (out.map rowB))]) (([], n0, 9)) [] [] [0] rfl rfl rfl (.of [0] (by (repeat' first | exact trivial | refine And.intro ?_ ?_ | rfl); first | done | fail) (by (repeat' first | exact trivial | refine And.intro ?_ ?_ | rfl); first | done | fail) rfl) ?_ ?_
  · refine ⟨rfl, ?_, Nat.le_refl _, hn, rfl⟩
    omega
  rintro ⟨out, n, f⟩ ⟨h1, h2, h3, h4, h5⟩
  refine nrm rfl rfl ?_
  have hm : (List.map rowB out).length = out.length := List.length_map _
  by_cases hge : 128 ≤ n
  · have hf : f ≠ 0 := by rintro rfl; omega
    obtain ⟨f', rfl⟩ : ∃ f', f = f' + 1 := ⟨f - 1, by omega⟩
    have hrem := rem128 n
    have hquo := quo128 n h4
    have hr : ∀ x : UInt8, List.map rowB out ++ [[SV.int .u8 (x.toNat : Int)]] = List.map rowB (out ++ [x]) := fun x => by rw [List.map_append]; rfl
    repeat' first | refine wr (by omega) ?_ | refine ln ?_ | refine stp lay_ok rfl ?_ | refine fin ?_ | refine n_thn ?_ | refine n_blk ?_ | refine e_thn ?_ | refine e_hit ?_ | refine e_miss rfl ?_ | refine r_thn ?_ | refine r_blk ?_ | refine e_rr ?_ | refine r_rr ?_ | refine e_cr ?_ | refine r_cr ?_ | refine .seq ?_ | refine reg ?_ | refine .block ?_ | refine .skip ?_ | refine .ret ?_ | refine .exit ?_ | refine cndT rfl ?_ | refine cndF rfl ?_ | refine c_dec rfl (fun hc => ?_) (fun hc => ?_) | refine c_ndec rfl (fun hc => ?_) (fun hc => ?_) | refine cnd rfl (fun hc => ?_) (fun hc => ?_) | ((first | refine o_none rfl ?_ | refine o_none_ ?_ | refine o_yes rfl rfl rfl ?_ | refine o_yes_ rfl rfl ?_); first | refine st_div rfl rfl hrem (by decide) ?_ | refine st_div rfl rfl hquo (by decide) ?_) | refine gd rfl rfl rfl (fun hg => ?_) (fun hg => ?_) | refine gn rfl rfl rfl (fun hg => ?_) (fun hg => ?_)
    · rw [val128]
      repeat' first | refine wr (by omega) ?_ | refine ln ?_ | refine stp lay_ok rfl ?_ | refine fin ?_ | refine n_thn ?_ | refine n_blk ?_ | refine e_thn ?_ | refine e_hit ?_ | refine e_miss rfl ?_ | refine r_thn ?_ | refine r_blk ?_ | refine e_rr ?_ | refine r_rr ?_ | refine e_cr ?_ | refine r_cr ?_ | refine .seq ?_ | refine reg ?_ | refine .block ?_ | refine .skip ?_ | refine .ret ?_ | refine .exit ?_ | refine cndT rfl ?_ | refine cndF rfl ?_ | refine c_dec rfl (fun hc => ?_) (fun hc => ?_) | refine c_ndec rfl (fun hc => ?_) (fun hc => ?_) | refine cnd rfl (fun hc => ?_) (fun hc => ?_) | ((first | refine o_none rfl ?_ | refine o_none_ ?_ | refine o_yes rfl rfl rfl ?_ | refine o_yes_ rfl rfl ?_); first | refine st_div rfl rfl hquo (by decide) ?_ | refine st_append lay_ok rfl rfl rfl rfl rfl rfl rfl rfl (.lsl rfl rfl) .sl rfl (rowB_one (b := [UInt8.ofNat (n % 128 + 128)])) (by simp only [List.length_cons, List.length_nil]; omega) (by simp only [List.length_cons, List.length_nil]; omega) ?_) | refine gd rfl rfl rfl (fun hg => ?_) (fun hg => ?_) | refine gn rfl rfl rfl (fun hg => ?_) (fun hg => ?_)
      rw [hr]
      refine n_rr ((out ++ [UInt8.ofNat (n % 128 + 128)], n / 128, f')) ?_ (.of [2] (by (repeat' first | exact trivial | refine And.intro ?_ ?_ | rfl); first | done | fail) (by (repeat' first | exact trivial | refine And.intro ?_ ?_ | rfl); first | done | fail) rfl) ?_
      · exact Nat.lt_succ_self _
      · refine ⟨?_, ?_, by omega, by omega, ?_⟩
        · rw [h1, numF, if_pos hge, List.append_assoc]; rfl
        · rw [Nat.pow_succ] at h2; omega
        · simp; omega
    · exfalso; omega
  · have hend : numL n0 = out ++ [UInt8.ofNat n] := by rw [h1, numF, if_neg hge]
    have hr : List.map rowB out ++ [[SV.int .u8 (IntKind.u8.wrap (n : Int))]] = List.map rowB (numL n0) := by rw [hend, List.map_append, u8wrap]; rfl
    repeat' first | refine wr (by omega) ?_ | refine ln ?_ | refine stp lay_ok rfl ?_ | refine fin ?_ | refine n_thn ?_ | refine n_blk ?_ | refine e_thn ?_ | refine e_hit ?_ | refine e_miss rfl ?_ | refine r_thn ?_ | refine r_blk ?_ | refine e_rr ?_ | refine r_rr ?_ | refine e_cr ?_ | refine r_cr ?_ | refine .seq ?_ | refine reg ?_ | refine .block ?_ | refine .skip ?_ | refine .ret ?_ | refine .exit ?_ | refine cndT rfl ?_ | refine cndF rfl ?_ | refine c_dec rfl (fun hc => ?_) (fun hc => ?_) | refine c_ndec rfl (fun hc => ?_) (fun hc => ?_) | refine cnd rfl (fun hc => ?_) (fun hc => ?_) | ((first | refine o_none rfl ?_ | refine o_none_ ?_ | refine o_yes rfl rfl rfl ?_ | refine o_yes_ rfl rfl ?_); first | refine st_append lay_ok rfl rfl rfl rfl rfl rfl rfl rfl (.lsl rfl rfl) .sl rfl (rowW_one n) (by simp only [List.length_cons, List.length_nil]; omega) (by simp only [List.length_cons, List.length_nil]; omega) ?_) | refine gd rfl rfl rfl (fun hg => ?_) (fun hg => ?_) | refine gn rfl rfl rfl (fun hg => ?_) (fun hg => ?_)
    · exfalso; omega
    · rw [hr]
      refine f_end (n0 := 0) (t'' := [(2, Bs (numL n0))]) (h'' := []) (Wk.then (Wk.frz 2 [2] rfl rfl rfl (by (repeat' first | exact trivial | refine And.intro ?_ ?_ | rfl); first | done | fail) (by (repeat' first | exact trivial | refine And.intro ?_ ?_ | rfl); first | done | fail) rfl rfl) (WkR.of [] (by (repeat' first | exact trivial | refine And.intro ?_ ?_ | rfl); first | done | fail) (by (repeat' first | exact trivial | refine And.intro ?_ ?_ | rfl); first | done | fail) rfl)) rfl rfl ⟨?_, rfl⟩
      rfl
end Go.Proofs.YtgjoloaajocafaaDoorFn
namespace Go.Proofs.YtgjoloaajocafaaDoorFn
open Go.Proofs.YtgjoloaajocafaaDoorAl Go.Proofs.Tryd
attribute [local irreducible] IntKind.wrap CodeOk OpsL OpG ACalls thn inBlk rndR cutR WkR Wk fnR DW ExtOk partsOf
/-- How many bytes that go on stand ahead. -/
def leadF : Nat → List UInt8 → Nat
  | 0, _ => 0
  | _ + 1, [] => 0
  | f + 1, x :: r => if 127 < x.toNat then leadF f r + 1 else 0
/-- A number's value by its bytes, the last one first, in 64 bits. -/
def valF : List UInt8 → Nat
  | [] => 0
  | x :: r => (valF r * 128 + x.toNat % 128) % 2 ^ 64
def refG (l : List UInt8) : Nat × Nat :=
  if l.length ≤ leadF 10 l ∨ 10 ≤ leadF 10 l then (0, 0)
  else if numL (valF (l.take (leadF 10 l + 1))) = l.take (leadF 10 l + 1) then (valF (l.take (leadF 10 l + 1)), leadF 10 l + 1) else (0, 0)
theorem valF_lt (l : List UInt8) : valF l < 2 ^ 64 := by
  cases l with
  | nil => decide
  | cons x r => rw [valF]; exact Nat.mod_lt _ (by decide)
theorem rem8 (x : UInt8) : divI .rem .u8 (x.toNat : Int) 128 = some (.int .u8 ((x.toNat % 128 : Nat) : Int)) := by
  simp only [divI]
  have : (x.toNat : Int).tmod 128 = ((x.toNat % 128 : Nat) : Int) := by rw [Int.tmod_eq_emod_of_nonneg (by omega)]; rfl
  rw [this]
theorem valstep (u y : Nat) (hy : y < 2 ^ 64) : IntKind.u64.wrap (IntKind.u64.wrap ((u : Int) * 128) + IntKind.u64.wrap (y : Int)) = (((u * 128 + y) % 2 ^ 64 : Nat) : Int) := by
  rw [u64wrap y hy]
  simp only [IntKind.wrap, IntKind.signed, IntKind.bits]
  simp
theorem strOf_inj {a b : List UInt8} (h : strOf a = strOf b) : a = b := by
  have := congrArg (fun s : ByteArray => s.data.toList) h
  simpa [strOf] using this
set_option maxHeartbeats 2000000 in
theorem refGet_ok (b : List UInt8) (p : Nat) (hb : b.length ≤ 4000000000) (hp : p ≤ b.length) : ACalls prog 36 0 [Bs b, I p] [] fun r h => r = .tuple [U (refG (b.drop p)).1, I (refG (b.drop p)).2] ∧ h = [] := by
  refine fnC lay_ok func36 rfl rfl rfl rfl rfl ?_
  have hlm : (List.map rowB b).length = b.length := List.length_map _
  generalize hl : b.drop p = l
  have hll : l.length + p = b.length := by rw [← hl, List.length_drop]; omega
  repeat' first | refine wr (by omega) ?_ | refine ln ?_ | refine stp lay_ok rfl ?_ | refine fin ?_ | refine n_thn ?_ | refine n_blk ?_ | refine e_thn ?_ | refine e_hit ?_ | refine e_miss rfl ?_ | refine r_thn ?_ | refine r_blk ?_ | refine e_rr ?_ | refine r_rr ?_ | refine e_cr ?_ | refine r_cr ?_ | refine .seq ?_ | refine reg ?_ | refine .block ?_ | refine .skip ?_ | refine .ret ?_ | refine .exit ?_ | refine cndT rfl ?_ | refine cndF rfl ?_ | refine c_dec rfl (fun hc => ?_) (fun hc => ?_) | refine c_ndec rfl (fun hc => ?_) (fun hc => ?_) | refine cnd rfl (fun hc => ?_) (fun hc => ?_) | refine gd rfl rfl rfl (fun hg => ?_) (fun hg => ?_) | refine gn rfl rfl rfl (fun hg => ?_) (fun hg => ?_) | refine dwr (by omega) ?_ | refine dwl ?_ | refine dws lay_ok rfl rfl rfl rfl rfl rfl rfl ?_ | refine dwu lay_ok rfl rfl rfl rfl rfl rfl rfl rfl rfl ?_ | refine dw_end ?_ | refine dw_skip rfl rfl rfl ?_ | refine dwn lay_ok rfl rfl rfl rfl rfl ?_ | refine dw_dec rfl rfl rfl (fun hg => ?_) (fun hg => ?_) | refine dw_ndec rfl rfl rfl (fun hg => ?_) (fun hg => ?_)
  refine lpR (fun n => n ≤ 10 ∧ n ≤ l.length ∧ leadF 10 l = n + leadF (10 - n) (l.drop n)) (fun n => 10 - n) (fun n => [(6, I n)]) (fun n => []) (0) [0, 1] [] [] rfl rfl rfl (.of [] (by (repeat' first | exact trivial | refine And.intro ?_ ?_ | rfl); first | done | fail) (by (repeat' first | exact trivial | refine And.intro ?_ ?_ | rfl); first | done | fail) rfl) ?_ ?_
  · exact ⟨by omega, by omega, by simp⟩
  rintro n ⟨h1, h2, h3⟩
  refine nrm rfl rfl ?_
  by_cases hn : n < l.length ∧ n < 10
  · have hat : (b.map rowB)[((p : Int) + (n : Int)).toNat]? = some (rowB l[n]) := by
      have e : ((p : Int) + (n : Int)).toNat = p + n := by omega
      have e2 : b[p + n]? = some l[n] := by
        rw [← List.getElem?_eq_getElem hn.1, ← hl, List.getElem?_drop]
      rw [e, List.getElem?_map, e2]; rfl
    have hd : l.drop n = l[n] :: l.drop (n + 1) := List.drop_eq_getElem_cons hn.1
    rw [hd, show 10 - n = (10 - (n + 1)) + 1 by omega, leadF] at h3
    generalize l[n] = x at *
    by_cases hx : 127 < x.toNat
    · rw [if_pos hx] at h3
      repeat' first | refine wr (by omega) ?_ | refine ln ?_ | refine stp lay_ok rfl ?_ | refine fin ?_ | refine n_thn ?_ | refine n_blk ?_ | refine e_thn ?_ | refine e_hit ?_ | refine e_miss rfl ?_ | refine r_thn ?_ | refine r_blk ?_ | refine e_rr ?_ | refine r_rr ?_ | refine e_cr ?_ | refine r_cr ?_ | refine .seq ?_ | refine reg ?_ | refine .block ?_ | refine .skip ?_ | refine .ret ?_ | refine .exit ?_ | refine cndT rfl ?_ | refine cndF rfl ?_ | refine c_dec rfl (fun hc => ?_) (fun hc => ?_) | refine c_ndec rfl (fun hc => ?_) (fun hc => ?_) | refine cnd rfl (fun hc => ?_) (fun hc => ?_) | ((first | refine o_none rfl ?_ | refine o_none_ ?_ | refine o_yes rfl rfl rfl ?_ | refine o_yes_ rfl rfl ?_); first | refine st_index (rowB x) lay_ok rfl rfl rfl rfl (by omega) hat ?_) | refine gd rfl rfl rfl (fun hg => ?_) (fun hg => ?_) | refine gn rfl rfl rfl (fun hg => ?_) (fun hg => ?_) | refine dwr (by omega) ?_ | refine dwl ?_ | refine dws lay_ok rfl rfl rfl rfl rfl rfl rfl ?_ | refine dwu lay_ok rfl rfl rfl rfl rfl rfl rfl rfl rfl ?_ | refine dw_end ?_ | refine dw_skip rfl rfl rfl ?_ | refine dwn lay_ok rfl rfl rfl rfl rfl ?_ | refine dwb rfl rfl rfl rfl rfl (by (first | refine st_index (rowB x) lay_ok rfl rfl rfl rfl (by omega) hat ?_); exact fin rfl) rfl rfl ?_ | refine dwg rfl rfl rfl rfl rfl (by (first | refine st_index (rowB x) lay_ok rfl rfl rfl rfl (by omega) hat ?_); exact fin rfl) rfl rfl rfl rfl rfl ?_ | refine dw_dec rfl rfl rfl (fun hg => ?_) (fun hg => ?_) | refine dw_ndec rfl rfl rfl (fun hg => ?_) (fun hg => ?_)
      all_goals first
        | (exfalso; omega)
        | (refine n_rr (n + 1) ?_ (.of [] (by (repeat' first | exact trivial | refine And.intro ?_ ?_ | rfl); first | done | fail) (by (repeat' first | exact trivial | refine And.intro ?_ ?_ | rfl); first | done | fail) rfl) ?_
           · show 10 - (n + 1) < 10 - n; omega
           · exact ⟨by omega, by omega, by omega⟩)
    · rw [if_neg hx] at h3
      have hc0 : leadF 10 l = n := by omega
      have hN := refNum_ok
      repeat' first | refine wr (by omega) ?_ | refine ln ?_ | refine stp lay_ok rfl ?_ | refine fin ?_ | refine n_thn ?_ | refine n_blk ?_ | refine e_thn ?_ | refine e_hit ?_ | refine e_miss rfl ?_ | refine r_thn ?_ | refine r_blk ?_ | refine e_rr ?_ | refine r_rr ?_ | refine e_cr ?_ | refine r_cr ?_ | refine .seq ?_ | refine reg ?_ | refine .block ?_ | refine .skip ?_ | refine .ret ?_ | refine .exit ?_ | refine cndT rfl ?_ | refine cndF rfl ?_ | refine c_dec rfl (fun hc => ?_) (fun hc => ?_) | refine c_ndec rfl (fun hc => ?_) (fun hc => ?_) | refine cnd rfl (fun hc => ?_) (fun hc => ?_) | ((first | refine o_none rfl ?_ | refine o_none_ ?_ | refine o_yes rfl rfl rfl ?_ | refine o_yes_ rfl rfl ?_); first | refine st_index (rowB x) lay_ok rfl rfl rfl rfl (by omega) hat ?_) | refine gd rfl rfl rfl (fun hg => ?_) (fun hg => ?_) | refine gn rfl rfl rfl (fun hg => ?_) (fun hg => ?_) | refine dwr (by omega) ?_ | refine dwl ?_ | refine dws lay_ok rfl rfl rfl rfl rfl rfl rfl ?_ | refine dwu lay_ok rfl rfl rfl rfl rfl rfl rfl rfl rfl ?_ | refine dw_end ?_ | refine dw_skip rfl rfl rfl ?_ | refine dwn lay_ok rfl rfl rfl rfl rfl ?_ | refine dwb rfl rfl rfl rfl rfl (by (first | refine st_index (rowB x) lay_ok rfl rfl rfl rfl (by omega) hat ?_); exact fin rfl) rfl rfl ?_ | refine dwg rfl rfl rfl rfl rfl (by (first | refine st_index (rowB x) lay_ok rfl rfl rfl rfl (by omega) hat ?_); exact fin rfl) rfl rfl rfl rfl rfl ?_ | refine dw_dec rfl rfl rfl (fun hg => ?_) (fun hg => ?_) | refine dw_ndec rfl rfl rfl (fun hg => ?_) (fun hg => ?_)
      all_goals first
        | (exfalso; omega)
        | skip
      refine lpR (fun (m, z, u) => m ≤ n + 1 ∧ z = (m : Int) - 1 ∧ u = valF ((l.take (n + 1)).drop m)) (fun (m, z, u) => m) (fun (m, z, u) => [(8, .st (.int .i64 z)), (7, U u)]) (fun (m, z, u) => []) ((n + 1, (n : Int), 0)) [0, 1, 6] [] [] rfl rfl rfl (.of [] (by (repeat' first | exact trivial | refine And.intro ?_ ?_ | rfl); first | done | fail) (by (repeat' first | exact trivial | refine And.intro ?_ ?_ | rfl); first | done | fail) rfl) ?_ ?_
      · exact ⟨Nat.le_refl _, by omega, by rw [List.drop_eq_nil_of_le (by rw [List.length_take]; omega)]; rfl⟩
      rintro ⟨m, z, u⟩ ⟨hm, hz, hu⟩
      refine nrm rfl rfl ?_
      have hult : u < 2 ^ 64 := by rw [hu]; exact valF_lt _
      by_cases hm0 : m = 0
      · subst hm0
        have hN := refNum_ok u hult
        have hu' : u = valF (l.take (n + 1)) := by rw [hu, List.drop_zero]
        have hsl : ((List.map rowB b).drop p).take (p + n + 1 - p) = (l.take (n + 1)).map rowB := by
          rw [← List.map_drop, hl, ← List.map_take, show p + n + 1 - p = n + 1 by omega]
        repeat' first | refine wr (by omega) ?_ | refine ln ?_ | refine stp lay_ok rfl ?_ | refine fin ?_ | refine n_thn ?_ | refine n_blk ?_ | refine e_thn ?_ | refine e_hit ?_ | refine e_miss rfl ?_ | refine r_thn ?_ | refine r_blk ?_ | refine e_rr ?_ | refine r_rr ?_ | refine e_cr ?_ | refine r_cr ?_ | refine .seq ?_ | refine reg ?_ | refine .block ?_ | refine .skip ?_ | refine .ret ?_ | refine .exit ?_ | refine cndT rfl ?_ | refine cndF rfl ?_ | refine c_dec rfl (fun hc => ?_) (fun hc => ?_) | refine c_ndec rfl (fun hc => ?_) (fun hc => ?_) | refine cnd rfl (fun hc => ?_) (fun hc => ?_) | refine gd rfl rfl rfl (fun hg => ?_) (fun hg => ?_) | refine gn rfl rfl rfl (fun hg => ?_) (fun hg => ?_) | refine dwr (by omega) ?_ | refine dwl ?_ | refine dws lay_ok rfl rfl rfl rfl rfl rfl rfl ?_ | refine dwu lay_ok rfl rfl rfl rfl rfl rfl rfl rfl rfl ?_ | refine dw_end ?_ | refine dw_skip rfl rfl rfl ?_ | refine dwn lay_ok rfl rfl rfl rfl rfl ?_ | refine dw_dec rfl rfl rfl (fun hg => ?_) (fun hg => ?_) | refine dw_ndec rfl rfl rfl (fun hg => ?_) (fun hg => ?_)
        · exfalso; omega
        · refine dreg [(0, [], [59, 60, 61, 62, 63, 64, 65, 66]), (1, [0], [59, 60, 61, 62, 63, 64, 65, 66]), (2, [0, 1], [59, 60, 61, 62, 63, 64, 65, 66]), (3, [], [56, 57, 58, 60, 61, 62, 63, 64]), (4, [], [56, 57, 58, 59, 61, 62, 63, 64]), (5, [], [56, 57, 58, 59, 60, 62]), (6, [], [56, 57, 58, 59, 60, 61]), (7, [5, 6], [56, 57, 58, 59, 60]), (8, [5, 6, 7], [56, 57, 58, 59, 60]), (9, [3, 4, 5, 6, 7, 8], [56, 57, 58]), (10, [3, 4, 5, 6, 7, 8, 9], [56, 57, 58]), (11, [0, 1, 2, 3, 4, 5, 6, 7, 8, 9, 10], [])] mixed (by kernel_rfl) ?_
          repeat' first | refine wr (by omega) ?_ | refine ln ?_ | refine stp lay_ok rfl ?_ | refine fin ?_ | refine n_thn ?_ | refine n_blk ?_ | refine e_thn ?_ | refine e_hit ?_ | refine e_miss rfl ?_ | refine r_thn ?_ | refine r_blk ?_ | refine e_rr ?_ | refine r_rr ?_ | refine e_cr ?_ | refine r_cr ?_ | refine .seq ?_ | refine reg ?_ | refine .block ?_ | refine .skip ?_ | refine .ret ?_ | refine .exit ?_ | refine cndT rfl ?_ | refine cndF rfl ?_ | refine c_dec rfl (fun hc => ?_) (fun hc => ?_) | refine c_ndec rfl (fun hc => ?_) (fun hc => ?_) | refine cnd rfl (fun hc => ?_) (fun hc => ?_) | ((first | refine o_none rfl ?_ | refine o_none_ ?_ | refine o_yes rfl rfl rfl ?_ | refine o_yes_ rfl rfl ?_); first | refine st_pure (hN) b31 rfl rfl rfl rfl ?_ | refine st_subL p (p + n + 1) lay_ok rfl rfl rfl ⟨_, _, rfl, rfl⟩ ⟨_, _, rfl, (show (p : Int) + (n : Int) + 1 = ((p + n + 1 : Nat) : Int) by omega)⟩ (by omega) (by omega) ?_ | refine st_strOfE hsl lay_ok rfl rfl rfl rfl rfl rfl rfl ?_ | refine st_strOf lay_ok rfl rfl rfl rfl rfl rfl rfl ?_) | refine gd rfl rfl rfl (fun hg => ?_) (fun hg => ?_) | refine gn rfl rfl rfl (fun hg => ?_) (fun hg => ?_) | refine dwr (by omega) ?_ | refine dwl ?_ | refine dws lay_ok rfl rfl rfl rfl rfl rfl rfl ?_ | refine dwu lay_ok rfl rfl rfl rfl rfl rfl rfl rfl rfl ?_ | refine dw_end ?_ | refine dw_skip rfl rfl rfl ?_ | refine dwn lay_ok rfl rfl rfl rfl rfl ?_ | refine dwb rfl rfl rfl rfl rfl (by (first | refine st_pure (hN) b31 rfl rfl rfl rfl ?_ | refine st_subL p (p + n + 1) lay_ok rfl rfl rfl ⟨_, _, rfl, rfl⟩ ⟨_, _, rfl, (show (p : Int) + (n : Int) + 1 = ((p + n + 1 : Nat) : Int) by omega)⟩ (by omega) (by omega) ?_ | refine st_strOfE hsl lay_ok rfl rfl rfl rfl rfl rfl rfl ?_ | refine st_strOf lay_ok rfl rfl rfl rfl rfl rfl rfl ?_); exact fin rfl) rfl rfl ?_ | refine dwg rfl rfl rfl rfl rfl (by (first | refine st_pure (hN) b31 rfl rfl rfl rfl ?_ | refine st_subL p (p + n + 1) lay_ok rfl rfl rfl ⟨_, _, rfl, rfl⟩ ⟨_, _, rfl, (show (p : Int) + (n : Int) + 1 = ((p + n + 1 : Nat) : Int) by omega)⟩ (by omega) (by omega) ?_ | refine st_strOfE hsl lay_ok rfl rfl rfl rfl rfl rfl rfl ?_ | refine st_strOf lay_ok rfl rfl rfl rfl rfl rfl rfl ?_); exact fin rfl) rfl rfl rfl rfl rfl ?_ | refine dw_dec rfl rfl rfl (fun hg => ?_) (fun hg => ?_) | refine dw_ndec rfl rfl rfl (fun hg => ?_) (fun hg => ?_)
          · have hne : numL u ≠ l.take (n + 1) := fun e => hc (by rw [e])
            have hz : refG l = (0, 0) := by
              rw [refG, hc0, if_neg (by omega), ← hu', if_neg hne]
            rw [hz]
            refine f_r [] rfl trivial rfl ⟨?_, rfl⟩; rfl
          · have he : numL u = l.take (n + 1) := strOf_inj (Decidable.not_not.1 hc)
            have hz : refG l = (u, n + 1) := by
              rw [refG, hc0, if_neg (by omega), ← hu', if_pos he]
            rw [hz]
            refine f_r [] rfl trivial rfl ⟨?_, rfl⟩; rfl
      · obtain ⟨m', rfl⟩ : ∃ m', m = m' + 1 := ⟨m - 1, by omega⟩
        have hm' : m' < l.length := by omega
        have hat2 : (b.map rowB)[((p : Int) + z).toNat]? = some (rowB l[m']) := by
          have e : ((p : Int) + z).toNat = p + m' := by omega
          have e2 : b[p + m']? = some l[m'] := by
            rw [← List.getElem?_eq_getElem hm', ← hl, List.getElem?_drop]
          rw [e, List.getElem?_map, e2]; rfl
        have hvs : valF ((l.take (n + 1)).drop m') = (u * 128 + l[m'].toNat % 128) % 2 ^ 64 := by
          rw [List.drop_eq_getElem_cons (by rw [List.length_take]; omega), valF, ← hu, List.getElem_take]
        generalize l[m'] = y at *
        have hr8 := rem8 y
        have hst := valstep u (y.toNat % 128) (by omega)
        repeat' first | refine wr (by omega) ?_ | refine ln ?_ | refine stp lay_ok rfl ?_ | refine fin ?_ | refine n_thn ?_ | refine n_blk ?_ | refine e_thn ?_ | refine e_hit ?_ | refine e_miss rfl ?_ | refine r_thn ?_ | refine r_blk ?_ | refine e_rr ?_ | refine r_rr ?_ | refine e_cr ?_ | refine r_cr ?_ | refine .seq ?_ | refine reg ?_ | refine .block ?_ | refine .skip ?_ | refine .ret ?_ | refine .exit ?_ | refine cndT rfl ?_ | refine cndF rfl ?_ | refine c_dec rfl (fun hc => ?_) (fun hc => ?_) | refine c_ndec rfl (fun hc => ?_) (fun hc => ?_) | refine cnd rfl (fun hc => ?_) (fun hc => ?_) | ((first | refine o_none rfl ?_ | refine o_none_ ?_ | refine o_yes rfl rfl rfl ?_ | refine o_yes_ rfl rfl ?_); first | refine st_index (rowB y) lay_ok rfl rfl rfl rfl (by omega) hat2 ?_ | refine st_div rfl rfl hr8 (by decide) ?_) | refine gd rfl rfl rfl (fun hg => ?_) (fun hg => ?_) | refine gn rfl rfl rfl (fun hg => ?_) (fun hg => ?_) | refine dwr (by omega) ?_ | refine dwl ?_ | refine dws lay_ok rfl rfl rfl rfl rfl rfl rfl ?_ | refine dwu lay_ok rfl rfl rfl rfl rfl rfl rfl rfl rfl ?_ | refine dw_end ?_ | refine dw_skip rfl rfl rfl ?_ | refine dwn lay_ok rfl rfl rfl rfl rfl ?_ | refine dwb rfl rfl rfl rfl rfl (by (first | refine st_index (rowB y) lay_ok rfl rfl rfl rfl (by omega) hat2 ?_ | refine st_div rfl rfl hr8 (by decide) ?_); exact fin rfl) rfl rfl ?_ | refine dwg rfl rfl rfl rfl rfl (by (first | refine st_index (rowB y) lay_ok rfl rfl rfl rfl (by omega) hat2 ?_ | refine st_div rfl rfl hr8 (by decide) ?_); exact fin rfl) rfl rfl rfl rfl rfl ?_ | refine dw_dec rfl rfl rfl (fun hg => ?_) (fun hg => ?_) | refine dw_ndec rfl rfl rfl (fun hg => ?_) (fun hg => ?_)
        · rw [hst]
          refine n_rr ((m', z - 1, (u * 128 + y.toNat % 128) % 2 ^ 64)) ?_ (.of [] (by (repeat' first | exact trivial | refine And.intro ?_ ?_ | rfl); first | done | fail) (by (repeat' first | exact trivial | refine And.intro ?_ ?_ | rfl); first | done | fail) rfl) ?_
          · exact Nat.lt_succ_self _
          · exact ⟨by omega, by omega, hvs.symm⟩
        all_goals (exfalso; omega)
  · have hz : refG l = (0, 0) := by
      rw [refG, if_pos]
      have : 10 - n = 0 ∨ l.drop n = [] := by
        rcases Nat.lt_or_ge n 10 with h | h
        · exact .inr (List.drop_eq_nil_of_le (by omega))
        · exact .inl (by omega)
      rcases this with h | h
      · rw [h, leadF] at h3; omega
      · have h4 : leadF (10 - n) ([] : List UInt8) = 0 := by cases 10 - n <;> rfl
        rw [h, h4] at h3
        have := List.drop_eq_nil_iff.1 h
        omega
    rw [hz]
    repeat' first | refine wr (by omega) ?_ | refine ln ?_ | refine stp lay_ok rfl ?_ | refine fin ?_ | refine n_thn ?_ | refine n_blk ?_ | refine e_thn ?_ | refine e_hit ?_ | refine e_miss rfl ?_ | refine r_thn ?_ | refine r_blk ?_ | refine e_rr ?_ | refine r_rr ?_ | refine e_cr ?_ | refine r_cr ?_ | refine .seq ?_ | refine reg ?_ | refine .block ?_ | refine .skip ?_ | refine .ret ?_ | refine .exit ?_ | refine cndT rfl ?_ | refine cndF rfl ?_ | refine c_dec rfl (fun hc => ?_) (fun hc => ?_) | refine c_ndec rfl (fun hc => ?_) (fun hc => ?_) | refine cnd rfl (fun hc => ?_) (fun hc => ?_) | refine gd rfl rfl rfl (fun hg => ?_) (fun hg => ?_) | refine gn rfl rfl rfl (fun hg => ?_) (fun hg => ?_) | refine dwr (by omega) ?_ | refine dwl ?_ | refine dws lay_ok rfl rfl rfl rfl rfl rfl rfl ?_ | refine dwu lay_ok rfl rfl rfl rfl rfl rfl rfl rfl rfl ?_ | refine dw_end ?_ | refine dw_skip rfl rfl rfl ?_ | refine dwn lay_ok rfl rfl rfl rfl rfl ?_ | refine dw_dec rfl rfl rfl (fun hg => ?_) (fun hg => ?_) | refine dw_ndec rfl rfl rfl (fun hg => ?_) (fun hg => ?_)
    all_goals first
      | (exfalso; omega)
      | (refine f_r [] rfl trivial rfl ⟨?_, rfl⟩; rfl)
end Go.Proofs.YtgjoloaajocafaaDoorFn
namespace Go.Proofs.YtgjoloaajocafaaDoorFn
open Go.Proofs.YtgjoloaajocafaaDoorAl Go.Proofs.Tryd
/-! ### a number's bytes: read from the front, or checked by writing them again -/
def valN : List UInt8 → Nat
  | [] => 0
  | x :: r => valN r * 128 + x.toNat % 128
theorem valF_eq : ∀ l, valF l = valN l % 2 ^ 64
  | [] => rfl
  | x :: r => by rw [valF, valN, valF_eq r]; omega
/-- Bytes that go on, then one that doesn't. -/
theorem gnF_split : ∀ (cs : List UInt8) (x : UInt8) (r : List UInt8) (i acc : Nat), (∀ y ∈ cs, 128 ≤ y.toNat) → x.toNat < 128 →
    gnF (cs ++ x :: r) i acc = if 10 ≤ i + cs.length ∨ (x.toNat = 0 ∧ 0 < i + cs.length) ∨ (1 < x.toNat ∧ i + cs.length = 9) then none else some (acc + valN (cs ++ [x]) * 2 ^ (7 * i), i + cs.length + 1)
  | [], x, r, i, acc, _, hx => by
    simp only [List.nil_append, List.length_nil, Nat.add_zero, gnF]
    rw [if_neg (show ¬ 128 ≤ x.toNat by omega)]
    have : valN [x] = x.toNat % 128 := by simp [valN]
    rw [this]
  | y :: cs, x, r, i, acc, hc, hx => by
    have hy := hc y (by simp)
    have ih := gnF_split cs x r (i + 1) (acc + y.toNat % 128 * 2 ^ (7 * i)) (fun z hz => hc z (by simp [hz])) hx
    rw [List.cons_append, gnF]
    by_cases h : 10 ≤ i ∨ y.toNat = 0 ∧ 0 < i ∨ 1 < y.toNat ∧ i = 9
    · rw [if_pos h, if_pos]
      simp only [List.length_cons]; omega
    · rw [if_neg h, if_pos hy, ih]
      have e1 : i + 1 + cs.length = i + (y :: cs).length := by simp only [List.length_cons]; omega
      rw [e1]
      split
      · rfl
      · rw [List.cons_append, valN]
        congr 2
        have e2 : 2 ^ (7 * (i + 1)) = 128 * 2 ^ (7 * i) := by rw [Nat.mul_add, Nat.pow_add]; omega
        rw [e2, Nat.add_mul, Nat.mul_assoc]
        omega
theorem gnF_none : ∀ (l : List UInt8) (i acc : Nat), (∀ y ∈ l, 128 ≤ y.toNat) → gnF l i acc = none
  | [], _, _, _ => rfl
  | y :: r, i, acc, h => by
    rw [gnF, if_pos (h y (by simp)), gnF_none r _ _ (fun z hz => h z (by simp [hz]))]
    split <;> rfl
theorem ofNat_hi (y : UInt8) (h : 128 ≤ y.toNat) : UInt8.ofNat (y.toNat % 128 + 128) = y := by
  have := y.toNat_lt
  apply UInt8.toNat.inj
  rw [UInt8.toNat_ofNat']
  omega
theorem valN_pos : ∀ (cs : List UInt8) (x : UInt8), x.toNat < 128 → x.toNat ≠ 0 → 1 ≤ valN (cs ++ [x])
  | [], x, h1, h2 => by simp only [List.nil_append, valN]; omega
  | y :: cs, x, h1, h2 => by
    have := valN_pos cs x h1 h2
    rw [List.cons_append, valN]; omega
/-- Written again, a number's bytes are as they were. -/
theorem numF_val : ∀ (cs : List UInt8) (x : UInt8) (f : Nat), (∀ y ∈ cs, 128 ≤ y.toNat) → x.toNat < 128 → (cs = [] ∨ x.toNat ≠ 0) → cs.length < f → numF f (valN (cs ++ [x])) = cs ++ [x]
  | [], x, f + 1, _, hx, _, _ => by
    simp only [List.nil_append, valN]
    rw [numF, if_neg (by omega)]
    congr 1
    apply UInt8.toNat.inj
    rw [UInt8.toNat_ofNat']
    have := x.toNat_lt; omega
  | y :: cs, x, f + 1, hc, hx, h0, hf => by
    have hy := hc y (by simp)
    have hx0 : x.toNat ≠ 0 := by rcases h0 with h | h
                                 · cases h
                                 · exact h
    have hp := valN_pos cs x hx hx0
    have ih := numF_val cs x f (fun z hz => hc z (by simp [hz])) hx (.inr hx0) (by simpa using hf)
    rw [List.cons_append, valN, numF, if_pos (by omega)]
    have e1 : (valN (cs ++ [x]) * 128 + y.toNat % 128) % 128 = y.toNat % 128 := by omega
    have e2 : (valN (cs ++ [x]) * 128 + y.toNat % 128) / 128 = valN (cs ++ [x]) := by omega
    rw [e1, e2, ih, ofNat_hi y hy]
/-- What is written is read as it was. -/
theorem numF_back : ∀ (f u : Nat), u < 128 ^ f → valN (numF f u) = u
  | 0, u, h => by simp at h; subst h; rfl
  | f + 1, u, h => by
    rw [numF]
    split
    · rw [valN, numF_back f (u / 128) (by rw [Nat.pow_succ] at h; omega), UInt8.toNat_ofNat']
      omega
    · rw [valN, valN, UInt8.toNat_ofNat']
      omega
theorem numF_last : ∀ (f u : Nat) (cs : List UInt8) (x : UInt8), u < 128 ^ f → 1 ≤ u → numF f u = cs ++ [x] → x.toNat ≠ 0
  | 0, u, cs, x, h, h1, e => by simp [numF] at e
  | f + 1, u, cs, x, h, h1, e => by
    rw [numF] at e
    split at e
    · cases cs with
      | nil =>
        simp only [List.nil_append, List.cons.injEq] at e
        have := numF_back f (u / 128) (by rw [Nat.pow_succ] at h; omega)
        rw [e.2] at this
        simp only [valN] at this; omega
      | cons y cs =>
        simp only [List.cons_append, List.cons.injEq] at e
        exact numF_last f (u / 128) cs x (by rw [Nat.pow_succ] at h; omega) (by omega) e.2
    · have : cs = [] := by
        have := congrArg List.length e
        simp at this; exact this
      subst this
      simp only [List.nil_append, List.cons.injEq, and_true] at e
      rw [← e, UInt8.toNat_ofNat']; omega
end Go.Proofs.YtgjoloaajocafaaDoorFn
namespace Go.Proofs.YtgjoloaajocafaaDoorFn
open Go.Proofs.YtgjoloaajocafaaDoorAl Go.Proofs.Tryd
theorem lead_split : ∀ (f : Nat) (l : List UInt8), (∀ y ∈ l.take (leadF f l), 128 ≤ y.toNat) ∧ leadF f l ≤ f ∧ leadF f l ≤ l.length ∧ ∀ (h : leadF f l < l.length), leadF f l < f → (l[leadF f l]).toNat < 128
  | 0, l => ⟨by simp [leadF], Nat.le_refl _, Nat.zero_le _, fun _ h => absurd h (by simp [leadF])⟩
  | f + 1, [] => ⟨by simp [leadF], Nat.zero_le _, Nat.le_refl _, fun h => absurd h (by simp [leadF])⟩
  | f + 1, x :: r => by
    obtain ⟨a, b, c, d⟩ := lead_split f r
    by_cases hx : 127 < x.toNat
    · have e : leadF (f + 1) (x :: r) = leadF f r + 1 := by rw [leadF, if_pos hx]
      refine ⟨?_, by omega, by simp only [List.length_cons]; omega, ?_⟩
      · rw [e, List.take_succ_cons]
        intro y hy
        rcases List.mem_cons.1 hy with rfl | hy
        · omega
        · exact a y hy
      · intro h h2
        simp only [e, List.getElem_cons_succ]
        exact d (by simp only [e, List.length_cons] at h; omega) (by omega)
    · have e : leadF (f + 1) (x :: r) = 0 := by rw [leadF, if_neg hx]
      refine ⟨by simp [e], by omega, by omega, ?_⟩
      intro h h2
      simp only [e, List.getElem_cons_zero]; omega
theorem gnF_long : ∀ (l : List UInt8) (i acc : Nat), (∀ y ∈ l.take (10 - i), 128 ≤ y.toNat) → 10 - i ≤ l.length → gnF l i acc = none
  | [], _, _, _, _ => rfl
  | x :: r, i, acc, h, hl => by
    rw [gnF]
    split
    · rfl
    · rename_i hb
      have e : 10 - i = (10 - (i + 1)) + 1 := by omega
      rw [e, List.take_succ_cons] at h
      rw [if_pos (h x (by simp))]
      exact gnF_long r (i + 1) _ (fun y hy => h y (List.mem_cons_of_mem _ hy)) (by simp only [List.length_cons] at hl; omega)
theorem valN_lt : ∀ w, valN w < 128 ^ w.length
  | [] => by simp [valN]
  | x :: r => by
    have := valN_lt r
    rw [valN, List.length_cons, Nat.pow_succ]; omega
theorem valN_app : ∀ (cs : List UInt8) (x : UInt8), x.toNat < 128 → valN (cs ++ [x]) = valN cs + x.toNat * 128 ^ cs.length
  | [], x, h => by simp only [List.nil_append, valN, List.length_nil, Nat.pow_zero]; omega
  | y :: cs, x, h => by
    rw [List.cons_append, valN, valN_app cs x h, valN, List.length_cons, Nat.pow_succ, ← Nat.mul_assoc]
    rw [Nat.add_mul]; omega
theorem refG_eq (l : List UInt8) : refG l = match gnF l 0 0 with
    | some x => x
    | none => (0, 0) := by
  obtain ⟨a, b, c, d⟩ := lead_split 10 l
  by_cases h1 : l.length ≤ leadF 10 l ∨ 10 ≤ leadF 10 l
  · have : gnF l 0 0 = none := by
      rcases h1 with h1 | h1
      · rw [List.take_of_length_le h1] at a
        exact gnF_none l 0 0 a
      · have e : leadF 10 l = 10 := by omega
        rw [e] at a c
        exact gnF_long l 0 0 a c
    rw [this, refG, if_pos h1]
  · rw [refG, if_neg h1]
    have h2 : leadF 10 l < l.length := by omega
    have d := d h2 (by omega)
    have hl : l = l.take (leadF 10 l) ++ l[leadF 10 l] :: l.drop (leadF 10 l + 1) := by
      rw [← List.drop_eq_getElem_cons h2, List.take_append_drop]
    have ht : l.take (leadF 10 l + 1) = l.take (leadF 10 l) ++ [l[leadF 10 l]] := List.take_succ_eq_append_getElem h2
    have hcl : (l.take (leadF 10 l)).length = leadF 10 l := by rw [List.length_take]; omega
    have hg : gnF l 0 0 = gnF (l.take (leadF 10 l) ++ l[leadF 10 l] :: l.drop (leadF 10 l + 1)) 0 0 := congrArg (fun z => gnF z 0 0) hl
    rw [hg, gnF_split _ _ _ _ _ a d, ht]
    have hc10 : leadF 10 l < 10 := by omega
    clear hg hl ht b c h1
    generalize hx : l[leadF 10 l] = x at *
    generalize hcs : l.take (leadF 10 l) = cs at *
    rw [← hcl] at hc10 ⊢
    simp only [Nat.zero_add, Nat.mul_zero, Nat.pow_zero, Nat.mul_one]
    have hva := valN_app cs x d
    have hvl := valN_lt cs
    by_cases hbad : 10 ≤ cs.length ∨ x.toNat = 0 ∧ 0 < cs.length ∨ 1 < x.toNat ∧ cs.length = 9
    · rw [if_pos hbad, if_neg]
      intro e
      have hu : valF (cs ++ [x]) < 2 ^ 64 := valF_lt _
      have hb := numF_back 10 (valF (cs ++ [x])) (Nat.lt_of_lt_of_le hu (by decide))
      have e' : numF 10 (valF (cs ++ [x])) = cs ++ [x] := e
      rw [e'] at hb
      rcases hbad with h | ⟨h, h0⟩ | ⟨h, h9⟩
      · omega
      · by_cases hz : valF (cs ++ [x]) = 0
        · rw [hz] at e'
          have := congrArg List.length e'
          rw [show numF 10 0 = [0] by decide] at this
          simp only [List.length_append, List.length_singleton] at this
          omega
        · exact numF_last 10 _ cs x (Nat.lt_of_lt_of_le hu (by decide)) (by omega) e' h
      · rw [h9] at hva
        have : 2 * 128 ^ 9 ≤ x.toNat * 128 ^ 9 := Nat.mul_le_mul_right _ h
        omega
    · rw [if_neg hbad]
      have hV : valN (cs ++ [x]) < 2 ^ 64 := by
        rcases Nat.lt_or_ge cs.length 9 with h9 | h9
        · have := valN_lt (cs ++ [x])
          have h8 : (cs ++ [x]).length ≤ 9 := by simp; omega
          have := Nat.pow_le_pow_right (n := 128) (by decide) h8
          omega
        · have h9 : cs.length = 9 := by omega
          rw [h9] at hva hvl
          have : x.toNat * 128 ^ 9 ≤ 1 * 128 ^ 9 := Nat.mul_le_mul_right _ (by omega)
          omega
      have hF : valF (cs ++ [x]) = valN (cs ++ [x]) := by rw [valF_eq, Nat.mod_eq_of_lt hV]
      have hn : numL (valN (cs ++ [x])) = cs ++ [x] := numF_val cs x 10 a d (by
        rcases Nat.eq_zero_or_pos cs.length with h | h
        · exact .inl (List.length_eq_zero_iff.1 h)
        · exact .inr (by omega)) hc10
      rw [hF, if_pos hn]
end Go.Proofs.YtgjoloaajocafaaDoorFn
namespace Go.Proofs.YtgjoloaajocafaaDoorFn
open Go.Proofs.YtgjoloaajocafaaDoorAl Go.Proofs.Tryd
attribute [local irreducible] IntKind.wrap CodeOk OpsL OpG ACalls thn inBlk rndR cutR WkR Wk fnR DW ExtOk partsOf
theorem b22 : HasBody prog 22 := ⟨f22, func22, Option.some_ne_none _, by decide⟩
theorem b23 : HasBody prog 23 := ⟨f23, func23, Option.some_ne_none _, by decide⟩
def numM (b : List UInt8) (s : RS) (most : Nat) : Nat × RS := if s.bad then (0, s) else match gnC b s.at_ most with
  | .error _ => (0, ⟨s.at_, true⟩)
  | .ok (n, q) => (n, ⟨q, false⟩)
theorem numM_numR (b : List UInt8) (s : RS) : numM b s 65536 = numR b s := rfl
theorem refRNum_ok (b : List UInt8) (s : RS) (most : Nat) (hb : b.length ≤ 4000000000) (hp : s.at_ ≤ b.length) (hm : most ≤ 65536) :
    ACalls prog 22 1 [.ptr 0 0, U most] [(0, rcell b s)] fun r h => r = I (numM b s most).1 ∧ h = [(0, rcell b (numM b s most).2)] := by
  obtain ⟨p, bad⟩ := s
  have hg := refGet_ok b p hb hp
  rw [refG_eq] at hg
  refine fnC lay_ok func22 rfl rfl rfl rfl rfl ?_
  cases bad with
  | true =>
    repeat' first | refine wr (by omega) ?_ | refine ln ?_ | refine stp lay_ok rfl ?_ | refine fin ?_ | refine n_thn ?_ | refine n_blk ?_ | refine e_thn ?_ | refine e_hit ?_ | refine e_miss rfl ?_ | refine r_thn ?_ | refine r_blk ?_ | refine e_rr ?_ | refine r_rr ?_ | refine e_cr ?_ | refine r_cr ?_ | refine .seq ?_ | refine reg ?_ | refine .block ?_ | refine .skip ?_ | refine .ret ?_ | refine .exit ?_ | refine cndT rfl ?_ | refine cndF rfl ?_ | refine c_dec rfl (fun hc => ?_) (fun hc => ?_) | refine c_ndec rfl (fun hc => ?_) (fun hc => ?_) | refine cnd rfl (fun hc => ?_) (fun hc => ?_) | refine gd rfl rfl rfl (fun hg => ?_) (fun hg => ?_) | refine gn rfl rfl rfl (fun hg => ?_) (fun hg => ?_) | refine dwr (by omega) ?_ | refine dwl ?_ | refine dws lay_ok rfl rfl rfl rfl rfl rfl rfl ?_ | refine dwu lay_ok rfl rfl rfl rfl rfl rfl rfl rfl rfl ?_ | refine dw_end ?_ | refine dw_skip rfl rfl rfl ?_ | refine dwn lay_ok rfl rfl rfl rfl rfl ?_ | refine dw_dec rfl rfl rfl (fun hg => ?_) (fun hg => ?_) | refine dw_ndec rfl rfl rfl (fun hg => ?_) (fun hg => ?_)
    refine f_r [(0, rcell b ⟨p, true⟩)] rfl (by (repeat' first | exact trivial | refine And.intro ?_ ?_ | rfl); first | done | fail) rfl ⟨?_, rfl⟩
    rfl
  | false =>
    cases hc : gnF (b.drop p) 0 0 with
    | none =>
      have hn : numM b ⟨p, false⟩ most = (0, ⟨p, true⟩) := by simp [numM, gnC, hc]
      rw [hc] at hg; simp only at hg
      rw [hn]
      repeat' first | refine wr (by omega) ?_ | refine ln ?_ | refine stp lay_ok rfl ?_ | refine fin ?_ | refine n_thn ?_ | refine n_blk ?_ | refine e_thn ?_ | refine e_hit ?_ | refine e_miss rfl ?_ | refine r_thn ?_ | refine r_blk ?_ | refine e_rr ?_ | refine r_rr ?_ | refine e_cr ?_ | refine r_cr ?_ | refine .seq ?_ | refine reg ?_ | refine .block ?_ | refine .skip ?_ | refine .ret ?_ | refine .exit ?_ | refine cndT rfl ?_ | refine cndF rfl ?_ | refine c_dec rfl (fun hc => ?_) (fun hc => ?_) | refine c_ndec rfl (fun hc => ?_) (fun hc => ?_) | refine cnd rfl (fun hc => ?_) (fun hc => ?_) | refine gd rfl rfl rfl (fun hg => ?_) (fun hg => ?_) | refine gn rfl rfl rfl (fun hg => ?_) (fun hg => ?_) | refine dwr (by omega) ?_ | refine dwl ?_ | refine dws lay_ok rfl rfl rfl rfl rfl rfl rfl ?_ | refine dwu lay_ok rfl rfl rfl rfl rfl rfl rfl rfl rfl ?_ | refine dw_end ?_ | refine dw_skip rfl rfl rfl ?_ | refine dwn lay_ok rfl rfl rfl rfl rfl ?_ | refine dw_dec rfl rfl rfl (fun hg => ?_) (fun hg => ?_) | refine dw_ndec rfl rfl rfl (fun hg => ?_) (fun hg => ?_)
      refine dreg [(0, [], [16, 17, 18, 19]), (1, [0], [16, 17, 18, 19]), (2, [0, 1], [16, 17, 18, 19]), (3, [0, 1, 2], [16, 17, 18, 19]), (4, [], [12, 13, 14, 15]), (5, [4], [12, 13, 14, 15]), (6, [4, 5], [12, 13, 14, 15]), (7, [4, 5, 6], [12, 13, 14, 15]), (8, [0, 1, 2, 3, 4, 5, 6, 7], []), (9, [0, 1, 2, 3, 4, 5, 6, 7, 8], []), (10, [0, 1, 2, 3, 4, 5, 6, 7, 8, 9], [22]), (11, [0, 1, 2, 3, 4, 5, 6, 7, 8, 9], [21, 5]), (12, [0, 1, 2, 3, 4, 5, 6, 7, 8, 9, 10], [22]), (13, [0, 1, 2, 3, 4, 5, 6, 7, 8, 9, 10, 11, 12], [])] mixed (by kernel_rfl) ?_
      repeat' first | refine wr (by omega) ?_ | refine ln ?_ | refine stp lay_ok rfl ?_ | refine fin ?_ | refine n_thn ?_ | refine n_blk ?_ | refine e_thn ?_ | refine e_hit ?_ | refine e_miss rfl ?_ | refine r_thn ?_ | refine r_blk ?_ | refine e_rr ?_ | refine r_rr ?_ | refine e_cr ?_ | refine r_cr ?_ | refine .seq ?_ | refine reg ?_ | refine .block ?_ | refine .skip ?_ | refine .ret ?_ | refine .exit ?_ | refine cndT rfl ?_ | refine cndF rfl ?_ | refine c_dec rfl (fun hc => ?_) (fun hc => ?_) | refine c_ndec rfl (fun hc => ?_) (fun hc => ?_) | refine cnd rfl (fun hc => ?_) (fun hc => ?_) | ((first | refine o_none rfl ?_ | refine o_none_ ?_ | refine o_yes rfl rfl rfl ?_ | refine o_yes_ rfl rfl ?_); first | refine st_pure (hg) b36 rfl rfl rfl rfl ?_) | refine gd rfl rfl rfl (fun hg => ?_) (fun hg => ?_) | refine gn rfl rfl rfl (fun hg => ?_) (fun hg => ?_) | refine dwr (by omega) ?_ | refine dwl ?_ | refine dws lay_ok rfl rfl rfl rfl rfl rfl rfl ?_ | refine dwu lay_ok rfl rfl rfl rfl rfl rfl rfl rfl rfl ?_ | refine dw_end ?_ | refine dw_skip rfl rfl rfl ?_ | refine dwn lay_ok rfl rfl rfl rfl rfl ?_ | refine dwb rfl rfl rfl rfl rfl (by (first | refine st_pure (hg) b36 rfl rfl rfl rfl ?_); exact fin rfl) rfl rfl ?_ | refine dwg rfl rfl rfl rfl rfl (by (first | refine st_pure (hg) b36 rfl rfl rfl rfl ?_); exact fin rfl) rfl rfl rfl rfl rfl ?_ | refine dw_dec rfl rfl rfl (fun hg => ?_) (fun hg => ?_) | refine dw_ndec rfl rfl rfl (fun hg => ?_) (fun hg => ?_)
      refine f_r [(0, rcell b ⟨p, true⟩)] rfl (by (repeat' first | exact trivial | refine And.intro ?_ ?_ | rfl); first | done | fail) rfl ⟨?_, rfl⟩
      rfl
    | some x =>
      obtain ⟨n, k⟩ := x
      have hle := gnF_le _ _ _ hc
      rw [List.length_drop] at hle
      rw [hc] at hg; simp only at hg
      by_cases hx : most < n
      · have hn : numM b ⟨p, false⟩ most = (0, ⟨p, true⟩) := by simp [numM, gnC, hc, hx]
        rw [hn]
        repeat' first | refine wr (by omega) ?_ | refine ln ?_ | refine stp lay_ok rfl ?_ | refine fin ?_ | refine n_thn ?_ | refine n_blk ?_ | refine e_thn ?_ | refine e_hit ?_ | refine e_miss rfl ?_ | refine r_thn ?_ | refine r_blk ?_ | refine e_rr ?_ | refine r_rr ?_ | refine e_cr ?_ | refine r_cr ?_ | refine .seq ?_ | refine reg ?_ | refine .block ?_ | refine .skip ?_ | refine .ret ?_ | refine .exit ?_ | refine cndT rfl ?_ | refine cndF rfl ?_ | refine c_dec rfl (fun hc => ?_) (fun hc => ?_) | refine c_ndec rfl (fun hc => ?_) (fun hc => ?_) | refine cnd rfl (fun hc => ?_) (fun hc => ?_) | refine gd rfl rfl rfl (fun hg => ?_) (fun hg => ?_) | refine gn rfl rfl rfl (fun hg => ?_) (fun hg => ?_) | refine dwr (by omega) ?_ | refine dwl ?_ | refine dws lay_ok rfl rfl rfl rfl rfl rfl rfl ?_ | refine dwu lay_ok rfl rfl rfl rfl rfl rfl rfl rfl rfl ?_ | refine dw_end ?_ | refine dw_skip rfl rfl rfl ?_ | refine dwn lay_ok rfl rfl rfl rfl rfl ?_ | refine dw_dec rfl rfl rfl (fun hg => ?_) (fun hg => ?_) | refine dw_ndec rfl rfl rfl (fun hg => ?_) (fun hg => ?_)
        refine dreg [(0, [], [16, 17, 18, 19]), (1, [0], [16, 17, 18, 19]), (2, [0, 1], [16, 17, 18, 19]), (3, [0, 1, 2], [16, 17, 18, 19]), (4, [], [12, 13, 14, 15]), (5, [4], [12, 13, 14, 15]), (6, [4, 5], [12, 13, 14, 15]), (7, [4, 5, 6], [12, 13, 14, 15]), (8, [0, 1, 2, 3, 4, 5, 6, 7], []), (9, [0, 1, 2, 3, 4, 5, 6, 7, 8], []), (10, [0, 1, 2, 3, 4, 5, 6, 7, 8, 9], [22]), (11, [0, 1, 2, 3, 4, 5, 6, 7, 8, 9], [21, 5]), (12, [0, 1, 2, 3, 4, 5, 6, 7, 8, 9, 10], [22]), (13, [0, 1, 2, 3, 4, 5, 6, 7, 8, 9, 10, 11, 12], [])] mixed (by kernel_rfl) ?_
        repeat' first | refine wr (by omega) ?_ | refine ln ?_ | refine stp lay_ok rfl ?_ | refine fin ?_ | refine n_thn ?_ | refine n_blk ?_ | refine e_thn ?_ | refine e_hit ?_ | refine e_miss rfl ?_ | refine r_thn ?_ | refine r_blk ?_ | refine e_rr ?_ | refine r_rr ?_ | refine e_cr ?_ | refine r_cr ?_ | refine .seq ?_ | refine reg ?_ | refine .block ?_ | refine .skip ?_ | refine .ret ?_ | refine .exit ?_ | refine cndT rfl ?_ | refine cndF rfl ?_ | refine c_dec rfl (fun hc => ?_) (fun hc => ?_) | refine c_ndec rfl (fun hc => ?_) (fun hc => ?_) | refine cnd rfl (fun hc => ?_) (fun hc => ?_) | ((first | refine o_none rfl ?_ | refine o_none_ ?_ | refine o_yes rfl rfl rfl ?_ | refine o_yes_ rfl rfl ?_); first | refine st_pure (hg) b36 rfl rfl rfl rfl ?_) | refine gd rfl rfl rfl (fun hg => ?_) (fun hg => ?_) | refine gn rfl rfl rfl (fun hg => ?_) (fun hg => ?_) | refine dwr (by omega) ?_ | refine dwl ?_ | refine dws lay_ok rfl rfl rfl rfl rfl rfl rfl ?_ | refine dwu lay_ok rfl rfl rfl rfl rfl rfl rfl rfl rfl ?_ | refine dw_end ?_ | refine dw_skip rfl rfl rfl ?_ | refine dwn lay_ok rfl rfl rfl rfl rfl ?_ | refine dwb rfl rfl rfl rfl rfl (by (first | refine st_pure (hg) b36 rfl rfl rfl rfl ?_); exact fin rfl) rfl rfl ?_ | refine dwg rfl rfl rfl rfl rfl (by (first | refine st_pure (hg) b36 rfl rfl rfl rfl ?_); exact fin rfl) rfl rfl rfl rfl rfl ?_ | refine dw_dec rfl rfl rfl (fun hg => ?_) (fun hg => ?_) | refine dw_ndec rfl rfl rfl (fun hg => ?_) (fun hg => ?_)
        all_goals first
          | (exfalso; omega)
          | (refine f_r [(0, rcell b ⟨p, true⟩)] rfl (by (repeat' first | exact trivial | refine And.intro ?_ ?_ | rfl); first | done | fail) rfl ⟨?_, rfl⟩; rfl)
      · have hn : numM b ⟨p, false⟩ most = (n, ⟨p + k, false⟩) := by simp [numM, gnC, hc, hx]
        rw [hn]
        repeat' first | refine wr (by omega) ?_ | refine ln ?_ | refine stp lay_ok rfl ?_ | refine fin ?_ | refine n_thn ?_ | refine n_blk ?_ | refine e_thn ?_ | refine e_hit ?_ | refine e_miss rfl ?_ | refine r_thn ?_ | refine r_blk ?_ | refine e_rr ?_ | refine r_rr ?_ | refine e_cr ?_ | refine r_cr ?_ | refine .seq ?_ | refine reg ?_ | refine .block ?_ | refine .skip ?_ | refine .ret ?_ | refine .exit ?_ | refine cndT rfl ?_ | refine cndF rfl ?_ | refine c_dec rfl (fun hc => ?_) (fun hc => ?_) | refine c_ndec rfl (fun hc => ?_) (fun hc => ?_) | refine cnd rfl (fun hc => ?_) (fun hc => ?_) | refine gd rfl rfl rfl (fun hg => ?_) (fun hg => ?_) | refine gn rfl rfl rfl (fun hg => ?_) (fun hg => ?_) | refine dwr (by omega) ?_ | refine dwl ?_ | refine dws lay_ok rfl rfl rfl rfl rfl rfl rfl ?_ | refine dwu lay_ok rfl rfl rfl rfl rfl rfl rfl rfl rfl ?_ | refine dw_end ?_ | refine dw_skip rfl rfl rfl ?_ | refine dwn lay_ok rfl rfl rfl rfl rfl ?_ | refine dw_dec rfl rfl rfl (fun hg => ?_) (fun hg => ?_) | refine dw_ndec rfl rfl rfl (fun hg => ?_) (fun hg => ?_)
        refine dreg [(0, [], [16, 17, 18, 19]), (1, [0], [16, 17, 18, 19]), (2, [0, 1], [16, 17, 18, 19]), (3, [0, 1, 2], [16, 17, 18, 19]), (4, [], [12, 13, 14, 15]), (5, [4], [12, 13, 14, 15]), (6, [4, 5], [12, 13, 14, 15]), (7, [4, 5, 6], [12, 13, 14, 15]), (8, [0, 1, 2, 3, 4, 5, 6, 7], []), (9, [0, 1, 2, 3, 4, 5, 6, 7, 8], []), (10, [0, 1, 2, 3, 4, 5, 6, 7, 8, 9], [22]), (11, [0, 1, 2, 3, 4, 5, 6, 7, 8, 9], [21, 5]), (12, [0, 1, 2, 3, 4, 5, 6, 7, 8, 9, 10], [22]), (13, [0, 1, 2, 3, 4, 5, 6, 7, 8, 9, 10, 11, 12], [])] mixed (by kernel_rfl) ?_
        repeat' first | refine wr (by omega) ?_ | refine ln ?_ | refine stp lay_ok rfl ?_ | refine fin ?_ | refine n_thn ?_ | refine n_blk ?_ | refine e_thn ?_ | refine e_hit ?_ | refine e_miss rfl ?_ | refine r_thn ?_ | refine r_blk ?_ | refine e_rr ?_ | refine r_rr ?_ | refine e_cr ?_ | refine r_cr ?_ | refine .seq ?_ | refine reg ?_ | refine .block ?_ | refine .skip ?_ | refine .ret ?_ | refine .exit ?_ | refine cndT rfl ?_ | refine cndF rfl ?_ | refine c_dec rfl (fun hc => ?_) (fun hc => ?_) | refine c_ndec rfl (fun hc => ?_) (fun hc => ?_) | refine cnd rfl (fun hc => ?_) (fun hc => ?_) | ((first | refine o_none rfl ?_ | refine o_none_ ?_ | refine o_yes rfl rfl rfl ?_ | refine o_yes_ rfl rfl ?_); first | refine st_pure (hg) b36 rfl rfl rfl rfl ?_) | refine gd rfl rfl rfl (fun hg => ?_) (fun hg => ?_) | refine gn rfl rfl rfl (fun hg => ?_) (fun hg => ?_) | refine dwr (by omega) ?_ | refine dwl ?_ | refine dws lay_ok rfl rfl rfl rfl rfl rfl rfl ?_ | refine dwu lay_ok rfl rfl rfl rfl rfl rfl rfl rfl rfl ?_ | refine dw_end ?_ | refine dw_skip rfl rfl rfl ?_ | refine dwn lay_ok rfl rfl rfl rfl rfl ?_ | refine dwb rfl rfl rfl rfl rfl (by (first | refine st_pure (hg) b36 rfl rfl rfl rfl ?_); exact fin rfl) rfl rfl ?_ | refine dwg rfl rfl rfl rfl rfl (by (first | refine st_pure (hg) b36 rfl rfl rfl rfl ?_); exact fin rfl) rfl rfl rfl rfl rfl ?_ | refine dw_dec rfl rfl rfl (fun hg => ?_) (fun hg => ?_) | refine dw_ndec rfl rfl rfl (fun hg => ?_) (fun hg => ?_)
        all_goals first
          | (exfalso; omega)
          | (refine f_r [(0, rcell b ⟨p + k, false⟩)] rfl (by (repeat' first | exact trivial | refine And.intro ?_ ?_ | rfl); first | done | fail) rfl ⟨?_, rfl⟩; rfl)
end Go.Proofs.YtgjoloaajocafaaDoorFn
namespace Go.Proofs.YtgjoloaajocafaaDoorFn
open Go.Proofs.YtgjoloaajocafaaDoorAl Go.Proofs.Tryd
attribute [local irreducible] IntKind.wrap CodeOk OpsL OpG ACalls thn inBlk rndR cutR WkR Wk fnR DW ExtOk partsOf
theorem numM_le {b : List UInt8} {s : RS} {most : Nat} (h : s.at_ ≤ b.length) : (numM b s most).2.at_ ≤ b.length ∧ (numM b s most).1 ≤ most := by
  unfold numM
  split
  · exact ⟨h, Nat.zero_le _⟩
  · split
    · exact ⟨h, Nat.zero_le _⟩
    · rename_i e; have := gnC_le h e; exact ⟨this.2.1, this.1⟩
def refT (b : List UInt8) (s : RS) : ByteArray × RS :=
  let r := numM b s 4096
  if r.2.bad = true ∨ b.length < r.2.at_ + r.1 then (mt, ⟨r.2.at_, true⟩) else (strOf ((b.drop r.2.at_).take r.1), ⟨r.2.at_ + r.1, false⟩)
theorem refRText_ok (b : List UInt8) (s : RS) (hb : b.length ≤ 4000000000) (hp : s.at_ ≤ b.length) :
    ACalls prog 23 1 [.ptr 0 0] [(0, rcell b s)] fun r h => r = Sx (refT b s).1 ∧ h = [(0, rcell b (refT b s).2)] := by
  have hN := refRNum_ok b s 4096 hb hp (by decide)
  have hle := numM_le (most := 4096) hp
  have hlm : (List.map rowB b).length = b.length := List.length_map _
  simp only [refT]
  generalize numM b s 4096 = r at *
  obtain ⟨n, ⟨q, bad⟩⟩ := r
  simp only at *
  have hN2 : ACalls prog 22 1 [.ptr 0 0, U 4096] [(0, rcell b s)] fun r h => r = I n ∧ h = [(0, .cells [Bs b, I q, B bad])] := hN
  clear hN
  refine fnC lay_ok func23 rfl rfl rfl rfl rfl ?_
  by_cases hx : bad = true ∨ b.length < q + n
  · rw [if_pos hx]
    cases bad
    all_goals
      repeat' first | refine wr (by omega) ?_ | refine ln ?_ | refine stp lay_ok rfl ?_ | refine fin ?_ | refine n_thn ?_ | refine n_blk ?_ | refine e_thn ?_ | refine e_hit ?_ | refine e_miss rfl ?_ | refine r_thn ?_ | refine r_blk ?_ | refine e_rr ?_ | refine r_rr ?_ | refine e_cr ?_ | refine r_cr ?_ | refine .seq ?_ | refine reg ?_ | refine .block ?_ | refine .skip ?_ | refine .ret ?_ | refine .exit ?_ | refine cndT rfl ?_ | refine cndF rfl ?_ | refine c_dec rfl (fun hc => ?_) (fun hc => ?_) | refine c_ndec rfl (fun hc => ?_) (fun hc => ?_) | refine cnd rfl (fun hc => ?_) (fun hc => ?_) | ((first | refine o_none rfl ?_ | refine o_none_ ?_ | refine o_yes rfl rfl rfl ?_ | refine o_yes_ rfl rfl ?_); first | refine st_callF 0 (hN2) b22 rfl rfl rfl rfl rfl rfl (by (repeat' first | exact trivial | refine And.intro ?_ ?_ | rfl); first | done | fail) rfl ?_) | refine gd rfl rfl rfl (fun hg => ?_) (fun hg => ?_) | refine gn rfl rfl rfl (fun hg => ?_) (fun hg => ?_) | refine dwr (by omega) ?_ | refine dwl ?_ | refine dws lay_ok rfl rfl rfl rfl rfl rfl rfl ?_ | refine dwu lay_ok rfl rfl rfl rfl rfl rfl rfl rfl rfl ?_ | refine dw_end ?_ | refine dw_skip rfl rfl rfl ?_ | refine dwn lay_ok rfl rfl rfl rfl rfl ?_ | refine dwb rfl rfl rfl rfl rfl (by (first | refine st_callF 0 (hN2) b22 rfl rfl rfl rfl rfl rfl (by (repeat' first | exact trivial | refine And.intro ?_ ?_ | rfl); first | done | fail) rfl ?_); exact fin rfl) rfl rfl ?_ | refine dwg rfl rfl rfl rfl rfl (by (first | refine st_callF 0 (hN2) b22 rfl rfl rfl rfl rfl rfl (by (repeat' first | exact trivial | refine And.intro ?_ ?_ | rfl); first | done | fail) rfl ?_); exact fin rfl) rfl rfl rfl rfl rfl ?_ | refine dw_dec rfl rfl rfl (fun hg => ?_) (fun hg => ?_) | refine dw_ndec rfl rfl rfl (fun hg => ?_) (fun hg => ?_)
      refine dreg [(0, [], []), (1, [0], []), (2, [0, 1], []), (3, [0, 1, 2], []), (4, [0, 1, 2, 3], []), (5, [0, 1, 2, 3, 4], [13, 14, 15, 16, 17, 18, 19, 20, 21, 22]), (6, [0, 1, 2, 3, 4], [12, 18, 19, 20, 21]), (7, [0, 1, 2, 3, 4, 6], [12, 18, 19, 20, 21]), (8, [0, 1, 2, 3, 4, 6, 7], [12, 18, 19, 20, 21]), (9, [0, 1, 2, 3, 4, 6, 7, 8], [12, 18, 19, 20, 21]), (10, [0, 1, 2, 3, 4, 6, 7, 8, 9], [12, 18, 19, 20, 21]), (11, [0, 1, 2, 3, 4], [12, 13, 14, 15, 16, 17]), (12, [0, 1, 2, 3, 4, 11], [12, 13, 14, 15, 16, 17]), (13, [0, 1, 2, 3, 4, 11, 12], [12, 13, 14, 15, 16, 17]), (14, [0, 1, 2, 3, 4, 11, 12, 13], [12, 13, 14, 15, 16, 17]), (15, [0, 1, 2, 3, 4, 6, 7, 8, 9, 10, 11, 12, 13, 14], [12]), (16, [0, 1, 2, 3, 4, 5, 6, 7, 8, 9, 10, 11, 12, 13, 14, 15], []), (17, [0, 1, 2, 3, 4, 5, 6, 7, 8, 9, 10, 11, 12, 13, 14, 15, 16], [])] mixed (by kernel_rfl) ?_
      repeat' first | refine wr (by omega) ?_ | refine ln ?_ | refine stp lay_ok rfl ?_ | refine fin ?_ | refine n_thn ?_ | refine n_blk ?_ | refine e_thn ?_ | refine e_hit ?_ | refine e_miss rfl ?_ | refine r_thn ?_ | refine r_blk ?_ | refine e_rr ?_ | refine r_rr ?_ | refine e_cr ?_ | refine r_cr ?_ | refine .seq ?_ | refine reg ?_ | refine .block ?_ | refine .skip ?_ | refine .ret ?_ | refine .exit ?_ | refine cndT rfl ?_ | refine cndF rfl ?_ | refine c_dec rfl (fun hc => ?_) (fun hc => ?_) | refine c_ndec rfl (fun hc => ?_) (fun hc => ?_) | refine cnd rfl (fun hc => ?_) (fun hc => ?_) | refine gd rfl rfl rfl (fun hg => ?_) (fun hg => ?_) | refine gn rfl rfl rfl (fun hg => ?_) (fun hg => ?_) | refine dwr (by omega) ?_ | refine dwl ?_ | refine dws lay_ok rfl rfl rfl rfl rfl rfl rfl ?_ | refine dwu lay_ok rfl rfl rfl rfl rfl rfl rfl rfl rfl ?_ | refine dw_end ?_ | refine dw_skip rfl rfl rfl ?_ | refine dwn lay_ok rfl rfl rfl rfl rfl ?_ | refine dw_dec rfl rfl rfl (fun hg => ?_) (fun hg => ?_) | refine dw_ndec rfl rfl rfl (fun hg => ?_) (fun hg => ?_)
      all_goals first
        | (exfalso; simp only [Bool.false_eq_true, false_or] at hx; omega)
        | (refine f_r [(0, rcell b ⟨q, true⟩)] rfl (by (repeat' first | exact trivial | refine And.intro ?_ ?_ | rfl); first | done | fail) rfl ⟨?_, rfl⟩; rfl)
  · rw [if_neg hx]
    have hx1 : bad = false := by cases bad <;> simp_all
    subst hx1
    have hx2 : q + n ≤ b.length := by omega
    have hsl : ((List.map rowB b).drop q).take (q + n - q) = ((b.drop q).take n).map rowB := by
      rw [← List.map_drop, ← List.map_take, Nat.add_sub_cancel_left]
    repeat' first | refine wr (by omega) ?_ | refine ln ?_ | refine stp lay_ok rfl ?_ | refine fin ?_ | refine n_thn ?_ | refine n_blk ?_ | refine e_thn ?_ | refine e_hit ?_ | refine e_miss rfl ?_ | refine r_thn ?_ | refine r_blk ?_ | refine e_rr ?_ | refine r_rr ?_ | refine e_cr ?_ | refine r_cr ?_ | refine .seq ?_ | refine reg ?_ | refine .block ?_ | refine .skip ?_ | refine .ret ?_ | refine .exit ?_ | refine cndT rfl ?_ | refine cndF rfl ?_ | refine c_dec rfl (fun hc => ?_) (fun hc => ?_) | refine c_ndec rfl (fun hc => ?_) (fun hc => ?_) | refine cnd rfl (fun hc => ?_) (fun hc => ?_) | ((first | refine o_none rfl ?_ | refine o_none_ ?_ | refine o_yes rfl rfl rfl ?_ | refine o_yes_ rfl rfl ?_); first | refine st_callF 0 (hN2) b22 rfl rfl rfl rfl rfl rfl (by (repeat' first | exact trivial | refine And.intro ?_ ?_ | rfl); first | done | fail) rfl ?_) | refine gd rfl rfl rfl (fun hg => ?_) (fun hg => ?_) | refine gn rfl rfl rfl (fun hg => ?_) (fun hg => ?_) | refine dwr (by omega) ?_ | refine dwl ?_ | refine dws lay_ok rfl rfl rfl rfl rfl rfl rfl ?_ | refine dwu lay_ok rfl rfl rfl rfl rfl rfl rfl rfl rfl ?_ | refine dw_end ?_ | refine dw_skip rfl rfl rfl ?_ | refine dwn lay_ok rfl rfl rfl rfl rfl ?_ | refine dwb rfl rfl rfl rfl rfl (by (first | refine st_callF 0 (hN2) b22 rfl rfl rfl rfl rfl rfl (by (repeat' first | exact trivial | refine And.intro ?_ ?_ | rfl); first | done | fail) rfl ?_); exact fin rfl) rfl rfl ?_ | refine dwg rfl rfl rfl rfl rfl (by (first | refine st_callF 0 (hN2) b22 rfl rfl rfl rfl rfl rfl (by (repeat' first | exact trivial | refine And.intro ?_ ?_ | rfl); first | done | fail) rfl ?_); exact fin rfl) rfl rfl rfl rfl rfl ?_ | refine dw_dec rfl rfl rfl (fun hg => ?_) (fun hg => ?_) | refine dw_ndec rfl rfl rfl (fun hg => ?_) (fun hg => ?_)
    refine dreg [(0, [], []), (1, [0], []), (2, [0, 1], []), (3, [0, 1, 2], []), (4, [0, 1, 2, 3], []), (5, [0, 1, 2, 3, 4], [13, 14, 15, 16, 17, 18, 19, 20, 21, 22]), (6, [0, 1, 2, 3, 4], [12, 18, 19, 20, 21]), (7, [0, 1, 2, 3, 4, 6], [12, 18, 19, 20, 21]), (8, [0, 1, 2, 3, 4, 6, 7], [12, 18, 19, 20, 21]), (9, [0, 1, 2, 3, 4, 6, 7, 8], [12, 18, 19, 20, 21]), (10, [0, 1, 2, 3, 4, 6, 7, 8, 9], [12, 18, 19, 20, 21]), (11, [0, 1, 2, 3, 4], [12, 13, 14, 15, 16, 17]), (12, [0, 1, 2, 3, 4, 11], [12, 13, 14, 15, 16, 17]), (13, [0, 1, 2, 3, 4, 11, 12], [12, 13, 14, 15, 16, 17]), (14, [0, 1, 2, 3, 4, 11, 12, 13], [12, 13, 14, 15, 16, 17]), (15, [0, 1, 2, 3, 4, 6, 7, 8, 9, 10, 11, 12, 13, 14], [12]), (16, [0, 1, 2, 3, 4, 5, 6, 7, 8, 9, 10, 11, 12, 13, 14, 15], []), (17, [0, 1, 2, 3, 4, 5, 6, 7, 8, 9, 10, 11, 12, 13, 14, 15, 16], [])] mixed (by kernel_rfl) ?_
    repeat' first | refine wr (by omega) ?_ | refine ln ?_ | refine stp lay_ok rfl ?_ | refine fin ?_ | refine n_thn ?_ | refine n_blk ?_ | refine e_thn ?_ | refine e_hit ?_ | refine e_miss rfl ?_ | refine r_thn ?_ | refine r_blk ?_ | refine e_rr ?_ | refine r_rr ?_ | refine e_cr ?_ | refine r_cr ?_ | refine .seq ?_ | refine reg ?_ | refine .block ?_ | refine .skip ?_ | refine .ret ?_ | refine .exit ?_ | refine cndT rfl ?_ | refine cndF rfl ?_ | refine c_dec rfl (fun hc => ?_) (fun hc => ?_) | refine c_ndec rfl (fun hc => ?_) (fun hc => ?_) | refine cnd rfl (fun hc => ?_) (fun hc => ?_) | refine gd rfl rfl rfl (fun hg => ?_) (fun hg => ?_) | refine gn rfl rfl rfl (fun hg => ?_) (fun hg => ?_) | refine dwr (by omega) ?_ | refine dwl ?_ | refine dws lay_ok rfl rfl rfl rfl rfl rfl rfl ?_ | refine dwu lay_ok rfl rfl rfl rfl rfl rfl rfl rfl rfl ?_ | refine dw_end ?_ | refine dw_skip rfl rfl rfl ?_ | refine dwn lay_ok rfl rfl rfl rfl rfl ?_ | refine dw_dec rfl rfl rfl (fun hg => ?_) (fun hg => ?_) | refine dw_ndec rfl rfl rfl (fun hg => ?_) (fun hg => ?_)
    · exfalso; omega
    · refine dreg [(0, [], [32, 33, 34, 35, 36, 37, 38, 39, 40, 41]), (1, [0], [32, 33, 34, 35, 36, 37, 38, 39, 40, 41]), (2, [0, 1], [32, 33, 34, 35, 36, 37, 38, 39, 40, 41]), (3, [0, 1, 2], [32, 33, 34, 35, 36, 37, 38, 39, 40, 41]), (4, [], [28, 29, 30, 31, 36, 37, 38, 39, 40, 41]), (5, [4], [28, 29, 30, 31, 36, 37, 38, 39, 40, 41]), (6, [4, 5], [28, 29, 30, 31, 36, 37, 38, 39, 40, 41]), (7, [4, 5, 6], [28, 29, 30, 31, 36, 37, 38, 39, 40, 41]), (8, [], [28, 29, 30, 31, 32, 33, 34, 35, 40]), (9, [8], [28, 29, 30, 31, 32, 33, 34, 35, 40]), (10, [8, 9], [28, 29, 30, 31, 32, 33, 34, 35, 40]), (11, [8, 9, 10], [28, 29, 30, 31, 32, 33, 34, 35, 40]), (12, [], [28, 29, 30, 31, 32, 33, 34, 35, 36, 37, 38, 39]), (13, [8, 9, 10, 11, 12], [28, 29, 30, 31, 32, 33, 34, 35]), (14, [0, 1, 2, 3, 4, 5, 6, 7, 8, 9, 10, 11, 12, 13], []), (15, [0, 1, 2, 3, 4, 5, 6, 7, 8, 9, 10, 11, 12, 13, 14], []), (16, [0, 1, 2, 3, 4, 5, 6, 7, 8, 9, 10, 11, 12, 13, 14, 15], [])] mixed (by kernel_rfl) ?_
      repeat' first | refine wr (by omega) ?_ | refine ln ?_ | refine stp lay_ok rfl ?_ | refine fin ?_ | refine n_thn ?_ | refine n_blk ?_ | refine e_thn ?_ | refine e_hit ?_ | refine e_miss rfl ?_ | refine r_thn ?_ | refine r_blk ?_ | refine e_rr ?_ | refine r_rr ?_ | refine e_cr ?_ | refine r_cr ?_ | refine .seq ?_ | refine reg ?_ | refine .block ?_ | refine .skip ?_ | refine .ret ?_ | refine .exit ?_ | refine cndT rfl ?_ | refine cndF rfl ?_ | refine c_dec rfl (fun hc => ?_) (fun hc => ?_) | refine c_ndec rfl (fun hc => ?_) (fun hc => ?_) | refine cnd rfl (fun hc => ?_) (fun hc => ?_) | ((first | refine o_none rfl ?_ | refine o_none_ ?_ | refine o_yes rfl rfl rfl ?_ | refine o_yes_ rfl rfl ?_); first | refine st_subL q (q + n) lay_ok rfl rfl rfl ⟨_, _, rfl, rfl⟩ ⟨_, _, rfl, (Int.natCast_add q n).symm⟩ (by omega) (by omega) ?_ | refine st_strOfE hsl lay_ok rfl rfl rfl rfl rfl rfl rfl ?_) | refine gd rfl rfl rfl (fun hg => ?_) (fun hg => ?_) | refine gn rfl rfl rfl (fun hg => ?_) (fun hg => ?_) | refine dwr (by omega) ?_ | refine dwl ?_ | refine dws lay_ok rfl rfl rfl rfl rfl rfl rfl ?_ | refine dwu lay_ok rfl rfl rfl rfl rfl rfl rfl rfl rfl ?_ | refine dw_end ?_ | refine dw_skip rfl rfl rfl ?_ | refine dwn lay_ok rfl rfl rfl rfl rfl ?_ | refine dwb rfl rfl rfl rfl rfl (by (first | refine st_subL q (q + n) lay_ok rfl rfl rfl ⟨_, _, rfl, rfl⟩ ⟨_, _, rfl, (Int.natCast_add q n).symm⟩ (by omega) (by omega) ?_ | refine st_strOfE hsl lay_ok rfl rfl rfl rfl rfl rfl rfl ?_); exact fin rfl) rfl rfl ?_ | refine dwg rfl rfl rfl rfl rfl (by (first | refine st_subL q (q + n) lay_ok rfl rfl rfl ⟨_, _, rfl, rfl⟩ ⟨_, _, rfl, (Int.natCast_add q n).symm⟩ (by omega) (by omega) ?_ | refine st_strOfE hsl lay_ok rfl rfl rfl rfl rfl rfl rfl ?_); exact fin rfl) rfl rfl rfl rfl rfl ?_ | refine dw_dec rfl rfl rfl (fun hg => ?_) (fun hg => ?_) | refine dw_ndec rfl rfl rfl (fun hg => ?_) (fun hg => ?_)
      refine f_r [(0, rcell b ⟨q + n, false⟩)] rfl (by (repeat' first | exact trivial | refine And.intro ?_ ?_ | rfl); first | done | fail) rfl ⟨?_, rfl⟩
      rfl
end Go.Proofs.YtgjoloaajocafaaDoorFn
namespace Go.Proofs.YtgjoloaajocafaaDoorFn
open Go.Proofs.YtgjoloaajocafaaDoorAl Go.Proofs.Tryd
attribute [local irreducible] IntKind.wrap CodeOk OpsL OpG ACalls thn inBlk rndR cutR WkR Wk fnR DW ExtOk partsOf
theorem b55 : HasBody prog 55 := ⟨f55, func55, Option.some_ne_none _, by decide⟩
theorem b37 : HasBody prog 37 := ⟨f37, func37, Option.some_ne_none _, by decide⟩
theorem b24 : HasBody prog 24 := ⟨f24, func24, Option.some_ne_none _, by decide⟩
theorem list_ext {α : Type} {a b : List α} (hl : a.length = b.length) (h : ∀ j (h1 : j < a.length) (h2 : j < b.length), a[j] = b[j]) : a = b := List.ext_getElem hl h
theorem same3_ok (a b : List ByteArray) (ha : a.length ≤ 4000000000) (hb : b.length ≤ 4000000000) : ACalls prog 55 0 [.st (.sl 1 (a.map rowS)), .st (.sl 1 (b.map rowS))] [] fun r h => r = B (decide (a = b)) ∧ h = [] := by
  have hma : (List.map rowS a).length = a.length := List.length_map _
  have hmb : (List.map rowS b).length = b.length := List.length_map _
  refine fnC lay_ok func55 rfl rfl rfl rfl rfl ?_
  repeat' first | refine wr (by omega) ?_ | refine ln ?_ | refine stp lay_ok rfl ?_ | refine fin ?_ | refine n_thn ?_ | refine n_blk ?_ | refine e_thn ?_ | refine e_hit ?_ | refine e_miss rfl ?_ | refine r_thn ?_ | refine r_blk ?_ | refine e_rr ?_ | refine r_rr ?_ | refine e_cr ?_ | refine r_cr ?_ | refine .seq ?_ | refine reg ?_ | refine .block ?_ | refine .skip ?_ | refine .ret ?_ | refine .exit ?_ | refine cndT rfl ?_ | refine cndF rfl ?_ | refine c_dec rfl (fun hc => ?_) (fun hc => ?_) | refine c_ndec rfl (fun hc => ?_) (fun hc => ?_) | refine cnd rfl (fun hc => ?_) (fun hc => ?_) | refine gd rfl rfl rfl (fun hg => ?_) (fun hg => ?_) | refine gn rfl rfl rfl (fun hg => ?_) (fun hg => ?_) | refine dwr (by omega) ?_ | refine dwl ?_ | refine dws lay_ok rfl rfl rfl rfl rfl rfl rfl ?_ | refine dwu lay_ok rfl rfl rfl rfl rfl rfl rfl rfl rfl ?_ | refine dw_end ?_ | refine dw_skip rfl rfl rfl ?_ | refine dwn lay_ok rfl rfl rfl rfl rfl ?_ | refine dw_dec rfl rfl rfl (fun hg => ?_) (fun hg => ?_) | refine dw_ndec rfl rfl rfl (fun hg => ?_) (fun hg => ?_)
  · refine f_r [] rfl trivial rfl ⟨?_, rfl⟩
    rw [decide_eq_false (by rintro rfl; omega)]; rfl
  · have hl : a.length = b.length := by omega
    refine lpR (fun k => k ≤ a.length ∧ ∀ j (h1 : j < a.length) (h2 : j < b.length), j < k → a[j] = b[j]) (fun k => a.length - k) (fun k => [(5, I k)]) (fun k => []) (0) [0, 1] [] [] rfl rfl rfl (.of [] (by (repeat' first | exact trivial | refine And.intro ?_ ?_ | rfl); first | done | fail) (by (repeat' first | exact trivial | refine And.intro ?_ ?_ | rfl); first | done | fail) rfl) ?_ ?_
    · exact ⟨Nat.zero_le _, fun j h1 h2 h3 => by omega⟩
    rintro k ⟨hk, hall⟩
    refine nrm rfl rfl ?_
    repeat' first | refine wr (by omega) ?_ | refine ln ?_ | refine stp lay_ok rfl ?_ | refine fin ?_ | refine n_thn ?_ | refine n_blk ?_ | refine e_thn ?_ | refine e_hit ?_ | refine e_miss rfl ?_ | refine r_thn ?_ | refine r_blk ?_ | refine e_rr ?_ | refine r_rr ?_ | refine e_cr ?_ | refine r_cr ?_ | refine .seq ?_ | refine reg ?_ | refine .block ?_ | refine .skip ?_ | refine .ret ?_ | refine .exit ?_ | refine cndT rfl ?_ | refine cndF rfl ?_ | refine c_dec rfl (fun hc => ?_) (fun hc => ?_) | refine c_ndec rfl (fun hc => ?_) (fun hc => ?_) | refine cnd rfl (fun hc => ?_) (fun hc => ?_) | refine gd rfl rfl rfl (fun hg => ?_) (fun hg => ?_) | refine gn rfl rfl rfl (fun hg => ?_) (fun hg => ?_) | refine dwr (by omega) ?_ | refine dwl ?_ | refine dws lay_ok rfl rfl rfl rfl rfl rfl rfl ?_ | refine dwu lay_ok rfl rfl rfl rfl rfl rfl rfl rfl rfl ?_ | refine dw_end ?_ | refine dw_skip rfl rfl rfl ?_ | refine dwn lay_ok rfl rfl rfl rfl rfl ?_ | refine dw_dec rfl rfl rfl (fun hg => ?_) (fun hg => ?_) | refine dw_ndec rfl rfl rfl (fun hg => ?_) (fun hg => ?_)
    · have hka : k < a.length := by omega
      have hkb : k < b.length := by omega
      have hat := at_rowS hka
      have hbt := at_rowS hkb
      refine dreg [(0, [], [18, 21, 22, 23, 24]), (1, [], [17, 21, 22, 23, 24]), (2, [0, 1], [21, 22, 23, 24]), (3, [0, 1, 2], [21, 22, 23, 24]), (4, [], [17, 18, 19, 20, 22]), (5, [], [17, 18, 19, 20, 21]), (6, [4, 5], [17, 18, 19, 20]), (7, [4, 5, 6], [17, 18, 19, 20]), (8, [0, 1, 2, 3, 4, 5, 6, 7], [])] mixed (by kernel_rfl) ?_
      repeat' first | refine wr (by omega) ?_ | refine ln ?_ | refine stp lay_ok rfl ?_ | refine fin ?_ | refine n_thn ?_ | refine n_blk ?_ | refine e_thn ?_ | refine e_hit ?_ | refine e_miss rfl ?_ | refine r_thn ?_ | refine r_blk ?_ | refine e_rr ?_ | refine r_rr ?_ | refine e_cr ?_ | refine r_cr ?_ | refine .seq ?_ | refine reg ?_ | refine .block ?_ | refine .skip ?_ | refine .ret ?_ | refine .exit ?_ | refine cndT rfl ?_ | refine cndF rfl ?_ | refine c_dec rfl (fun hc => ?_) (fun hc => ?_) | refine c_ndec rfl (fun hc => ?_) (fun hc => ?_) | refine cnd rfl (fun hc => ?_) (fun hc => ?_) | ((first | refine o_none rfl ?_ | refine o_none_ ?_ | refine o_yes rfl rfl rfl ?_ | refine o_yes_ rfl rfl ?_); first | refine st_index (rowS a[k]) lay_ok rfl rfl rfl rfl (by omega) hat ?_ | refine st_index (rowS b[k]) lay_ok rfl rfl rfl rfl (by omega) hbt ?_) | refine gd rfl rfl rfl (fun hg => ?_) (fun hg => ?_) | refine gn rfl rfl rfl (fun hg => ?_) (fun hg => ?_) | refine dwr (by omega) ?_ | refine dwl ?_ | refine dws lay_ok rfl rfl rfl rfl rfl rfl rfl ?_ | refine dwu lay_ok rfl rfl rfl rfl rfl rfl rfl rfl rfl ?_ | refine dw_end ?_ | refine dw_skip rfl rfl rfl ?_ | refine dwn lay_ok rfl rfl rfl rfl rfl ?_ | refine dwb rfl rfl rfl rfl rfl (by (first | refine st_index (rowS a[k]) lay_ok rfl rfl rfl rfl (by omega) hat ?_ | refine st_index (rowS b[k]) lay_ok rfl rfl rfl rfl (by omega) hbt ?_); exact fin rfl) rfl rfl ?_ | refine dwg rfl rfl rfl rfl rfl (by (first | refine st_index (rowS a[k]) lay_ok rfl rfl rfl rfl (by omega) hat ?_ | refine st_index (rowS b[k]) lay_ok rfl rfl rfl rfl (by omega) hbt ?_); exact fin rfl) rfl rfl rfl rfl rfl ?_ | refine dw_dec rfl rfl rfl (fun hg => ?_) (fun hg => ?_) | refine dw_ndec rfl rfl rfl (fun hg => ?_) (fun hg => ?_)
      · refine f_r [] rfl trivial rfl ⟨?_, rfl⟩
        rw [decide_eq_false (fun e => hc (by subst e; rfl))]; rfl
      · refine n_rr (k + 1) ?_ (.of [] (by (repeat' first | exact trivial | refine And.intro ?_ ?_ | rfl); first | done | fail) (by (repeat' first | exact trivial | refine And.intro ?_ ?_ | rfl); first | done | fail) rfl) ?_
        · omega
        · refine ⟨hka, fun j h1 h2 h3 => ?_⟩
          by_cases hj : j = k
          · subst hj; exact Decidable.not_not.1 hc
          · exact hall j h1 h2 (by omega)
    · refine f_r [] rfl trivial rfl ⟨?_, rfl⟩
      rw [decide_eq_true (list_ext hl fun j h1 h2 => hall j h1 h2 (by omega))]; rfl
theorem same4_ok (x y : EV) (ha : x.keys.length ≤ 4000000000) (hb : y.keys.length ≤ 4000000000) : ACalls prog 37 0 [.st (.agg (rowE x)), .st (.agg (rowE y))] [] fun r h => r = B (decide (x = y)) ∧ h = [] := by
  have h1 := same3_ok x.keys y.keys ha hb
  obtain ⟨p, z, ks⟩ := x
  obtain ⟨p', z', ks'⟩ := y
  simp only at *
  refine fnC lay_ok func37 rfl rfl rfl rfl rfl ?_
  repeat' first | refine wr (by omega) ?_ | refine ln ?_ | refine stp lay_ok rfl ?_ | refine fin ?_ | refine n_thn ?_ | refine n_blk ?_ | refine e_thn ?_ | refine e_hit ?_ | refine e_miss rfl ?_ | refine r_thn ?_ | refine r_blk ?_ | refine e_rr ?_ | refine r_rr ?_ | refine e_cr ?_ | refine r_cr ?_ | refine .seq ?_ | refine reg ?_ | refine .block ?_ | refine .skip ?_ | refine .ret ?_ | refine .exit ?_ | refine cndT rfl ?_ | refine cndF rfl ?_ | refine c_dec rfl (fun hc => ?_) (fun hc => ?_) | refine c_ndec rfl (fun hc => ?_) (fun hc => ?_) | refine cnd rfl (fun hc => ?_) (fun hc => ?_) | ((first | refine o_none rfl ?_ | refine o_none_ ?_ | refine o_yes rfl rfl rfl ?_ | refine o_yes_ rfl rfl ?_); first | refine st_pure (h1) b55 rfl rfl rfl rfl ?_) | refine gd rfl rfl rfl (fun hg => ?_) (fun hg => ?_) | refine gn rfl rfl rfl (fun hg => ?_) (fun hg => ?_) | refine dwr (by omega) ?_ | refine dwl ?_ | refine dws lay_ok rfl rfl rfl rfl rfl rfl rfl ?_ | refine dwu lay_ok rfl rfl rfl rfl rfl rfl rfl rfl rfl ?_ | refine dw_end ?_ | refine dw_skip rfl rfl rfl ?_ | refine dwn lay_ok rfl rfl rfl rfl rfl ?_ | refine dwb rfl rfl rfl rfl rfl (by (first | refine st_pure (h1) b55 rfl rfl rfl rfl ?_); exact fin rfl) rfl rfl ?_ | refine dwg rfl rfl rfl rfl rfl (by (first | refine st_pure (h1) b55 rfl rfl rfl rfl ?_); exact fin rfl) rfl rfl rfl rfl rfl ?_ | refine dw_dec rfl rfl rfl (fun hg => ?_) (fun hg => ?_) | refine dw_ndec rfl rfl rfl (fun hg => ?_) (fun hg => ?_)
  all_goals
    refine f_r [] rfl trivial rfl ⟨?_, rfl⟩
    simp_all [retOf, B]
theorem sameAll_ok (a b : List EV) (ha : a.length ≤ 4000000000) (hb : b.length ≤ 4000000000) (ga : ∀ e ∈ a, e.keys.length ≤ 4000000000) (gb : ∀ e ∈ b, e.keys.length ≤ 4000000000) : ACalls prog 24 0 [.st (.sl 3 (a.map rowE)), .st (.sl 3 (b.map rowE))] [] fun r h => r = B (decide (a = b)) ∧ h = [] := by
  have hma : (List.map rowE a).length = a.length := List.length_map _
  have hmb : (List.map rowE b).length = b.length := List.length_map _
  refine fnC lay_ok func24 rfl rfl rfl rfl rfl ?_
  repeat' first | refine wr (by omega) ?_ | refine ln ?_ | refine stp lay_ok rfl ?_ | refine fin ?_ | refine n_thn ?_ | refine n_blk ?_ | refine e_thn ?_ | refine e_hit ?_ | refine e_miss rfl ?_ | refine r_thn ?_ | refine r_blk ?_ | refine e_rr ?_ | refine r_rr ?_ | refine e_cr ?_ | refine r_cr ?_ | refine .seq ?_ | refine reg ?_ | refine .block ?_ | refine .skip ?_ | refine .ret ?_ | refine .exit ?_ | refine cndT rfl ?_ | refine cndF rfl ?_ | refine c_dec rfl (fun hc => ?_) (fun hc => ?_) | refine c_ndec rfl (fun hc => ?_) (fun hc => ?_) | refine cnd rfl (fun hc => ?_) (fun hc => ?_) | refine gd rfl rfl rfl (fun hg => ?_) (fun hg => ?_) | refine gn rfl rfl rfl (fun hg => ?_) (fun hg => ?_) | refine dwr (by omega) ?_ | refine dwl ?_ | refine dws lay_ok rfl rfl rfl rfl rfl rfl rfl ?_ | refine dwu lay_ok rfl rfl rfl rfl rfl rfl rfl rfl rfl ?_ | refine dw_end ?_ | refine dw_skip rfl rfl rfl ?_ | refine dwn lay_ok rfl rfl rfl rfl rfl ?_ | refine dw_dec rfl rfl rfl (fun hg => ?_) (fun hg => ?_) | refine dw_ndec rfl rfl rfl (fun hg => ?_) (fun hg => ?_)
  · refine f_r [] rfl trivial rfl ⟨?_, rfl⟩
    rw [decide_eq_false (by rintro rfl; omega)]; rfl
  · have hl : a.length = b.length := by omega
    refine lpR (fun k => k ≤ a.length ∧ ∀ j (h1 : j < a.length) (h2 : j < b.length), j < k → a[j] = b[j]) (fun k => a.length - k) (fun k => [(5, I k)]) (fun k => []) (0) [0, 1] [] [] rfl rfl rfl (.of [] (by (repeat' first | exact trivial | refine And.intro ?_ ?_ | rfl); first | done | fail) (by (repeat' first | exact trivial | refine And.intro ?_ ?_ | rfl); first | done | fail) rfl) ?_ ?_
    · exact ⟨Nat.zero_le _, fun j h1 h2 h3 => by omega⟩
    rintro k ⟨hk, hall⟩
    refine nrm rfl rfl ?_
    repeat' first | refine wr (by omega) ?_ | refine ln ?_ | refine stp lay_ok rfl ?_ | refine fin ?_ | refine n_thn ?_ | refine n_blk ?_ | refine e_thn ?_ | refine e_hit ?_ | refine e_miss rfl ?_ | refine r_thn ?_ | refine r_blk ?_ | refine e_rr ?_ | refine r_rr ?_ | refine e_cr ?_ | refine r_cr ?_ | refine .seq ?_ | refine reg ?_ | refine .block ?_ | refine .skip ?_ | refine .ret ?_ | refine .exit ?_ | refine cndT rfl ?_ | refine cndF rfl ?_ | refine c_dec rfl (fun hc => ?_) (fun hc => ?_) | refine c_ndec rfl (fun hc => ?_) (fun hc => ?_) | refine cnd rfl (fun hc => ?_) (fun hc => ?_) | refine gd rfl rfl rfl (fun hg => ?_) (fun hg => ?_) | refine gn rfl rfl rfl (fun hg => ?_) (fun hg => ?_) | refine dwr (by omega) ?_ | refine dwl ?_ | refine dws lay_ok rfl rfl rfl rfl rfl rfl rfl ?_ | refine dwu lay_ok rfl rfl rfl rfl rfl rfl rfl rfl rfl ?_ | refine dw_end ?_ | refine dw_skip rfl rfl rfl ?_ | refine dwn lay_ok rfl rfl rfl rfl rfl ?_ | refine dw_dec rfl rfl rfl (fun hg => ?_) (fun hg => ?_) | refine dw_ndec rfl rfl rfl (fun hg => ?_) (fun hg => ?_)
    · have hka : k < a.length := by omega
      have hkb : k < b.length := by omega
      have hat := at_rowE hka
      have hbt := at_rowE hkb
      have h1 := same4_ok a[k] b[k] (ga _ (List.getElem_mem hka)) (gb _ (List.getElem_mem hkb))
      by_cases he : a[k] = b[k]
      · rw [decide_eq_true he] at h1
        refine dreg [(0, [], [18, 21, 22, 23, 24]), (1, [], [17, 21, 22, 23, 24]), (2, [0, 1], [21, 22, 23, 24]), (3, [0, 1, 2], [21, 22, 23, 24]), (4, [], [17, 18, 19, 20, 22]), (5, [], [17, 18, 19, 20, 21]), (6, [4, 5], [17, 18, 19, 20]), (7, [4, 5, 6], [17, 18, 19, 20]), (8, [0, 1, 2, 3, 4, 5, 6, 7], []), (9, [0, 1, 2, 3, 4, 5, 6, 7, 8], [])] mixed (by kernel_rfl) ?_
        repeat' first | refine wr (by omega) ?_ | refine ln ?_ | refine stp lay_ok rfl ?_ | refine fin ?_ | refine n_thn ?_ | refine n_blk ?_ | refine e_thn ?_ | refine e_hit ?_ | refine e_miss rfl ?_ | refine r_thn ?_ | refine r_blk ?_ | refine e_rr ?_ | refine r_rr ?_ | refine e_cr ?_ | refine r_cr ?_ | refine .seq ?_ | refine reg ?_ | refine .block ?_ | refine .skip ?_ | refine .ret ?_ | refine .exit ?_ | refine cndT rfl ?_ | refine cndF rfl ?_ | refine c_dec rfl (fun hc => ?_) (fun hc => ?_) | refine c_ndec rfl (fun hc => ?_) (fun hc => ?_) | refine cnd rfl (fun hc => ?_) (fun hc => ?_) | ((first | refine o_none rfl ?_ | refine o_none_ ?_ | refine o_yes rfl rfl rfl ?_ | refine o_yes_ rfl rfl ?_); first | refine st_index (rowE a[k]) lay_ok rfl rfl rfl rfl (by omega) hat ?_ | refine st_index (rowE b[k]) lay_ok rfl rfl rfl rfl (by omega) hbt ?_ | refine st_pure (h1) b37 rfl rfl rfl rfl ?_) | refine gd rfl rfl rfl (fun hg => ?_) (fun hg => ?_) | refine gn rfl rfl rfl (fun hg => ?_) (fun hg => ?_) | refine dwr (by omega) ?_ | refine dwl ?_ | refine dws lay_ok rfl rfl rfl rfl rfl rfl rfl ?_ | refine dwu lay_ok rfl rfl rfl rfl rfl rfl rfl rfl rfl ?_ | refine dw_end ?_ | refine dw_skip rfl rfl rfl ?_ | refine dwn lay_ok rfl rfl rfl rfl rfl ?_ | refine dwb rfl rfl rfl rfl rfl (by (first | refine st_index (rowE a[k]) lay_ok rfl rfl rfl rfl (by omega) hat ?_ | refine st_index (rowE b[k]) lay_ok rfl rfl rfl rfl (by omega) hbt ?_ | refine st_pure (h1) b37 rfl rfl rfl rfl ?_); exact fin rfl) rfl rfl ?_ | refine dwg rfl rfl rfl rfl rfl (by (first | refine st_index (rowE a[k]) lay_ok rfl rfl rfl rfl (by omega) hat ?_ | refine st_index (rowE b[k]) lay_ok rfl rfl rfl rfl (by omega) hbt ?_ | refine st_pure (h1) b37 rfl rfl rfl rfl ?_); exact fin rfl) rfl rfl rfl rfl rfl ?_ | refine dw_dec rfl rfl rfl (fun hg => ?_) (fun hg => ?_) | refine dw_ndec rfl rfl rfl (fun hg => ?_) (fun hg => ?_)
        refine n_rr (k + 1) ?_ (.of [] (by (repeat' first | exact trivial | refine And.intro ?_ ?_ | rfl); first | done | fail) (by (repeat' first | exact trivial | refine And.intro ?_ ?_ | rfl); first | done | fail) rfl) ?_
        · omega
        · refine ⟨hka, fun j h1 h2 h3 => ?_⟩
          by_cases hj : j = k
          · subst hj; exact he
          · exact hall j h1 h2 (by omega)
      · rw [decide_eq_false he] at h1
        refine dreg [(0, [], [18, 21, 22, 23, 24]), (1, [], [17, 21, 22, 23, 24]), (2, [0, 1], [21, 22, 23, 24]), (3, [0, 1, 2], [21, 22, 23, 24]), (4, [], [17, 18, 19, 20, 22]), (5, [], [17, 18, 19, 20, 21]), (6, [4, 5], [17, 18, 19, 20]), (7, [4, 5, 6], [17, 18, 19, 20]), (8, [0, 1, 2, 3, 4, 5, 6, 7], []), (9, [0, 1, 2, 3, 4, 5, 6, 7, 8], [])] mixed (by kernel_rfl) ?_
        repeat' first | refine wr (by omega) ?_ | refine ln ?_ | refine stp lay_ok rfl ?_ | refine fin ?_ | refine n_thn ?_ | refine n_blk ?_ | refine e_thn ?_ | refine e_hit ?_ | refine e_miss rfl ?_ | refine r_thn ?_ | refine r_blk ?_ | refine e_rr ?_ | refine r_rr ?_ | refine e_cr ?_ | refine r_cr ?_ | refine .seq ?_ | refine reg ?_ | refine .block ?_ | refine .skip ?_ | refine .ret ?_ | refine .exit ?_ | refine cndT rfl ?_ | refine cndF rfl ?_ | refine c_dec rfl (fun hc => ?_) (fun hc => ?_) | refine c_ndec rfl (fun hc => ?_) (fun hc => ?_) | refine cnd rfl (fun hc => ?_) (fun hc => ?_) | ((first | refine o_none rfl ?_ | refine o_none_ ?_ | refine o_yes rfl rfl rfl ?_ | refine o_yes_ rfl rfl ?_); first | refine st_index (rowE a[k]) lay_ok rfl rfl rfl rfl (by omega) hat ?_ | refine st_index (rowE b[k]) lay_ok rfl rfl rfl rfl (by omega) hbt ?_ | refine st_pure (h1) b37 rfl rfl rfl rfl ?_) | refine gd rfl rfl rfl (fun hg => ?_) (fun hg => ?_) | refine gn rfl rfl rfl (fun hg => ?_) (fun hg => ?_) | refine dwr (by omega) ?_ | refine dwl ?_ | refine dws lay_ok rfl rfl rfl rfl rfl rfl rfl ?_ | refine dwu lay_ok rfl rfl rfl rfl rfl rfl rfl rfl rfl ?_ | refine dw_end ?_ | refine dw_skip rfl rfl rfl ?_ | refine dwn lay_ok rfl rfl rfl rfl rfl ?_ | refine dwb rfl rfl rfl rfl rfl (by (first | refine st_index (rowE a[k]) lay_ok rfl rfl rfl rfl (by omega) hat ?_ | refine st_index (rowE b[k]) lay_ok rfl rfl rfl rfl (by omega) hbt ?_ | refine st_pure (h1) b37 rfl rfl rfl rfl ?_); exact fin rfl) rfl rfl ?_ | refine dwg rfl rfl rfl rfl rfl (by (first | refine st_index (rowE a[k]) lay_ok rfl rfl rfl rfl (by omega) hat ?_ | refine st_index (rowE b[k]) lay_ok rfl rfl rfl rfl (by omega) hbt ?_ | refine st_pure (h1) b37 rfl rfl rfl rfl ?_); exact fin rfl) rfl rfl rfl rfl rfl ?_ | refine dw_dec rfl rfl rfl (fun hg => ?_) (fun hg => ?_) | refine dw_ndec rfl rfl rfl (fun hg => ?_) (fun hg => ?_)
        refine f_r [] rfl trivial rfl ⟨?_, rfl⟩
        rw [decide_eq_false (fun e => he (by subst e; rfl))]; rfl
    · refine f_r [] rfl trivial rfl ⟨?_, rfl⟩
      rw [decide_eq_true (list_ext hl fun j h1 h2 => hall j h1 h2 (by omega))]; rfl
end Go.Proofs.YtgjoloaajocafaaDoorFn
namespace Go.Proofs.YtgjoloaajocafaaDoorFn
open Go.Proofs.YtgjoloaajocafaaDoorAl Go.Proofs.Tryd
attribute [local irreducible] IntKind.wrap CodeOk OpsL OpG ACalls thn inBlk rndR cutR WkR Wk fnR DW ExtOk partsOf
theorem b9 : HasBody prog 9 := ⟨f9, func9, Option.some_ne_none _, by decide⟩
set_option maxHeartbeats 2000000 in
theorem same9_ok (a b : List NV) (ha : a.length ≤ 4000000000) (hb : b.length ≤ 4000000000) (ga : ∀ s ∈ a, s.fit) (gb : ∀ s ∈ b, s.fit) :
    ACalls prog 9 0 [.st (.sl 4 (a.map rowN)), .st (.sl 4 (b.map rowN))] [] fun r h => r = B (decide (a = b)) ∧ h = [] := by
  have hma : (List.map rowN a).length = a.length := List.length_map _
  have hmb : (List.map rowN b).length = b.length := List.length_map _
  refine fnC lay_ok func9 rfl rfl rfl rfl rfl ?_
  repeat' first | refine wr (by omega) ?_ | refine ln ?_ | refine stp lay_ok rfl ?_ | refine fin ?_ | refine n_thn ?_ | refine n_blk ?_ | refine e_thn ?_ | refine e_hit ?_ | refine e_miss rfl ?_ | refine r_thn ?_ | refine r_blk ?_ | refine e_rr ?_ | refine r_rr ?_ | refine e_cr ?_ | refine r_cr ?_ | refine .seq ?_ | refine reg ?_ | refine .block ?_ | refine .skip ?_ | refine .ret ?_ | refine .exit ?_ | refine cndT rfl ?_ | refine cndF rfl ?_ | refine c_dec rfl (fun hc => ?_) (fun hc => ?_) | refine c_ndec rfl (fun hc => ?_) (fun hc => ?_) | refine cnd rfl (fun hc => ?_) (fun hc => ?_) | refine gd rfl rfl rfl (fun hg => ?_) (fun hg => ?_) | refine gn rfl rfl rfl (fun hg => ?_) (fun hg => ?_) | refine dwr (by omega) ?_ | refine dwl ?_ | refine dws lay_ok rfl rfl rfl rfl rfl rfl rfl ?_ | refine dwu lay_ok rfl rfl rfl rfl rfl rfl rfl rfl rfl ?_ | refine dw_end ?_ | refine dw_skip rfl rfl rfl ?_ | refine dwn lay_ok rfl rfl rfl rfl rfl ?_ | refine dw_dec rfl rfl rfl (fun hg => ?_) (fun hg => ?_) | refine dw_ndec rfl rfl rfl (fun hg => ?_) (fun hg => ?_)
  · refine f_r [] rfl trivial rfl ⟨?_, rfl⟩
    rw [decide_eq_false (by rintro rfl; omega)]; rfl
  · have hl : a.length = b.length := by omega
    refine lpR (fun k => k ≤ a.length ∧ ∀ j (h1 : j < a.length) (h2 : j < b.length), j < k → a[j] = b[j]) (fun k => a.length - k) (fun k => [(5, I k)]) (fun k => []) (0) [0, 1] [] [] rfl rfl rfl (.of [] (by (repeat' first | exact trivial | refine And.intro ?_ ?_ | rfl); first | done | fail) (by (repeat' first | exact trivial | refine And.intro ?_ ?_ | rfl); first | done | fail) rfl) ?_ ?_
    · exact ⟨Nat.zero_le _, fun j h1 h2 h3 => by omega⟩
    rintro k ⟨hk, hall⟩
    refine nrm rfl rfl ?_
    repeat' first | refine wr (by omega) ?_ | refine ln ?_ | refine stp lay_ok rfl ?_ | refine fin ?_ | refine n_thn ?_ | refine n_blk ?_ | refine e_thn ?_ | refine e_hit ?_ | refine e_miss rfl ?_ | refine r_thn ?_ | refine r_blk ?_ | refine e_rr ?_ | refine r_rr ?_ | refine e_cr ?_ | refine r_cr ?_ | refine .seq ?_ | refine reg ?_ | refine .block ?_ | refine .skip ?_ | refine .ret ?_ | refine .exit ?_ | refine cndT rfl ?_ | refine cndF rfl ?_ | refine c_dec rfl (fun hc => ?_) (fun hc => ?_) | refine c_ndec rfl (fun hc => ?_) (fun hc => ?_) | refine cnd rfl (fun hc => ?_) (fun hc => ?_) | refine gd rfl rfl rfl (fun hg => ?_) (fun hg => ?_) | refine gn rfl rfl rfl (fun hg => ?_) (fun hg => ?_) | refine dwr (by omega) ?_ | refine dwl ?_ | refine dws lay_ok rfl rfl rfl rfl rfl rfl rfl ?_ | refine dwu lay_ok rfl rfl rfl rfl rfl rfl rfl rfl rfl ?_ | refine dw_end ?_ | refine dw_skip rfl rfl rfl ?_ | refine dwn lay_ok rfl rfl rfl rfl rfl ?_ | refine dw_dec rfl rfl rfl (fun hg => ?_) (fun hg => ?_) | refine dw_ndec rfl rfl rfl (fun hg => ?_) (fun hg => ?_)
    · have hka : k < a.length := by omega
      have hkb : k < b.length := by omega
      have hat : (a.map rowN)[((k : Nat) : Int).toNat]? = some (rowN a[k]) := by simp [hka]
      have hbt : (b.map rowN)[((k : Nat) : Int).toNat]? = some (rowN b[k]) := by simp [hkb]
      have f1 := ga _ (List.getElem_mem hka)
      have f2 := gb _ (List.getElem_mem hkb)
      have hs := sameAll_ok a[k].entries b[k].entries f1.2.1 f2.2.1 (fun e he => (f1.2.2 e he).2) (fun e he => (f2.2.2 e he).2)
      have hne : a[k] ≠ b[k] → a ≠ b := fun h e => h (by subst e; rfl)
      have hnx : a[k] = b[k] → ∀ j (h1 : j < a.length) (h2 : j < b.length), j < k + 1 → a[j] = b[j] := fun h j h1 h2 h3 => by
        by_cases hj : j = k
        · subst hj; exact h
        · exact hall j h1 h2 (by omega)
      generalize a[k] = x at *
      generalize b[k] = y at *
      obtain ⟨c, n, d, es⟩ := x
      obtain ⟨c', n', d', es'⟩ := y
      simp only at hs
      refine dreg [(0, [], [18, 22, 23, 24, 25, 26]), (1, [], [17, 22, 23, 24, 25, 26]), (2, [0, 1], [22, 23, 24, 25, 26]), (3, [0, 1, 2], [22, 23, 24, 25, 26]), (4, [0, 1, 2, 3], [22, 23, 24, 25, 26]), (5, [], [17, 18, 19, 20, 21, 23]), (6, [], [17, 18, 19, 20, 21, 22]), (7, [5, 6], [17, 18, 19, 20, 21]), (8, [5, 6, 7], [17, 18, 19, 20, 21]), (9, [5, 6, 7, 8], [17, 18, 19, 20, 21]), (10, [0, 1, 2, 3, 4, 5, 6, 7, 8, 9], []), (11, [0, 1, 2, 3, 4, 5, 6, 7, 8, 9, 10], []), (12, [0, 1, 2, 3, 4, 5, 6, 7, 8, 9, 10, 11], [30, 34, 35, 36, 37, 38]), (13, [0, 1, 2, 3, 4, 5, 6, 7, 8, 9, 10, 11], [29, 34, 35, 36, 37, 38]), (14, [0, 1, 2, 3, 4, 5, 6, 7, 8, 9, 10, 11, 12, 13], [34, 35, 36, 37, 38]), (15, [0, 1, 2, 3, 4, 5, 6, 7, 8, 9, 10, 11, 12, 13, 14], [34, 35, 36, 37, 38]), (16, [0, 1, 2, 3, 4, 5, 6, 7, 8, 9, 10, 11, 12, 13, 14, 15], [34, 35, 36, 37, 38]), (17, [0, 1, 2, 3, 4, 5, 6, 7, 8, 9, 10, 11], [29, 30, 31, 32, 33, 35]), (18, [0, 1, 2, 3, 4, 5, 6, 7, 8, 9, 10, 11], [29, 30, 31, 32, 33, 34]), (19, [0, 1, 2, 3, 4, 5, 6, 7, 8, 9, 10, 11, 17, 18], [29, 30, 31, 32, 33]), (20, [0, 1, 2, 3, 4, 5, 6, 7, 8, 9, 10, 11, 17, 18, 19], [29, 30, 31, 32, 33]), (21, [0, 1, 2, 3, 4, 5, 6, 7, 8, 9, 10, 11, 17, 18, 19, 20], [29, 30, 31, 32, 33]), (22, [0, 1, 2, 3, 4, 5, 6, 7, 8, 9, 10, 11, 12, 13, 14, 15, 16, 17, 18, 19, 20, 21], []), (23, [0, 1, 2, 3, 4, 5, 6, 7, 8, 9, 10, 11, 12, 13, 14, 15, 16, 17, 18, 19, 20, 21, 22], []), (24, [0, 1, 2, 3, 4, 5, 6, 7, 8, 9, 10, 11, 12, 13, 14, 15, 16, 17, 18, 19, 20, 21, 22, 23], []), (25, [0, 1, 2, 3, 4, 5, 6, 7, 8, 9, 10, 11, 12, 13, 14, 15, 16, 17, 18, 19, 20, 21, 22, 23, 24], [43, 47, 48, 49, 50, 51]), (26, [0, 1, 2, 3, 4, 5, 6, 7, 8, 9, 10, 11, 12, 13, 14, 15, 16, 17, 18, 19, 20, 21, 22, 23, 24], [42, 47, 48, 49, 50, 51]), (27, [0, 1, 2, 3, 4, 5, 6, 7, 8, 9, 10, 11, 12, 13, 14, 15, 16, 17, 18, 19, 20, 21, 22, 23, 24, 25, 26], [47, 48, 49, 50, 51]), (28, [0, 1, 2, 3, 4, 5, 6, 7, 8, 9, 10, 11, 12, 13, 14, 15, 16, 17, 18, 19, 20, 21, 22, 23, 24, 25, 26, 27], [47, 48, 49, 50, 51]), (29, [0, 1, 2, 3, 4, 5, 6, 7, 8, 9, 10, 11, 12, 13, 14, 15, 16, 17, 18, 19, 20, 21, 22, 23, 24, 25, 26, 27, 28], [47, 48, 49, 50, 51]), (30, [0, 1, 2, 3, 4, 5, 6, 7, 8, 9, 10, 11, 12, 13, 14, 15, 16, 17, 18, 19, 20, 21, 22, 23, 24], [42, 43, 44, 45, 46, 48]), (31, [0, 1, 2, 3, 4, 5, 6, 7, 8, 9, 10, 11, 12, 13, 14, 15, 16, 17, 18, 19, 20, 21, 22, 23, 24], [42, 43, 44, 45, 46, 47]), (32, [0, 1, 2, 3, 4, 5, 6, 7, 8, 9, 10, 11, 12, 13, 14, 15, 16, 17, 18, 19, 20, 21, 22, 23, 24, 30, 31], [42, 43, 44, 45, 46]), (33, [0, 1, 2, 3, 4, 5, 6, 7, 8, 9, 10, 11, 12, 13, 14, 15, 16, 17, 18, 19, 20, 21, 22, 23, 24, 30, 31, 32], [42, 43, 44, 45, 46]), (34, [0, 1, 2, 3, 4, 5, 6, 7, 8, 9, 10, 11, 12, 13, 14, 15, 16, 17, 18, 19, 20, 21, 22, 23, 24, 30, 31, 32, 33], [42, 43, 44, 45, 46]), (35, [0, 1, 2, 3, 4, 5, 6, 7, 8, 9, 10, 11, 12, 13, 14, 15, 16, 17, 18, 19, 20, 21, 22, 23, 24, 25, 26, 27, 28, 29, 30, 31, 32, 33, 34], []), (36, [0, 1, 2, 3, 4, 5, 6, 7, 8, 9, 10, 11, 12, 13, 14, 15, 16, 17, 18, 19, 20, 21, 22, 23, 24, 25, 26, 27, 28, 29, 30, 31, 32, 33, 34, 35], []), (37, [0, 1, 2, 3, 4, 5, 6, 7, 8, 9, 10, 11, 12, 13, 14, 15, 16, 17, 18, 19, 20, 21, 22, 23, 24, 25, 26, 27, 28, 29, 30, 31, 32, 33, 34, 35, 36], []), (38, [0, 1, 2, 3, 4, 5, 6, 7, 8, 9, 10, 11, 12, 13, 14, 15, 16, 17, 18, 19, 20, 21, 22, 23, 24, 25, 26, 27, 28, 29, 30, 31, 32, 33, 34, 35, 36, 37], [56, 60, 61, 62, 63, 64]), (39, [0, 1, 2, 3, 4, 5, 6, 7, 8, 9, 10, 11, 12, 13, 14, 15, 16, 17, 18, 19, 20, 21, 22, 23, 24, 25, 26, 27, 28, 29, 30, 31, 32, 33, 34, 35, 36, 37], [55, 60, 61, 62, 63, 64]), (40, [0, 1, 2, 3, 4, 5, 6, 7, 8, 9, 10, 11, 12, 13, 14, 15, 16, 17, 18, 19, 20, 21, 22, 23, 24, 25, 26, 27, 28, 29, 30, 31, 32, 33, 34, 35, 36, 37, 38, 39], [60, 61, 62, 63, 64]), (41, [0, 1, 2, 3, 4, 5, 6, 7, 8, 9, 10, 11, 12, 13, 14, 15, 16, 17, 18, 19, 20, 21, 22, 23, 24, 25, 26, 27, 28, 29, 30, 31, 32, 33, 34, 35, 36, 37, 38, 39, 40], [60, 61, 62, 63, 64]), (42, [0, 1, 2, 3, 4, 5, 6, 7, 8, 9, 10, 11, 12, 13, 14, 15, 16, 17, 18, 19, 20, 21, 22, 23, 24, 25, 26, 27, 28, 29, 30, 31, 32, 33, 34, 35, 36, 37, 38, 39, 40, 41], [60, 61, 62, 63, 64]), (43, [0, 1, 2, 3, 4, 5, 6, 7, 8, 9, 10, 11, 12, 13, 14, 15, 16, 17, 18, 19, 20, 21, 22, 23, 24, 25, 26, 27, 28, 29, 30, 31, 32, 33, 34, 35, 36, 37], [55, 56, 57, 58, 59, 61]), (44, [0, 1, 2, 3, 4, 5, 6, 7, 8, 9, 10, 11, 12, 13, 14, 15, 16, 17, 18, 19, 20, 21, 22, 23, 24, 25, 26, 27, 28, 29, 30, 31, 32, 33, 34, 35, 36, 37], [55, 56, 57, 58, 59, 60]), (45, [0, 1, 2, 3, 4, 5, 6, 7, 8, 9, 10, 11, 12, 13, 14, 15, 16, 17, 18, 19, 20, 21, 22, 23, 24, 25, 26, 27, 28, 29, 30, 31, 32, 33, 34, 35, 36, 37, 43, 44], [55, 56, 57, 58, 59]), (46, [0, 1, 2, 3, 4, 5, 6, 7, 8, 9, 10, 11, 12, 13, 14, 15, 16, 17, 18, 19, 20, 21, 22, 23, 24, 25, 26, 27, 28, 29, 30, 31, 32, 33, 34, 35, 36, 37, 43, 44, 45], [55, 56, 57, 58, 59]), (47, [0, 1, 2, 3, 4, 5, 6, 7, 8, 9, 10, 11, 12, 13, 14, 15, 16, 17, 18, 19, 20, 21, 22, 23, 24, 25, 26, 27, 28, 29, 30, 31, 32, 33, 34, 35, 36, 37, 43, 44, 45, 46], [55, 56, 57, 58, 59]), (48, [0, 1, 2, 3, 4, 5, 6, 7, 8, 9, 10, 11, 12, 13, 14, 15, 16, 17, 18, 19, 20, 21, 22, 23, 24, 25, 26, 27, 28, 29, 30, 31, 32, 33, 34, 35, 36, 37, 38, 39, 40, 41, 42, 43, 44, 45, 46, 47], []), (49, [0, 1, 2, 3, 4, 5, 6, 7, 8, 9, 10, 11, 12, 13, 14, 15, 16, 17, 18, 19, 20, 21, 22, 23, 24, 25, 26, 27, 28, 29, 30, 31, 32, 33, 34, 35, 36, 37, 38, 39, 40, 41, 42, 43, 44, 45, 46, 47, 48], []), (50, [0, 1, 2, 3, 4, 5, 6, 7, 8, 9, 10, 11, 12, 13, 14, 15, 16, 17, 18, 19, 20, 21, 22, 23, 24, 25, 26, 27, 28, 29, 30, 31, 32, 33, 34, 35, 36, 37, 38, 39, 40, 41, 42, 43, 44, 45, 46, 47, 48, 49], [])] mixed (by kernel_rfl) ?_
      repeat' first | refine wr (by omega) ?_ | refine ln ?_ | refine stp lay_ok rfl ?_ | refine fin ?_ | refine n_thn ?_ | refine n_blk ?_ | refine e_thn ?_ | refine e_hit ?_ | refine e_miss rfl ?_ | refine r_thn ?_ | refine r_blk ?_ | refine e_rr ?_ | refine r_rr ?_ | refine e_cr ?_ | refine r_cr ?_ | refine .seq ?_ | refine reg ?_ | refine .block ?_ | refine .skip ?_ | refine .ret ?_ | refine .exit ?_ | refine cndT rfl ?_ | refine cndF rfl ?_ | refine c_dec rfl (fun hc => ?_) (fun hc => ?_) | refine c_ndec rfl (fun hc => ?_) (fun hc => ?_) | refine cnd rfl (fun hc => ?_) (fun hc => ?_) | ((first | refine o_none rfl ?_ | refine o_none_ ?_ | refine o_yes rfl rfl rfl ?_ | refine o_yes_ rfl rfl ?_); first | refine st_index (rowN ⟨c, n, d, es⟩) lay_ok rfl rfl rfl rfl (by omega) hat ?_ | refine st_index (rowN ⟨c', n', d', es'⟩) lay_ok rfl rfl rfl rfl (by omega) hbt ?_ | refine st_pure (hs) b24 rfl rfl rfl rfl ?_) | refine gd rfl rfl rfl (fun hg => ?_) (fun hg => ?_) | refine gn rfl rfl rfl (fun hg => ?_) (fun hg => ?_) | refine dwr (by omega) ?_ | refine dwl ?_ | refine dws lay_ok rfl rfl rfl rfl rfl rfl rfl ?_ | refine dwu lay_ok rfl rfl rfl rfl rfl rfl rfl rfl rfl ?_ | refine dw_end ?_ | refine dw_skip rfl rfl rfl ?_ | refine dwn lay_ok rfl rfl rfl rfl rfl ?_ | refine dwb rfl rfl rfl rfl rfl (by (first | refine st_index (rowN ⟨c, n, d, es⟩) lay_ok rfl rfl rfl rfl (by omega) hat ?_ | refine st_index (rowN ⟨c', n', d', es'⟩) lay_ok rfl rfl rfl rfl (by omega) hbt ?_ | refine st_pure (hs) b24 rfl rfl rfl rfl ?_); exact fin rfl) rfl rfl ?_ | refine dwg rfl rfl rfl rfl rfl (by (first | refine st_index (rowN ⟨c, n, d, es⟩) lay_ok rfl rfl rfl rfl (by omega) hat ?_ | refine st_index (rowN ⟨c', n', d', es'⟩) lay_ok rfl rfl rfl rfl (by omega) hbt ?_ | refine st_pure (hs) b24 rfl rfl rfl rfl ?_); exact fin rfl) rfl rfl rfl rfl rfl ?_ | refine dw_dec rfl rfl rfl (fun hg => ?_) (fun hg => ?_) | refine dw_ndec rfl rfl rfl (fun hg => ?_) (fun hg => ?_)
      all_goals first
        | (refine f_r [] rfl trivial rfl ⟨?_, rfl⟩; rw [decide_eq_false (hne (by simp_all))]; rfl)
        | (refine n_rr (k + 1) ?_ (.of [] (by (repeat' first | exact trivial | refine And.intro ?_ ?_ | rfl); first | done | fail) (by (repeat' first | exact trivial | refine And.intro ?_ ?_ | rfl); first | done | fail) rfl) ?_
           · show a.length - (k + 1) < a.length - k; omega
           · exact ⟨by omega, hnx (by simp_all)⟩)
        | skip
    · refine f_r [] rfl trivial rfl ⟨?_, rfl⟩
      rw [decide_eq_true (list_ext hl fun j h1 h2 => hall j h1 h2 (by omega))]; rfl
end Go.Proofs.YtgjoloaajocafaaDoorFn
namespace Go.Proofs.YtgjoloaajocafaaDoorFn
open Go.Proofs.YtgjoloaajocafaaDoorAl Go.Proofs.Tryd
attribute [local irreducible] IntKind.wrap CodeOk OpsL OpG ACalls thn inBlk rndR cutR WkR Wk fnR DW ExtOk partsOf
theorem b40 : HasBody prog 40 := ⟨f40, func40, Option.some_ne_none _, by decide⟩
theorem b41 : HasBody prog 41 := ⟨f41, func41, Option.some_ne_none _, by decide⟩
theorem b27 : HasBody prog 27 := ⟨f27, func27, Option.some_ne_none _, by decide⟩
theorem get_some {s : ByteArray} {p : Nat} (h : p < s.size) : s[p]? = some (s.get! p) := by
  rw [getElem?_pos s p h]; congr 1
  show s.get p h = s.get! p
  simp only [ByteArray.get, ByteArray.get!]
  exact (getElem!_pos s.data p h).symm
/-- The bytes behind the first one of a character. -/
def wLoop (s : ByteArray) (p : Nat) : Nat → Nat → Int → Option Int
  | 0, _, v => some v
  | f + 1, i, v => if (s.get! (p + i)).toNat < 128 ∨ 191 < (s.get! (p + i)).toNat then none else wLoop s p f (i + 1) (v * 64 + (s.get! (p + i)).toNat - 128)
def wEnd (s : ByteArray) (p n least : Nat) (v : Int) : Nat :=
  if s.size < p + n then 0 else match wLoop s p (n - 1) 1 v with
    | none => 0
    | some v => if v < (least : Int) ∨ 1114111 < v ∨ (55296 ≤ v ∧ v ≤ 57343) ∨ v = 65533 then 0 else n
def widthR (s : ByteArray) (p : Nat) : Nat :=
  if (s.get! p).toNat < 128 then 1
  else if 192 ≤ (s.get! p).toNat ∧ (s.get! p).toNat < 224 then wEnd s p 2 128 (((s.get! p).toNat : Int) - 192)
  else if 224 ≤ (s.get! p).toNat ∧ (s.get! p).toNat < 240 then wEnd s p 3 2048 (((s.get! p).toNat : Int) - 224)
  else if 240 ≤ (s.get! p).toNat ∧ (s.get! p).toNat < 248 then wEnd s p 4 65536 (((s.get! p).toNat : Int) - 240)
  else 0
set_option maxHeartbeats 4000000 in
set_option maxRecDepth 4000 in
theorem width_ok (s : ByteArray) (p : Nat) (hs : s.size ≤ 4000000000) (hp : p < s.size) : ACalls prog 40 0 [Sx s, I p] [] fun r h => r = I (widthR s p) ∧ h = [] := by
  have ha := get_some hp
  have hla := (s.get! p).toNat_lt
  have hw : widthR s p = if (s.get! p).toNat < 128 then 1
    else if 192 ≤ (s.get! p).toNat ∧ (s.get! p).toNat < 224 then wEnd s p 2 128 (((s.get! p).toNat : Int) - 192)
    else if 224 ≤ (s.get! p).toNat ∧ (s.get! p).toNat < 240 then wEnd s p 3 2048 (((s.get! p).toNat : Int) - 224)
    else if 240 ≤ (s.get! p).toNat ∧ (s.get! p).toNat < 248 then wEnd s p 4 65536 (((s.get! p).toNat : Int) - 240)
    else 0 := rfl
  generalize widthR s p = W at *
  generalize s.get! p = a at *
  refine fnC lay_ok func40 rfl rfl rfl rfl rfl ?_
  by_cases h1 : a.toNat < 128
  · rw [if_pos h1] at hw
    repeat' first | refine wr (by omega) ?_ | refine ln ?_ | refine stp lay_ok rfl ?_ | refine fin ?_ | refine n_thn ?_ | refine n_blk ?_ | refine e_thn ?_ | refine e_hit ?_ | refine e_miss rfl ?_ | refine r_thn ?_ | refine r_blk ?_ | refine e_rr ?_ | refine r_rr ?_ | refine e_cr ?_ | refine r_cr ?_ | refine .seq ?_ | refine reg ?_ | refine .block ?_ | refine .skip ?_ | refine .ret ?_ | refine .exit ?_ | refine cndT rfl ?_ | refine cndF rfl ?_ | refine c_dec rfl (fun hc => ?_) (fun hc => ?_) | refine c_ndec rfl (fun hc => ?_) (fun hc => ?_) | refine cnd rfl (fun hc => ?_) (fun hc => ?_) | ((first | refine o_none rfl ?_ | refine o_none_ ?_ | refine o_yes rfl rfl rfl ?_ | refine o_yes_ rfl rfl ?_); first | refine st_indexStr a lay_ok rfl rfl rfl rfl (by omega) ha ?_) | refine gd rfl rfl rfl (fun hg => ?_) (fun hg => ?_) | refine gn rfl rfl rfl (fun hg => ?_) (fun hg => ?_)
    all_goals first
      | (exfalso; omega)
      | (refine f_r [] rfl trivial rfl ⟨?_, rfl⟩; rw [hw]; rfl)
  rw [if_neg h1] at hw
  by_cases h2 : 192 ≤ a.toNat ∧ a.toNat < 224
  · rw [if_pos h2] at hw
    repeat' first | refine wr (by omega) ?_ | refine ln ?_ | refine stp lay_ok rfl ?_ | refine fin ?_ | refine n_thn ?_ | refine n_blk ?_ | refine e_thn ?_ | refine e_hit ?_ | refine e_miss rfl ?_ | refine r_thn ?_ | refine r_blk ?_ | refine e_rr ?_ | refine r_rr ?_ | refine e_cr ?_ | refine r_cr ?_ | refine .seq ?_ | refine reg ?_ | refine .block ?_ | refine .skip ?_ | refine .ret ?_ | refine .exit ?_ | refine cndT rfl ?_ | refine cndF rfl ?_ | refine c_dec rfl (fun hc => ?_) (fun hc => ?_) | refine c_ndec rfl (fun hc => ?_) (fun hc => ?_) | refine cnd rfl (fun hc => ?_) (fun hc => ?_) | ((first | refine o_none rfl ?_ | refine o_none_ ?_ | refine o_yes rfl rfl rfl ?_ | refine o_yes_ rfl rfl ?_); first | refine st_indexStr a lay_ok rfl rfl rfl rfl (by omega) ha ?_) | refine gd rfl rfl rfl (fun hg => ?_) (fun hg => ?_) | refine gn rfl rfl rfl (fun hg => ?_) (fun hg => ?_)
    all_goals first
      | (exfalso; omega)
      | (refine f_r [] rfl trivial rfl ⟨?_, rfl⟩; rw [hw, wEnd, if_pos (by omega)]; rfl)
      | skip
    have hsz : ¬ s.size < p + 2 := by omega
    rw [wEnd, if_neg hsz] at hw
    generalize hK : wLoop s p (2 - 1) 1 ((a.toNat : Int) - 192) = K at hw
    refine lpR (fun (i, v) => K = wLoop s p (2 - i) i v ∧ (i = 1 ∧ v < 32 ∨ i = 2 ∧ v < 2048 ∨ i = 3 ∧ v < 131072 ∨ i = 4 ∧ v < 8388608) ∧ 0 ≤ v ∧ i ≤ 2) (fun (i, v) => 2 - i) (fun (i, v) => [(9, I i), (8, .st (.int .i64 v))]) (fun (i, v) => []) ((1, (a.toNat : Int) - 192)) [0, 1, 6, 7] [] [] rfl rfl rfl (.of [] (by (repeat' first | exact trivial | refine And.intro ?_ ?_ | rfl); first | done | fail) (by (repeat' first | exact trivial | refine And.intro ?_ ?_ | rfl); first | done | fail) rfl) ?_ ?_
    · exact ⟨hK.symm, by omega, by omega, by decide⟩
    rintro ⟨i, v⟩ ⟨g1, g2, g3, g4⟩
    refine nrm rfl rfl ?_
    rw [g1] at hw
    by_cases hi : i < 2
    · have hx := get_some (show p + i < s.size by omega)
      have hxl := (s.get! (p + i)).toNat_lt
      have hx' : s[((p : Int) + (i : Int)).toNat]? = some (s.get! (p + i)) := by rw [← hx]; congr 1
      rw [show 2 - i = (2 - (i + 1)) + 1 by omega, wLoop] at hw
      have hws := g1
      rw [show 2 - i = (2 - (i + 1)) + 1 by omega, wLoop] at hws
      generalize s.get! (p + i) = x at *
      by_cases hxx : x.toNat < 128 ∨ 191 < x.toNat
      · rw [if_pos hxx] at hw
        repeat' first | refine wr (by omega) ?_ | refine ln ?_ | refine stp lay_ok rfl ?_ | refine fin ?_ | refine n_thn ?_ | refine n_blk ?_ | refine e_thn ?_ | refine e_hit ?_ | refine e_miss rfl ?_ | refine r_thn ?_ | refine r_blk ?_ | refine e_rr ?_ | refine r_rr ?_ | refine e_cr ?_ | refine r_cr ?_ | refine .seq ?_ | refine reg ?_ | refine .block ?_ | refine .skip ?_ | refine .ret ?_ | refine .exit ?_ | refine cndT rfl ?_ | refine cndF rfl ?_ | refine c_dec rfl (fun hc => ?_) (fun hc => ?_) | refine c_ndec rfl (fun hc => ?_) (fun hc => ?_) | refine cnd rfl (fun hc => ?_) (fun hc => ?_) | ((first | refine o_none rfl ?_ | refine o_none_ ?_ | refine o_yes rfl rfl rfl ?_ | refine o_yes_ rfl rfl ?_); first | refine st_indexStr x lay_ok rfl rfl rfl rfl (by omega) hx' ?_) | refine gd rfl rfl rfl (fun hg => ?_) (fun hg => ?_) | refine gn rfl rfl rfl (fun hg => ?_) (fun hg => ?_)
        all_goals first
          | (exfalso; omega)
          | (refine f_r [] rfl trivial rfl ⟨?_, rfl⟩; rw [hw]; rfl)
      · rw [if_neg hxx] at hw hws
        repeat' first | refine wr (by omega) ?_ | refine ln ?_ | refine stp lay_ok rfl ?_ | refine fin ?_ | refine n_thn ?_ | refine n_blk ?_ | refine e_thn ?_ | refine e_hit ?_ | refine e_miss rfl ?_ | refine r_thn ?_ | refine r_blk ?_ | refine e_rr ?_ | refine r_rr ?_ | refine e_cr ?_ | refine r_cr ?_ | refine .seq ?_ | refine reg ?_ | refine .block ?_ | refine .skip ?_ | refine .ret ?_ | refine .exit ?_ | refine cndT rfl ?_ | refine cndF rfl ?_ | refine c_dec rfl (fun hc => ?_) (fun hc => ?_) | refine c_ndec rfl (fun hc => ?_) (fun hc => ?_) | refine cnd rfl (fun hc => ?_) (fun hc => ?_) | ((first | refine o_none rfl ?_ | refine o_none_ ?_ | refine o_yes rfl rfl rfl ?_ | refine o_yes_ rfl rfl ?_); first | refine st_indexStr x lay_ok rfl rfl rfl rfl (by omega) hx' ?_) | refine gd rfl rfl rfl (fun hg => ?_) (fun hg => ?_) | refine gn rfl rfl rfl (fun hg => ?_) (fun hg => ?_)
        all_goals first
          | (exfalso; omega)
          | skip
        refine n_rr ((i + 1, v * 64 + (x.toNat : Int) - 128)) ?_ (.of [] (by (repeat' first | exact trivial | refine And.intro ?_ ?_ | rfl); first | done | fail) (by (repeat' first | exact trivial | refine And.intro ?_ ?_ | rfl); first | done | fail) rfl) ?_
        · show 2 - (i + 1) < 2 - i; omega
        · exact ⟨hws, by omega, by omega, by omega⟩
    · have hi' : i = 2 := by omega
      subst hi'
      rw [Nat.sub_self, wLoop] at hw
      simp only at hw
      by_cases hv : v < ((128 : Nat) : Int) ∨ 1114111 < v ∨ (55296 ≤ v ∧ v ≤ 57343) ∨ v = 65533
      · rw [if_pos hv] at hw
        repeat' first | refine wr (by omega) ?_ | refine ln ?_ | refine stp lay_ok rfl ?_ | refine fin ?_ | refine n_thn ?_ | refine n_blk ?_ | refine e_thn ?_ | refine e_hit ?_ | refine e_miss rfl ?_ | refine r_thn ?_ | refine r_blk ?_ | refine e_rr ?_ | refine r_rr ?_ | refine e_cr ?_ | refine r_cr ?_ | refine .seq ?_ | refine reg ?_ | refine .block ?_ | refine .skip ?_ | refine .ret ?_ | refine .exit ?_ | refine cndT rfl ?_ | refine cndF rfl ?_ | refine c_dec rfl (fun hc => ?_) (fun hc => ?_) | refine c_ndec rfl (fun hc => ?_) (fun hc => ?_) | refine cnd rfl (fun hc => ?_) (fun hc => ?_) | refine gd rfl rfl rfl (fun hg => ?_) (fun hg => ?_) | refine gn rfl rfl rfl (fun hg => ?_) (fun hg => ?_)
        all_goals first
          | (exfalso; omega)
          | (refine f_r [] rfl trivial rfl ⟨?_, rfl⟩; rw [hw]; rfl)
      · rw [if_neg hv] at hw
        repeat' first | refine wr (by omega) ?_ | refine ln ?_ | refine stp lay_ok rfl ?_ | refine fin ?_ | refine n_thn ?_ | refine n_blk ?_ | refine e_thn ?_ | refine e_hit ?_ | refine e_miss rfl ?_ | refine r_thn ?_ | refine r_blk ?_ | refine e_rr ?_ | refine r_rr ?_ | refine e_cr ?_ | refine r_cr ?_ | refine .seq ?_ | refine reg ?_ | refine .block ?_ | refine .skip ?_ | refine .ret ?_ | refine .exit ?_ | refine cndT rfl ?_ | refine cndF rfl ?_ | refine c_dec rfl (fun hc => ?_) (fun hc => ?_) | refine c_ndec rfl (fun hc => ?_) (fun hc => ?_) | refine cnd rfl (fun hc => ?_) (fun hc => ?_) | refine gd rfl rfl rfl (fun hg => ?_) (fun hg => ?_) | refine gn rfl rfl rfl (fun hg => ?_) (fun hg => ?_)
        all_goals first
          | (exfalso; omega)
          | (refine f_r [] rfl trivial rfl ⟨?_, rfl⟩; rw [hw]; rfl)
  rw [if_neg h2] at hw
  by_cases h3 : 224 ≤ a.toNat ∧ a.toNat < 240
  · rw [if_pos h3] at hw
    repeat' first | refine wr (by omega) ?_ | refine ln ?_ | refine stp lay_ok rfl ?_ | refine fin ?_ | refine n_thn ?_ | refine n_blk ?_ | refine e_thn ?_ | refine e_hit ?_ | refine e_miss rfl ?_ | refine r_thn ?_ | refine r_blk ?_ | refine e_rr ?_ | refine r_rr ?_ | refine e_cr ?_ | refine r_cr ?_ | refine .seq ?_ | refine reg ?_ | refine .block ?_ | refine .skip ?_ | refine .ret ?_ | refine .exit ?_ | refine cndT rfl ?_ | refine cndF rfl ?_ | refine c_dec rfl (fun hc => ?_) (fun hc => ?_) | refine c_ndec rfl (fun hc => ?_) (fun hc => ?_) | refine cnd rfl (fun hc => ?_) (fun hc => ?_) | ((first | refine o_none rfl ?_ | refine o_none_ ?_ | refine o_yes rfl rfl rfl ?_ | refine o_yes_ rfl rfl ?_); first | refine st_indexStr a lay_ok rfl rfl rfl rfl (by omega) ha ?_) | refine gd rfl rfl rfl (fun hg => ?_) (fun hg => ?_) | refine gn rfl rfl rfl (fun hg => ?_) (fun hg => ?_)
    all_goals first
      | (exfalso; omega)
      | (refine f_r [] rfl trivial rfl ⟨?_, rfl⟩; rw [hw, wEnd, if_pos (by omega)]; rfl)
      | skip
    have hsz : ¬ s.size < p + 3 := by omega
    rw [wEnd, if_neg hsz] at hw
    generalize hK : wLoop s p (3 - 1) 1 ((a.toNat : Int) - 224) = K at hw
    refine lpR (fun (i, v) => K = wLoop s p (3 - i) i v ∧ (i = 1 ∧ v < 32 ∨ i = 2 ∧ v < 2048 ∨ i = 3 ∧ v < 131072 ∨ i = 4 ∧ v < 8388608) ∧ 0 ≤ v ∧ i ≤ 3) (fun (i, v) => 3 - i) (fun (i, v) => [(9, I i), (8, .st (.int .i64 v))]) (fun (i, v) => []) ((1, (a.toNat : Int) - 224)) [0, 1, 6, 7] [] [] rfl rfl rfl (.of [] (by (repeat' first | exact trivial | refine And.intro ?_ ?_ | rfl); first | done | fail) (by (repeat' first | exact trivial | refine And.intro ?_ ?_ | rfl); first | done | fail) rfl) ?_ ?_
    · exact ⟨hK.symm, by omega, by omega, by decide⟩
    rintro ⟨i, v⟩ ⟨g1, g2, g3, g4⟩
    refine nrm rfl rfl ?_
    rw [g1] at hw
    by_cases hi : i < 3
    · have hx := get_some (show p + i < s.size by omega)
      have hxl := (s.get! (p + i)).toNat_lt
      have hx' : s[((p : Int) + (i : Int)).toNat]? = some (s.get! (p + i)) := by rw [← hx]; congr 1
      rw [show 3 - i = (3 - (i + 1)) + 1 by omega, wLoop] at hw
      have hws := g1
      rw [show 3 - i = (3 - (i + 1)) + 1 by omega, wLoop] at hws
      generalize s.get! (p + i) = x at *
      by_cases hxx : x.toNat < 128 ∨ 191 < x.toNat
      · rw [if_pos hxx] at hw
        repeat' first | refine wr (by omega) ?_ | refine ln ?_ | refine stp lay_ok rfl ?_ | refine fin ?_ | refine n_thn ?_ | refine n_blk ?_ | refine e_thn ?_ | refine e_hit ?_ | refine e_miss rfl ?_ | refine r_thn ?_ | refine r_blk ?_ | refine e_rr ?_ | refine r_rr ?_ | refine e_cr ?_ | refine r_cr ?_ | refine .seq ?_ | refine reg ?_ | refine .block ?_ | refine .skip ?_ | refine .ret ?_ | refine .exit ?_ | refine cndT rfl ?_ | refine cndF rfl ?_ | refine c_dec rfl (fun hc => ?_) (fun hc => ?_) | refine c_ndec rfl (fun hc => ?_) (fun hc => ?_) | refine cnd rfl (fun hc => ?_) (fun hc => ?_) | ((first | refine o_none rfl ?_ | refine o_none_ ?_ | refine o_yes rfl rfl rfl ?_ | refine o_yes_ rfl rfl ?_); first | refine st_indexStr x lay_ok rfl rfl rfl rfl (by omega) hx' ?_) | refine gd rfl rfl rfl (fun hg => ?_) (fun hg => ?_) | refine gn rfl rfl rfl (fun hg => ?_) (fun hg => ?_)
        all_goals first
          | (exfalso; omega)
          | (refine f_r [] rfl trivial rfl ⟨?_, rfl⟩; rw [hw]; rfl)
      · rw [if_neg hxx] at hw hws
        repeat' first | refine wr (by omega) ?_ | refine ln ?_ | refine stp lay_ok rfl ?_ | refine fin ?_ | refine n_thn ?_ | refine n_blk ?_ | refine e_thn ?_ | refine e_hit ?_ | refine e_miss rfl ?_ | refine r_thn ?_ | refine r_blk ?_ | refine e_rr ?_ | refine r_rr ?_ | refine e_cr ?_ | refine r_cr ?_ | refine .seq ?_ | refine reg ?_ | refine .block ?_ | refine .skip ?_ | refine .ret ?_ | refine .exit ?_ | refine cndT rfl ?_ | refine cndF rfl ?_ | refine c_dec rfl (fun hc => ?_) (fun hc => ?_) | refine c_ndec rfl (fun hc => ?_) (fun hc => ?_) | refine cnd rfl (fun hc => ?_) (fun hc => ?_) | ((first | refine o_none rfl ?_ | refine o_none_ ?_ | refine o_yes rfl rfl rfl ?_ | refine o_yes_ rfl rfl ?_); first | refine st_indexStr x lay_ok rfl rfl rfl rfl (by omega) hx' ?_) | refine gd rfl rfl rfl (fun hg => ?_) (fun hg => ?_) | refine gn rfl rfl rfl (fun hg => ?_) (fun hg => ?_)
        all_goals first
          | (exfalso; omega)
          | skip
        refine n_rr ((i + 1, v * 64 + (x.toNat : Int) - 128)) ?_ (.of [] (by (repeat' first | exact trivial | refine And.intro ?_ ?_ | rfl); first | done | fail) (by (repeat' first | exact trivial | refine And.intro ?_ ?_ | rfl); first | done | fail) rfl) ?_
        · show 3 - (i + 1) < 3 - i; omega
        · exact ⟨hws, by omega, by omega, by omega⟩
    · have hi' : i = 3 := by omega
      subst hi'
      rw [Nat.sub_self, wLoop] at hw
      simp only at hw
      by_cases hv : v < ((2048 : Nat) : Int) ∨ 1114111 < v ∨ (55296 ≤ v ∧ v ≤ 57343) ∨ v = 65533
      · rw [if_pos hv] at hw
        repeat' first | refine wr (by omega) ?_ | refine ln ?_ | refine stp lay_ok rfl ?_ | refine fin ?_ | refine n_thn ?_ | refine n_blk ?_ | refine e_thn ?_ | refine e_hit ?_ | refine e_miss rfl ?_ | refine r_thn ?_ | refine r_blk ?_ | refine e_rr ?_ | refine r_rr ?_ | refine e_cr ?_ | refine r_cr ?_ | refine .seq ?_ | refine reg ?_ | refine .block ?_ | refine .skip ?_ | refine .ret ?_ | refine .exit ?_ | refine cndT rfl ?_ | refine cndF rfl ?_ | refine c_dec rfl (fun hc => ?_) (fun hc => ?_) | refine c_ndec rfl (fun hc => ?_) (fun hc => ?_) | refine cnd rfl (fun hc => ?_) (fun hc => ?_) | refine gd rfl rfl rfl (fun hg => ?_) (fun hg => ?_) | refine gn rfl rfl rfl (fun hg => ?_) (fun hg => ?_)
        all_goals first
          | (exfalso; omega)
          | (refine f_r [] rfl trivial rfl ⟨?_, rfl⟩; rw [hw]; rfl)
      · rw [if_neg hv] at hw
        repeat' first | refine wr (by omega) ?_ | refine ln ?_ | refine stp lay_ok rfl ?_ | refine fin ?_ | refine n_thn ?_ | refine n_blk ?_ | refine e_thn ?_ | refine e_hit ?_ | refine e_miss rfl ?_ | refine r_thn ?_ | refine r_blk ?_ | refine e_rr ?_ | refine r_rr ?_ | refine e_cr ?_ | refine r_cr ?_ | refine .seq ?_ | refine reg ?_ | refine .block ?_ | refine .skip ?_ | refine .ret ?_ | refine .exit ?_ | refine cndT rfl ?_ | refine cndF rfl ?_ | refine c_dec rfl (fun hc => ?_) (fun hc => ?_) | refine c_ndec rfl (fun hc => ?_) (fun hc => ?_) | refine cnd rfl (fun hc => ?_) (fun hc => ?_) | refine gd rfl rfl rfl (fun hg => ?_) (fun hg => ?_) | refine gn rfl rfl rfl (fun hg => ?_) (fun hg => ?_)
        all_goals first
          | (exfalso; omega)
          | (refine f_r [] rfl trivial rfl ⟨?_, rfl⟩; rw [hw]; rfl)
  rw [if_neg h3] at hw
  by_cases h4 : 240 ≤ a.toNat ∧ a.toNat < 248
  · rw [if_pos h4] at hw
    repeat' first | refine wr (by omega) ?_ | refine ln ?_ | refine stp lay_ok rfl ?_ | refine fin ?_ | refine n_thn ?_ | refine n_blk ?_ | refine e_thn ?_ | refine e_hit ?_ | refine e_miss rfl ?_ | refine r_thn ?_ | refine r_blk ?_ | refine e_rr ?_ | refine r_rr ?_ | refine e_cr ?_ | refine r_cr ?_ | refine .seq ?_ | refine reg ?_ | refine .block ?_ | refine .skip ?_ | refine .ret ?_ | refine .exit ?_ | refine cndT rfl ?_ | refine cndF rfl ?_ | refine c_dec rfl (fun hc => ?_) (fun hc => ?_) | refine c_ndec rfl (fun hc => ?_) (fun hc => ?_) | refine cnd rfl (fun hc => ?_) (fun hc => ?_) | ((first | refine o_none rfl ?_ | refine o_none_ ?_ | refine o_yes rfl rfl rfl ?_ | refine o_yes_ rfl rfl ?_); first | refine st_indexStr a lay_ok rfl rfl rfl rfl (by omega) ha ?_) | refine gd rfl rfl rfl (fun hg => ?_) (fun hg => ?_) | refine gn rfl rfl rfl (fun hg => ?_) (fun hg => ?_)
    all_goals first
      | (exfalso; omega)
      | (refine f_r [] rfl trivial rfl ⟨?_, rfl⟩; rw [hw, wEnd, if_pos (by omega)]; rfl)
      | skip
    have hsz : ¬ s.size < p + 4 := by omega
    rw [wEnd, if_neg hsz] at hw
    generalize hK : wLoop s p (4 - 1) 1 ((a.toNat : Int) - 240) = K at hw
    refine lpR (fun (i, v) => K = wLoop s p (4 - i) i v ∧ (i = 1 ∧ v < 32 ∨ i = 2 ∧ v < 2048 ∨ i = 3 ∧ v < 131072 ∨ i = 4 ∧ v < 8388608) ∧ 0 ≤ v ∧ i ≤ 4) (fun (i, v) => 4 - i) (fun (i, v) => [(9, I i), (8, .st (.int .i64 v))]) (fun (i, v) => []) ((1, (a.toNat : Int) - 240)) [0, 1, 6, 7] [] [] rfl rfl rfl (.of [] (by (repeat' first | exact trivial | refine And.intro ?_ ?_ | rfl); first | done | fail) (by (repeat' first | exact trivial | refine And.intro ?_ ?_ | rfl); first | done | fail) rfl) ?_ ?_
    · exact ⟨hK.symm, by omega, by omega, by decide⟩
    rintro ⟨i, v⟩ ⟨g1, g2, g3, g4⟩
    refine nrm rfl rfl ?_
    rw [g1] at hw
    by_cases hi : i < 4
    · have hx := get_some (show p + i < s.size by omega)
      have hxl := (s.get! (p + i)).toNat_lt
      have hx' : s[((p : Int) + (i : Int)).toNat]? = some (s.get! (p + i)) := by rw [← hx]; congr 1
      rw [show 4 - i = (4 - (i + 1)) + 1 by omega, wLoop] at hw
      have hws := g1
      rw [show 4 - i = (4 - (i + 1)) + 1 by omega, wLoop] at hws
      generalize s.get! (p + i) = x at *
      by_cases hxx : x.toNat < 128 ∨ 191 < x.toNat
      · rw [if_pos hxx] at hw
        repeat' first | refine wr (by omega) ?_ | refine ln ?_ | refine stp lay_ok rfl ?_ | refine fin ?_ | refine n_thn ?_ | refine n_blk ?_ | refine e_thn ?_ | refine e_hit ?_ | refine e_miss rfl ?_ | refine r_thn ?_ | refine r_blk ?_ | refine e_rr ?_ | refine r_rr ?_ | refine e_cr ?_ | refine r_cr ?_ | refine .seq ?_ | refine reg ?_ | refine .block ?_ | refine .skip ?_ | refine .ret ?_ | refine .exit ?_ | refine cndT rfl ?_ | refine cndF rfl ?_ | refine c_dec rfl (fun hc => ?_) (fun hc => ?_) | refine c_ndec rfl (fun hc => ?_) (fun hc => ?_) | refine cnd rfl (fun hc => ?_) (fun hc => ?_) | ((first | refine o_none rfl ?_ | refine o_none_ ?_ | refine o_yes rfl rfl rfl ?_ | refine o_yes_ rfl rfl ?_); first | refine st_indexStr x lay_ok rfl rfl rfl rfl (by omega) hx' ?_) | refine gd rfl rfl rfl (fun hg => ?_) (fun hg => ?_) | refine gn rfl rfl rfl (fun hg => ?_) (fun hg => ?_)
        all_goals first
          | (exfalso; omega)
          | (refine f_r [] rfl trivial rfl ⟨?_, rfl⟩; rw [hw]; rfl)
      · rw [if_neg hxx] at hw hws
        repeat' first | refine wr (by omega) ?_ | refine ln ?_ | refine stp lay_ok rfl ?_ | refine fin ?_ | refine n_thn ?_ | refine n_blk ?_ | refine e_thn ?_ | refine e_hit ?_ | refine e_miss rfl ?_ | refine r_thn ?_ | refine r_blk ?_ | refine e_rr ?_ | refine r_rr ?_ | refine e_cr ?_ | refine r_cr ?_ | refine .seq ?_ | refine reg ?_ | refine .block ?_ | refine .skip ?_ | refine .ret ?_ | refine .exit ?_ | refine cndT rfl ?_ | refine cndF rfl ?_ | refine c_dec rfl (fun hc => ?_) (fun hc => ?_) | refine c_ndec rfl (fun hc => ?_) (fun hc => ?_) | refine cnd rfl (fun hc => ?_) (fun hc => ?_) | ((first | refine o_none rfl ?_ | refine o_none_ ?_ | refine o_yes rfl rfl rfl ?_ | refine o_yes_ rfl rfl ?_); first | refine st_indexStr x lay_ok rfl rfl rfl rfl (by omega) hx' ?_) | refine gd rfl rfl rfl (fun hg => ?_) (fun hg => ?_) | refine gn rfl rfl rfl (fun hg => ?_) (fun hg => ?_)
        all_goals first
          | (exfalso; omega)
          | skip
        refine n_rr ((i + 1, v * 64 + (x.toNat : Int) - 128)) ?_ (.of [] (by (repeat' first | exact trivial | refine And.intro ?_ ?_ | rfl); first | done | fail) (by (repeat' first | exact trivial | refine And.intro ?_ ?_ | rfl); first | done | fail) rfl) ?_
        · show 4 - (i + 1) < 4 - i; omega
        · exact ⟨hws, by omega, by omega, by omega⟩
    · have hi' : i = 4 := by omega
      subst hi'
      rw [Nat.sub_self, wLoop] at hw
      simp only at hw
      by_cases hv : v < ((65536 : Nat) : Int) ∨ 1114111 < v ∨ (55296 ≤ v ∧ v ≤ 57343) ∨ v = 65533
      · rw [if_pos hv] at hw
        repeat' first | refine wr (by omega) ?_ | refine ln ?_ | refine stp lay_ok rfl ?_ | refine fin ?_ | refine n_thn ?_ | refine n_blk ?_ | refine e_thn ?_ | refine e_hit ?_ | refine e_miss rfl ?_ | refine r_thn ?_ | refine r_blk ?_ | refine e_rr ?_ | refine r_rr ?_ | refine e_cr ?_ | refine r_cr ?_ | refine .seq ?_ | refine reg ?_ | refine .block ?_ | refine .skip ?_ | refine .ret ?_ | refine .exit ?_ | refine cndT rfl ?_ | refine cndF rfl ?_ | refine c_dec rfl (fun hc => ?_) (fun hc => ?_) | refine c_ndec rfl (fun hc => ?_) (fun hc => ?_) | refine cnd rfl (fun hc => ?_) (fun hc => ?_) | refine gd rfl rfl rfl (fun hg => ?_) (fun hg => ?_) | refine gn rfl rfl rfl (fun hg => ?_) (fun hg => ?_)
        all_goals first
          | (exfalso; omega)
          | (refine f_r [] rfl trivial rfl ⟨?_, rfl⟩; rw [hw]; rfl)
      · rw [if_neg hv] at hw
        repeat' first | refine wr (by omega) ?_ | refine ln ?_ | refine stp lay_ok rfl ?_ | refine fin ?_ | refine n_thn ?_ | refine n_blk ?_ | refine e_thn ?_ | refine e_hit ?_ | refine e_miss rfl ?_ | refine r_thn ?_ | refine r_blk ?_ | refine e_rr ?_ | refine r_rr ?_ | refine e_cr ?_ | refine r_cr ?_ | refine .seq ?_ | refine reg ?_ | refine .block ?_ | refine .skip ?_ | refine .ret ?_ | refine .exit ?_ | refine cndT rfl ?_ | refine cndF rfl ?_ | refine c_dec rfl (fun hc => ?_) (fun hc => ?_) | refine c_ndec rfl (fun hc => ?_) (fun hc => ?_) | refine cnd rfl (fun hc => ?_) (fun hc => ?_) | refine gd rfl rfl rfl (fun hg => ?_) (fun hg => ?_) | refine gn rfl rfl rfl (fun hg => ?_) (fun hg => ?_)
        all_goals first
          | (exfalso; omega)
          | (refine f_r [] rfl trivial rfl ⟨?_, rfl⟩; rw [hw]; rfl)
  rw [if_neg h4] at hw
  repeat' first | refine wr (by omega) ?_ | refine ln ?_ | refine stp lay_ok rfl ?_ | refine fin ?_ | refine n_thn ?_ | refine n_blk ?_ | refine e_thn ?_ | refine e_hit ?_ | refine e_miss rfl ?_ | refine r_thn ?_ | refine r_blk ?_ | refine e_rr ?_ | refine r_rr ?_ | refine e_cr ?_ | refine r_cr ?_ | refine .seq ?_ | refine reg ?_ | refine .block ?_ | refine .skip ?_ | refine .ret ?_ | refine .exit ?_ | refine cndT rfl ?_ | refine cndF rfl ?_ | refine c_dec rfl (fun hc => ?_) (fun hc => ?_) | refine c_ndec rfl (fun hc => ?_) (fun hc => ?_) | refine cnd rfl (fun hc => ?_) (fun hc => ?_) | ((first | refine o_none rfl ?_ | refine o_none_ ?_ | refine o_yes rfl rfl rfl ?_ | refine o_yes_ rfl rfl ?_); first | refine st_indexStr a lay_ok rfl rfl rfl rfl (by omega) ha ?_) | refine gd rfl rfl rfl (fun hg => ?_) (fun hg => ?_) | refine gn rfl rfl rfl (fun hg => ?_) (fun hg => ?_)
  all_goals first
    | (exfalso; omega)
    | (refine f_r [] rfl trivial rfl ⟨?_, rfl⟩; rw [hw]; rfl)
end Go.Proofs.YtgjoloaajocafaaDoorFn
namespace Go.Proofs.YtgjoloaajocafaaDoorFn
open Go.Proofs.YtgjoloaajocafaaDoorAl Go.Proofs.Tryd
/-! ### a character's bytes, read in two ways -/
def plainB (c : Nat) : Bool := decide (97 ≤ c ∧ c ≤ 122) || decide (48 ≤ c ∧ c ≤ 57) || decide (c = 95) || decide (c = 45) || decide (c = 46)
def okW (s : ByteArray) (p : Nat) : Bool := decide (1 < widthR s p) || (decide (widthR s p = 1) && plainB (s.get! p).toNat)
theorem mayR_hi {c : Nat} (h : 128 ≤ c) : mayR c = decide (c ≠ 65533) := by
  rw [Bool.eq_iff_iff]; simp only [mayR, Bool.or_eq_true, decide_eq_true_eq]; omega
theorem mayR_lo {c : Nat} (h : c < 128) : mayR c = plainB c := by
  rw [Bool.eq_iff_iff]; simp only [mayR, plainB, Bool.or_eq_true, decide_eq_true_eq]; omega
theorem dec_eq (s : ByteArray) (p : Nat) : Utf8.decode s p =
    if (s.get! p).toNat < 128 then ((s.get! p).toNat, 1)
    else if (s.get! p).toNat / 32 = 6 ∧ p + 1 < s.size ∧ (s.get! (p + 1)).toNat / 64 = 2 then
      if 128 ≤ ((s.get! p).toNat % 32) * 64 + (s.get! (p + 1)).toNat % 64 then (((s.get! p).toNat % 32) * 64 + (s.get! (p + 1)).toNat % 64, 2) else (65533, 1)
    else if (s.get! p).toNat / 16 = 14 ∧ (p + 1 < s.size ∧ (s.get! (p + 1)).toNat / 64 = 2) ∧ p + 2 < s.size ∧ (s.get! (p + 2)).toNat / 64 = 2 then
      if 2048 ≤ ((s.get! p).toNat % 16) * 4096 + ((s.get! (p + 1)).toNat % 64) * 64 + (s.get! (p + 2)).toNat % 64 ∧ Utf8.valid (((s.get! p).toNat % 16) * 4096 + ((s.get! (p + 1)).toNat % 64) * 64 + (s.get! (p + 2)).toNat % 64 : Nat) = true then (((s.get! p).toNat % 16) * 4096 + ((s.get! (p + 1)).toNat % 64) * 64 + (s.get! (p + 2)).toNat % 64, 3) else (65533, 1)
    else if (s.get! p).toNat / 8 = 30 ∧ (p + 1 < s.size ∧ (s.get! (p + 1)).toNat / 64 = 2) ∧ (p + 2 < s.size ∧ (s.get! (p + 2)).toNat / 64 = 2) ∧ p + 3 < s.size ∧ (s.get! (p + 3)).toNat / 64 = 2 then
      if 65536 ≤ ((s.get! p).toNat % 8) * 262144 + ((s.get! (p + 1)).toNat % 64) * 4096 + ((s.get! (p + 2)).toNat % 64) * 64 + (s.get! (p + 3)).toNat % 64 ∧ Utf8.valid (((s.get! p).toNat % 8) * 262144 + ((s.get! (p + 1)).toNat % 64) * 4096 + ((s.get! (p + 2)).toNat % 64) * 64 + (s.get! (p + 3)).toNat % 64 : Nat) = true then (((s.get! p).toNat % 8) * 262144 + ((s.get! (p + 1)).toNat % 64) * 4096 + ((s.get! (p + 2)).toNat % 64) * 64 + (s.get! (p + 3)).toNat % 64, 4) else (65533, 1)
    else (65533, 1) := by
  unfold Utf8.decode
  simp only [Bool.and_eq_true, decide_eq_true_eq, beq_iff_eq, Nat.add_zero, ge_iff_le, and_assoc]
  rfl
theorem valid_iff (c : Nat) : Utf8.valid (c : Int) = true ↔ c < 55296 ∨ (57344 ≤ c ∧ c ≤ 1114111) := by
  simp only [Utf8.valid, Bool.or_eq_true, Bool.and_eq_true, decide_eq_true_eq]; omega
theorem wid_law (s : ByteArray) (p : Nat) (hp : p < s.size) :
    (mayR (Utf8.decode s p).1 = true ∧ okW s p = true ∧ widthR s p = (Utf8.decode s p).2) ∨ (mayR (Utf8.decode s p).1 = false ∧ okW s p = false) := by
  have hd := dec_eq s p
  simp only [valid_iff] at hd
  have hw : widthR s p = if (s.get! p).toNat < 128 then 1
    else if 192 ≤ (s.get! p).toNat ∧ (s.get! p).toNat < 224 then wEnd s p 2 128 (((s.get! p).toNat : Int) - 192)
    else if 224 ≤ (s.get! p).toNat ∧ (s.get! p).toNat < 240 then wEnd s p 3 2048 (((s.get! p).toNat : Int) - 224)
    else if 240 ≤ (s.get! p).toNat ∧ (s.get! p).toNat < 248 then wEnd s p 4 65536 (((s.get! p).toNat : Int) - 240)
    else 0 := rfl
  have ho : okW s p = (decide (1 < widthR s p) || (decide (widthR s p = 1) && plainB (s.get! p).toNat)) := rfl
  have e2 : ∀ v, wEnd s p 2 128 v = if s.size < p + 2 then 0 else match wLoop s p 1 1 v with
    | none => 0
    | some v => if v < ((128 : Nat) : Int) ∨ 1114111 < v ∨ (55296 ≤ v ∧ v ≤ 57343) ∨ v = 65533 then 0 else 2 := fun v => rfl
  have e3 : ∀ v, wEnd s p 3 2048 v = if s.size < p + 3 then 0 else match wLoop s p 2 1 v with
    | none => 0
    | some v => if v < ((2048 : Nat) : Int) ∨ 1114111 < v ∨ (55296 ≤ v ∧ v ≤ 57343) ∨ v = 65533 then 0 else 3 := fun v => rfl
  have e4 : ∀ v, wEnd s p 4 65536 v = if s.size < p + 4 then 0 else match wLoop s p 3 1 v with
    | none => 0
    | some v => if v < ((65536 : Nat) : Int) ∨ 1114111 < v ∨ (55296 ≤ v ∧ v ≤ 57343) ∨ v = 65533 then 0 else 4 := fun v => rfl
  simp only [wLoop] at e2 e3 e4
  simp only [e2, e3, e4] at hw
  clear e2 e3 e4
  have b0 := (s.get! p).toNat_lt
  have b1 := (s.get! (p + 1)).toNat_lt
  have b2 := (s.get! (p + 2)).toNat_lt
  have b3 := (s.get! (p + 3)).toNat_lt
  simp only [show p + (1 + 1) = p + 2 from rfl, show p + (1 + 1 + 1) = p + 3 from rfl] at hw
  generalize (s.get! p).toNat = x0 at *
  generalize (s.get! (p + 1)).toNat = x1 at *
  generalize (s.get! (p + 2)).toNat = x2 at *
  generalize (s.get! (p + 3)).toNat = x3 at *
  generalize Utf8.decode s p = D at *
  generalize widthR s p = W at *
  generalize okW s p = O at *
  have hm : mayR 65533 = false := by decide
  by_cases h1 : x0 < 128
  · rw [if_pos h1] at hd hw
    subst hd; subst hw; subst ho
    simp only [mayR_lo h1]
    cases plainB x0 <;> simp
  rw [if_neg h1] at hd hw
  by_cases h2 : 192 ≤ x0 ∧ x0 < 224
  · rw [if_pos h2] at hw
    rw [if_neg (show ¬ (x0 / 16 = 14 ∧ _) by omega), if_neg (show ¬ (x0 / 8 = 30 ∧ _) by omega)] at hd
    by_cases hs : s.size < p + 2
    · rw [if_neg (by omega)] at hd
      rw [if_pos hs] at hw
      subst hd; subst hw; subst ho; right; exact ⟨hm, by simp⟩
    · rw [if_neg hs] at hw
      by_cases hx : x1 < 128 ∨ 191 < x1
      · rw [if_neg (by omega)] at hd
        rw [if_pos hx] at hw
        subst hd; subst hw; subst ho; right; exact ⟨hm, by simp⟩
      · rw [if_pos (by omega)] at hd
        rw [if_neg hx] at hw
        simp only at hw
        by_cases hv : 128 ≤ x0 % 32 * 64 + x1 % 64
        · rw [if_pos hv] at hd
          rw [if_neg (by omega)] at hw
          subst hd; subst hw; subst ho; left
          refine ⟨?_, by simp, rfl⟩
          rw [mayR_hi hv, decide_eq_true_eq]; omega
        · rw [if_neg hv] at hd
          rw [if_pos (by omega)] at hw
          subst hd; subst hw; subst ho; right; exact ⟨hm, by simp⟩
  rw [if_neg h2] at hw
  rw [if_neg (show ¬ (x0 / 32 = 6 ∧ _) by omega)] at hd
  by_cases h3 : 224 ≤ x0 ∧ x0 < 240
  · rw [if_pos h3] at hw
    rw [if_neg (show ¬ (x0 / 8 = 30 ∧ _) by omega)] at hd
    by_cases hs : s.size < p + 3
    · rw [if_neg (by omega)] at hd
      rw [if_pos hs] at hw
      subst hd; subst hw; subst ho; right; exact ⟨hm, by simp⟩
    · rw [if_neg hs] at hw
      by_cases hx : x1 < 128 ∨ 191 < x1
      · rw [if_neg (by omega)] at hd
        rw [if_pos hx] at hw
        subst hd; subst hw; subst ho; right; exact ⟨hm, by simp⟩
      rw [if_neg hx] at hw
      by_cases hy : x2 < 128 ∨ 191 < x2
      · rw [if_neg (by omega)] at hd
        rw [if_pos hy] at hw
        subst hd; subst hw; subst ho; right; exact ⟨hm, by simp⟩
      · rw [if_pos (by omega)] at hd
        rw [if_neg hy] at hw
        simp only at hw
        by_cases hv : 2048 ≤ x0 % 16 * 4096 + x1 % 64 * 64 + x2 % 64 ∧ (x0 % 16 * 4096 + x1 % 64 * 64 + x2 % 64 < 55296 ∨ 57344 ≤ x0 % 16 * 4096 + x1 % 64 * 64 + x2 % 64 ∧ x0 % 16 * 4096 + x1 % 64 * 64 + x2 % 64 ≤ 1114111)
        · rw [if_pos hv] at hd
          by_cases hf : x0 % 16 * 4096 + x1 % 64 * 64 + x2 % 64 = 65533
          · rw [if_pos (by omega)] at hw
            subst hd; subst hw; subst ho; right
            exact ⟨by rw [hf]; exact hm, by simp⟩
          · rw [if_neg (by omega)] at hw
            subst hd; subst hw; subst ho; left
            refine ⟨?_, by simp, rfl⟩
            rw [mayR_hi (by omega), decide_eq_true_eq]; exact hf
        · rw [if_neg hv] at hd
          rw [if_pos (by omega)] at hw
          subst hd; subst hw; subst ho; right; exact ⟨hm, by simp⟩
  rw [if_neg h3] at hw
  rw [if_neg (show ¬ (x0 / 16 = 14 ∧ _) by omega)] at hd
  by_cases h4 : 240 ≤ x0 ∧ x0 < 248
  · rw [if_pos h4] at hw
    by_cases hs : s.size < p + 4
    · rw [if_neg (by omega)] at hd
      rw [if_pos hs] at hw
      subst hd; subst hw; subst ho; right; exact ⟨hm, by simp⟩
    · rw [if_neg hs] at hw
      by_cases hx : x1 < 128 ∨ 191 < x1
      · rw [if_neg (by omega)] at hd
        rw [if_pos hx] at hw
        subst hd; subst hw; subst ho; right; exact ⟨hm, by simp⟩
      rw [if_neg hx] at hw
      by_cases hy : x2 < 128 ∨ 191 < x2
      · rw [if_neg (by omega)] at hd
        rw [if_pos hy] at hw
        subst hd; subst hw; subst ho; right; exact ⟨hm, by simp⟩
      rw [if_neg hy] at hw
      by_cases hz : x3 < 128 ∨ 191 < x3
      · rw [if_neg (by omega)] at hd
        rw [if_pos hz] at hw
        subst hd; subst hw; subst ho; right; exact ⟨hm, by simp⟩
      · rw [if_pos (by omega)] at hd
        rw [if_neg hz] at hw
        simp only at hw
        by_cases hv : 65536 ≤ x0 % 8 * 262144 + x1 % 64 * 4096 + x2 % 64 * 64 + x3 % 64 ∧ (x0 % 8 * 262144 + x1 % 64 * 4096 + x2 % 64 * 64 + x3 % 64 < 55296 ∨ 57344 ≤ x0 % 8 * 262144 + x1 % 64 * 4096 + x2 % 64 * 64 + x3 % 64 ∧ x0 % 8 * 262144 + x1 % 64 * 4096 + x2 % 64 * 64 + x3 % 64 ≤ 1114111)
        · rw [if_pos hv] at hd
          rw [if_neg (by omega)] at hw
          subst hd; subst hw; subst ho; left
          refine ⟨?_, by simp, rfl⟩
          rw [mayR_hi (by omega), decide_eq_true_eq]; omega
        · rw [if_neg hv] at hd
          rw [if_pos (by omega)] at hw
          subst hd; subst hw; subst ho; right; exact ⟨hm, by simp⟩
  · rw [if_neg h4] at hw
    rw [if_neg (by omega)] at hd
    subst hd; subst hw; subst ho; right; exact ⟨hm, by simp⟩
end Go.Proofs.YtgjoloaajocafaaDoorFn
namespace Go.Proofs.YtgjoloaajocafaaDoorFn
open Go.Proofs.YtgjoloaajocafaaDoorAl Go.Proofs.Tryd
attribute [local irreducible] IntKind.wrap CodeOk OpsL OpG ACalls thn inBlk rndR cutR WkR Wk fnR DW ExtOk partsOf
theorem b59 : HasBody prog 59 := ⟨f59, func59, Option.some_ne_none _, by decide⟩
theorem b58 : HasBody prog 58 := ⟨f58, func58, Option.some_ne_none _, by decide⟩
theorem b42 : HasBody prog 42 := ⟨f42, func42, Option.some_ne_none _, by decide⟩
theorem b43 : HasBody prog 43 := ⟨f43, func43, Option.some_ne_none _, by decide⟩
set_option maxRecDepth 4000 in
theorem plain_ok (c : UInt8) : ACalls prog 41 0 [.st (.int .u8 (c.toNat : Int))] [] fun r h => r = B (plainB c.toNat) ∧ h = [] := by
  refine fnC lay_ok func41 rfl rfl rfl rfl rfl ?_
  repeat' first | refine wr (by omega) ?_ | refine ln ?_ | refine stp lay_ok rfl ?_ | refine fin ?_ | refine n_thn ?_ | refine n_blk ?_ | refine e_thn ?_ | refine e_hit ?_ | refine e_miss rfl ?_ | refine r_thn ?_ | refine r_blk ?_ | refine e_rr ?_ | refine r_rr ?_ | refine e_cr ?_ | refine r_cr ?_ | refine .seq ?_ | refine reg ?_ | refine .block ?_ | refine .skip ?_ | refine .ret ?_ | refine .exit ?_ | refine cndT rfl ?_ | refine cndF rfl ?_ | refine c_dec rfl (fun hc => ?_) (fun hc => ?_) | refine c_ndec rfl (fun hc => ?_) (fun hc => ?_) | refine cnd rfl (fun hc => ?_) (fun hc => ?_) | refine gd rfl rfl rfl (fun hg => ?_) (fun hg => ?_) | refine gn rfl rfl rfl (fun hg => ?_) (fun hg => ?_)
  all_goals
    refine f_r [] rfl trivial rfl ⟨?_, rfl⟩
    simp only [retOf, B, AV.st.injEq, SV.bool.injEq, plainB]
    first
      | (symm; simp; omega)
      | (rw [Bool.eq_iff_iff]; simp; omega)
set_option maxHeartbeats 4000000 in
set_option maxRecDepth 4000 in
theorem refPart_ok (s : ByteArray) (hs : s.size ≤ 4000000000) : ACalls prog 27 0 [Sx s] [] fun r h => r = B (partOk s) ∧ h = [] := by
  refine fnC lay_ok func27 rfl rfl rfl rfl rfl ?_
  repeat' first | refine wr (by omega) ?_ | refine ln ?_ | refine stp lay_ok rfl ?_ | refine fin ?_ | refine n_thn ?_ | refine n_blk ?_ | refine e_thn ?_ | refine e_hit ?_ | refine e_miss rfl ?_ | refine r_thn ?_ | refine r_blk ?_ | refine e_rr ?_ | refine r_rr ?_ | refine e_cr ?_ | refine r_cr ?_ | refine .seq ?_ | refine reg ?_ | refine .block ?_ | refine .skip ?_ | refine .ret ?_ | refine .exit ?_ | refine cndT rfl ?_ | refine cndF rfl ?_ | refine c_dec rfl (fun hc => ?_) (fun hc => ?_) | refine c_ndec rfl (fun hc => ?_) (fun hc => ?_) | refine cnd rfl (fun hc => ?_) (fun hc => ?_) | refine gd rfl rfl rfl (fun hg => ?_) (fun hg => ?_) | refine gn rfl rfl rfl (fun hg => ?_) (fun hg => ?_)
  refine lpR (fun (p, n, f) => n + f = s.size + 1 ∧ s.size + 1 ≤ p + f ∧ n ≤ p ∧ p ≤ s.size ∧ runs s (s.size + 1) 0 = (runs s f p).map (· + n)) (fun (p, n, f) => f) (fun (p, n, f) => [(3, I (n : Int)), (4, I (p : Int))]) (fun (p, n, f) => []) ((0, 0, s.size + 1)) [0] [] [] rfl rfl rfl (.of [] (by (repeat' first | exact trivial | refine And.intro ?_ ?_ | rfl); first | done | fail) (by (repeat' first | exact trivial | refine And.intro ?_ ?_ | rfl); first | done | fail) rfl) ?_ ?_
  · refine ⟨by omega, by omega, Nat.le_refl _, Nat.zero_le _, ?_⟩
    simp
  · rintro ⟨p, n, f⟩ ⟨hf, hpf, hnp, hps, hr⟩
    refine nrm rfl rfl ?_
    by_cases hp : p < s.size
    · obtain ⟨f', rfl⟩ : ∃ f', f = f' + 1 := ⟨f - 1, by omega⟩
      have hw := width_ok s p hs hp
      have hrun : runs s (f' + 1) p = if mayR (Utf8.decode s p).1 then (runs s f' (p + (Utf8.decode s p).2)).map (· + 1) else none := by rw [runs, if_pos hp]
      have hx := get_some hp
      have hpl := plain_ok (s.get! p)
      have hl := wid_law s p hp
      have hle : p + widthR s p ≤ s.size := by
        have : ∀ n l v, wEnd s p n l v = 0 ∨ p + wEnd s p n l v ≤ s.size := by
          intro n l v
          unfold wEnd
          split
          · exact .inl rfl
          · split
            · exact .inl rfl
            · split
              · exact .inl rfl
              · right; omega
        unfold widthR
        split
        · omega
        split
        · rcases this 2 128 (((s.get! p).toNat : Int) - 192) with h | h <;> omega
        split
        · rcases this 3 2048 (((s.get! p).toNat : Int) - 224) with h | h <;> omega
        split
        · rcases this 4 65536 (((s.get! p).toNat : Int) - 240) with h | h <;> omega
        · omega
      have ho : okW s p = (decide (1 < widthR s p) || (decide (widthR s p = 1) && plainB (s.get! p).toNat)) := rfl
      have hw1 := decode_pos s p
      generalize okW s p = O at *
      generalize widthR s p = w at *
      generalize s.get! p = x at *
      generalize (Utf8.decode s p).1 = c at *
      generalize (Utf8.decode s p).2 = w' at *
      rcases hl with ⟨h1, rfl, rfl⟩ | ⟨h1, rfl⟩
      · rw [h1, if_pos rfl] at hrun
        cases hb : plainB x.toNat <;> rw [hb] at hpl ho
        all_goals
          have ho2 : 1 < w ∨ (w = 1 ∧ plainB x.toNat = true) := by
            rw [hb]; simpa using ho
          repeat' first | refine wr (by omega) ?_ | refine ln ?_ | refine stp lay_ok rfl ?_ | refine fin ?_ | refine n_thn ?_ | refine n_blk ?_ | refine e_thn ?_ | refine e_hit ?_ | refine e_miss rfl ?_ | refine r_thn ?_ | refine r_blk ?_ | refine e_rr ?_ | refine r_rr ?_ | refine e_cr ?_ | refine r_cr ?_ | refine .seq ?_ | refine reg ?_ | refine .block ?_ | refine .skip ?_ | refine .ret ?_ | refine .exit ?_ | refine cndT rfl ?_ | refine cndF rfl ?_ | refine c_dec rfl (fun hc => ?_) (fun hc => ?_) | refine c_ndec rfl (fun hc => ?_) (fun hc => ?_) | refine cnd rfl (fun hc => ?_) (fun hc => ?_) | ((first | refine o_none rfl ?_ | refine o_none_ ?_ | refine o_yes rfl rfl rfl ?_ | refine o_yes_ rfl rfl ?_); first | refine st_pure (hw) b40 rfl rfl rfl rfl ?_ | refine st_indexStr x lay_ok rfl rfl rfl rfl (by omega) hx ?_ | refine st_pure (hpl) b41 rfl rfl rfl rfl ?_) | refine gd rfl rfl rfl (fun hg => ?_) (fun hg => ?_) | refine gn rfl rfl rfl (fun hg => ?_) (fun hg => ?_)
          all_goals first
            | (exfalso; omega)
            | (exfalso; rw [hb] at ho2; simp at ho2; omega)
            | (refine n_rr ((p + w, n + 1, f')) ?_ (.of [] (by (repeat' first | exact trivial | refine And.intro ?_ ?_ | rfl); first | done | fail) (by (repeat' first | exact trivial | refine And.intro ?_ ?_ | rfl); first | done | fail) rfl) ?_
               · exact Nat.lt_succ_self _
               · refine ⟨by omega, by omega, by omega, by omega, ?_⟩
                 rw [hr, hrun]
                 cases runs s f' (p + w) with
                 | none => rfl
                 | some k => simp only [Option.map_some]; congr 1; omega)
      · have hrun2 : runs s (f' + 1) p = none := by rw [hrun, h1, if_neg (by simp)]
        have hpo : partOk s = false := by unfold partOk; rw [hr, hrun2]; rfl
        cases hb : plainB x.toNat <;> rw [hb] at hpl ho
        all_goals
          have ho2 : ¬ 1 < w ∧ ¬ (w = 1 ∧ plainB x.toNat = true) := by
            rw [hb]
            have := ho.symm
            simp only [Bool.or_eq_false_iff, Bool.and_eq_false_iff, decide_eq_false_iff_not] at this
            refine ⟨this.1, fun h => ?_⟩
            rcases this.2 with h3 | h3
            · exact h3 h.1
            · first
              | (cases h3; done)
              | (exact absurd h.2 (by decide))
              | simp_all
          rw [hb] at ho2
          repeat' first | refine wr (by omega) ?_ | refine ln ?_ | refine stp lay_ok rfl ?_ | refine fin ?_ | refine n_thn ?_ | refine n_blk ?_ | refine e_thn ?_ | refine e_hit ?_ | refine e_miss rfl ?_ | refine r_thn ?_ | refine r_blk ?_ | refine e_rr ?_ | refine r_rr ?_ | refine e_cr ?_ | refine r_cr ?_ | refine .seq ?_ | refine reg ?_ | refine .block ?_ | refine .skip ?_ | refine .ret ?_ | refine .exit ?_ | refine cndT rfl ?_ | refine cndF rfl ?_ | refine c_dec rfl (fun hc => ?_) (fun hc => ?_) | refine c_ndec rfl (fun hc => ?_) (fun hc => ?_) | refine cnd rfl (fun hc => ?_) (fun hc => ?_) | ((first | refine o_none rfl ?_ | refine o_none_ ?_ | refine o_yes rfl rfl rfl ?_ | refine o_yes_ rfl rfl ?_); first | refine st_pure (hw) b40 rfl rfl rfl rfl ?_ | refine st_indexStr x lay_ok rfl rfl rfl rfl (by omega) hx ?_ | refine st_pure (hpl) b41 rfl rfl rfl rfl ?_) | refine gd rfl rfl rfl (fun hg => ?_) (fun hg => ?_) | refine gn rfl rfl rfl (fun hg => ?_) (fun hg => ?_)
          all_goals first
            | (exfalso; omega)
            | (refine f_r [] rfl trivial rfl ⟨?_, rfl⟩; rw [hpo]; rfl)
            | (exfalso; simp at ho2; omega)
    · have hpe : p = s.size := by omega
      have hend : partOk s = (decide (1 ≤ n ∧ n ≤ 16) && decide (s ≠ ⟨#[46]⟩) && decide (s ≠ ⟨#[46, 46]⟩)) := by
        have : runs s f p = some 0 := by
          cases f with
          | zero => rfl
          | succ f => rw [runs, if_neg hp]
        unfold partOk
        rw [hr, this]
        simp only [Option.map_some, Nat.zero_add]
      repeat' first | refine wr (by omega) ?_ | refine ln ?_ | refine stp lay_ok rfl ?_ | refine fin ?_ | refine n_thn ?_ | refine n_blk ?_ | refine e_thn ?_ | refine e_hit ?_ | refine e_miss rfl ?_ | refine r_thn ?_ | refine r_blk ?_ | refine e_rr ?_ | refine r_rr ?_ | refine e_cr ?_ | refine r_cr ?_ | refine .seq ?_ | refine reg ?_ | refine .block ?_ | refine .skip ?_ | refine .ret ?_ | refine .exit ?_ | refine cndT rfl ?_ | refine cndF rfl ?_ | refine c_dec rfl (fun hc => ?_) (fun hc => ?_) | refine c_ndec rfl (fun hc => ?_) (fun hc => ?_) | refine cnd rfl (fun hc => ?_) (fun hc => ?_) | refine gd rfl rfl rfl (fun hg => ?_) (fun hg => ?_) | refine gn rfl rfl rfl (fun hg => ?_) (fun hg => ?_)
      all_goals first
        | (exfalso; omega)
        | (refine f_r [] rfl trivial rfl ⟨?_, rfl⟩
           rw [hend]
           simp only [retOf, B, AV.st.injEq, SV.bool.injEq]
           first
             | (rw [decide_eq_true (p := 1 ≤ n ∧ n ≤ 16) (by omega), decide_eq_true (p := s ≠ ⟨#[46]⟩) (by assumption)]; rfl)
             | (rw [decide_eq_true (p := 1 ≤ n ∧ n ≤ 16) (by omega), decide_eq_false (p := s ≠ ⟨#[46]⟩) (by assumption)]; rfl)
             | (rw [decide_eq_false (p := 1 ≤ n ∧ n ≤ 16) (by omega)]; rfl))
end Go.Proofs.YtgjoloaajocafaaDoorFn
namespace Go.Proofs.YtgjoloaajocafaaDoorFn
open Go.Proofs.YtgjoloaajocafaaDoorAl Go.Proofs.Tryd
attribute [local irreducible] IntKind.wrap CodeOk OpsL OpG ACalls thn inBlk rndR cutR WkR Wk fnR DW ExtOk partsOf
theorem spl_step : ∀ (l : List UInt8) (m : Nat), (∀ j, j < m → l[j]? ≠ some 47) → l[m]? = some 47 → spl l = l.take m :: spl (l.drop (m + 1))
  | [], m, _, h => by simp at h
  | b :: r, 0, _, h => by
    simp at h; subst h
    simp [spl]
  | b :: r, m + 1, h1, h => by
    have hb : b ≠ 47 := by
      have := h1 0 (by omega); simpa using this
    have ih := spl_step r m (fun j hj => by have := h1 (j + 1) (by omega); simpa using this) (by simpa using h)
    simp only [spl, hb, if_false, ih, List.take_succ_cons, List.drop_succ_cons]
theorem spl_end : ∀ (l : List UInt8), (∀ j : Nat, l[j]? ≠ some 47) → spl l = [l]
  | [], _ => rfl
  | b :: r, h => by
    have hb : b ≠ 47 := by have := h 0; simpa using this
    have ih := spl_end r (fun j => by have := h (j + 1); simpa using this)
    simp only [spl, hb, if_false, ih]
theorem data_get (s : ByteArray) (j : Nat) : s.data.toList[j]? = s[j]? := by
  by_cases h : j < s.size
  · rw [getElem?_pos s j h, List.getElem?_eq_getElem (by rw [Array.length_toList]; exact h)]
    simp; rfl
  · rw [getElem?_neg s j h, List.getElem?_eq_none (by rw [Array.length_toList]; show s.size ≤ j; omega)]
theorem ext_drop (s : ByteArray) (a : Nat) : (s.extract a s.size).data.toList = s.data.toList.drop a := by
  rw [ext_list, List.take_of_length_le (by rw [Array.length_toList]; exact Nat.le_refl _)]
theorem partsOf_step {s : ByteArray} {a i : Nat} (hai : a ≤ i) (hn : ∀ j, a ≤ j → j < i → s[j]? ≠ some 47) (h : s[i]? = some 47) :
    partsOf (s.extract a s.size) = s.extract a i :: partsOf (s.extract (i + 1) s.size) := by
  unfold partsOf
  rw [ext_drop, ext_drop]
  have h1 := spl_step (s.data.toList.drop a) (i - a) (fun j hj => by
    rw [List.getElem?_drop, data_get]; exact hn _ (by omega) (by omega)) (by
    rw [List.getElem?_drop, data_get, show a + (i - a) = i by omega]; exact h)
  rw [h1, List.map_cons, List.drop_drop, show a + (i - a + 1) = i + 1 by omega]
  congr 1
  have := ext_list s a i
  rw [List.drop_take] at this
  rw [← this, Array.toArray_toList]
theorem partsOf_end {s : ByteArray} {a : Nat} (hn : ∀ j, a ≤ j → j < s.size → s[j]? ≠ some 47) : partsOf (s.extract a s.size) = [s.extract a s.size] := by
  have h1 := spl_end (s.extract a s.size).data.toList (fun j => by
    rw [ext_drop, List.getElem?_drop, data_get]
    by_cases h : a + j < s.size
    · exact hn _ (by omega) h
    · rw [getElem?_neg s _ h]; simp)
  unfold partsOf
  rw [h1, List.map_cons, List.map_nil, Array.toArray_toList]
set_option maxHeartbeats 4000000 in
set_option maxRecDepth 4000 in
theorem refSplit_ok (s : ByteArray) (hs : s.size ≤ 4000000000 - 1) : ACalls prog 59 0 [Sx s] [] fun r h => r = .st (.sl 1 ((partsOf s).map rowS)) ∧ h = [] := by
  refine fnC lay_ok func59 rfl rfl rfl rfl rfl ?_
  repeat' first | refine wr (by omega) ?_ | refine ln ?_ | refine stp lay_ok rfl ?_ | refine fin ?_ | refine n_thn ?_ | refine n_blk ?_ | refine e_thn ?_ | refine e_hit ?_ | refine e_miss rfl ?_ | refine r_thn ?_ | refine r_blk ?_ | refine e_rr ?_ | refine r_rr ?_ | refine e_cr ?_ | refine r_cr ?_ | refine .seq ?_ | refine reg ?_ | refine .block ?_ | refine .skip ?_ | refine .ret ?_ | refine .exit ?_ | refine cndT rfl ?_ | refine cndF rfl ?_ | refine c_dec rfl (fun hc => ?_) (fun hc => ?_) | refine c_ndec rfl (fun hc => ?_) (fun hc => ?_) | refine cnd rfl (fun hc => ?_) (fun hc => ?_) | refine gd rfl rfl rfl (fun hg => ?_) (fun hg => ?_) | refine gn rfl rfl rfl (fun hg => ?_) (fun hg => ?_)
  refine CodeOk.wk (Wk.nilT 1 3 rfl rfl) (Nat.le_succ _) ?_
  refine nrm rfl rfl ?_
  refine lpR (fun (out, a, i) => (i ≤ s.size ∧ a ≤ i ∧ out.length ≤ a ∧ partsOf s = out ++ partsOf (s.extract a s.size) ∧ ∀ j, a ≤ j → j < i → s[j]? ≠ some 47) ∨ (i = s.size + 1 ∧ partsOf s = out)) (fun (out, a, i) => s.size + 1 - i) (fun (out, a, i) => [(3, .lsl 1 1 0 (out.map rowS).length), (4, I (a : Int)), (5, I (i : Int))]) (fun (out, a, i) => [(1, .arr 1 (out.map rowS))]) (([], 0, 0)) [0] [] [0] rfl rfl rfl (.of [0] (by (repeat' first | exact trivial | refine And.intro ?_ ?_ | rfl); first | done | fail) (by (repeat' first | exact trivial | refine And.intro ?_ ?_ | rfl); first | done | fail) rfl) ?_ ?_
  · left
    refine ⟨Nat.zero_le _, Nat.le_refl _, Nat.le_refl _, ?_, fun j h1 h2 => by omega⟩
    rw [List.nil_append, ByteArray.extract_zero_size]
  rintro ⟨out, a, i⟩ hinv
  refine nrm rfl rfl ?_
  have hm : (List.map rowS out).length = out.length := List.length_map _
  have hr : ∀ x : ByteArray, List.map rowS out ++ [[SV.str x]] = List.map rowS (out ++ [x]) := fun x => by rw [List.map_append]; rfl
  rcases hinv with ⟨h1, h2, h3, h4, h5⟩ | ⟨h1, h2⟩
  · by_cases hi : i < s.size
    · have hx := get_some hi
      generalize s.get! i = x at *
      by_cases h47 : x = 47
      · subst h47
        have hp := partsOf_step h2 h5 hx
        repeat' first | refine wr (by omega) ?_ | refine ln ?_ | refine stp lay_ok rfl ?_ | refine fin ?_ | refine n_thn ?_ | refine n_blk ?_ | refine e_thn ?_ | refine e_hit ?_ | refine e_miss rfl ?_ | refine r_thn ?_ | refine r_blk ?_ | refine e_rr ?_ | refine r_rr ?_ | refine e_cr ?_ | refine r_cr ?_ | refine .seq ?_ | refine reg ?_ | refine .block ?_ | refine .skip ?_ | refine .ret ?_ | refine .exit ?_ | refine cndT rfl ?_ | refine cndF rfl ?_ | refine c_dec rfl (fun hc => ?_) (fun hc => ?_) | refine c_ndec rfl (fun hc => ?_) (fun hc => ?_) | refine cnd rfl (fun hc => ?_) (fun hc => ?_) | ((first | refine o_none rfl ?_ | refine o_none_ ?_ | refine o_yes rfl rfl rfl ?_ | refine o_yes_ rfl rfl ?_); first | refine st_indexStr 47 lay_ok rfl rfl rfl rfl (by omega) hx ?_ | refine st_subS a i lay_ok rfl rfl rfl ⟨_, _, rfl, rfl⟩ ⟨_, _, rfl, rfl⟩ h2 (by omega) ?_ | refine st_append lay_ok rfl rfl rfl rfl rfl rfl rfl rfl (.lsl rfl rfl) .sl rfl (one_s (s.extract a i)) (by simp only [List.length_cons, List.length_nil]; omega) (by simp only [List.length_cons, List.length_nil]; omega) ?_) | refine gd rfl rfl rfl (fun hg => ?_) (fun hg => ?_) | refine gn rfl rfl rfl (fun hg => ?_) (fun hg => ?_)
        all_goals first
          | (exfalso; omega)
          | (exfalso; simp_all; done)
          | skip
        rw [hr]
        refine n_rr ((out ++ [s.extract a i], i + 1, i + 1)) ?_ (.of [2] (by (repeat' first | exact trivial | refine And.intro ?_ ?_ | rfl); first | done | fail) (by (repeat' first | exact trivial | refine And.intro ?_ ?_ | rfl); first | done | fail) rfl) ?_
        · show s.size + 1 - (i + 1) < s.size + 1 - i; omega
        · left
          exact ⟨hi, Nat.le_refl _, by simp; omega, by rw [h4, hp]; simp, fun j g1 g2 => by omega⟩
      · have hxn : x.toNat ≠ 47 := fun e => h47 (UInt8.toNat.inj (by rw [e]; rfl))
        repeat' first | refine wr (by omega) ?_ | refine ln ?_ | refine stp lay_ok rfl ?_ | refine fin ?_ | refine n_thn ?_ | refine n_blk ?_ | refine e_thn ?_ | refine e_hit ?_ | refine e_miss rfl ?_ | refine r_thn ?_ | refine r_blk ?_ | refine e_rr ?_ | refine r_rr ?_ | refine e_cr ?_ | refine r_cr ?_ | refine .seq ?_ | refine reg ?_ | refine .block ?_ | refine .skip ?_ | refine .ret ?_ | refine .exit ?_ | refine cndT rfl ?_ | refine cndF rfl ?_ | refine c_dec rfl (fun hc => ?_) (fun hc => ?_) | refine c_ndec rfl (fun hc => ?_) (fun hc => ?_) | refine cnd rfl (fun hc => ?_) (fun hc => ?_) | ((first | refine o_none rfl ?_ | refine o_none_ ?_ | refine o_yes rfl rfl rfl ?_ | refine o_yes_ rfl rfl ?_); first | refine st_indexStr x lay_ok rfl rfl rfl rfl (by omega) hx ?_) | refine gd rfl rfl rfl (fun hg => ?_) (fun hg => ?_) | refine gn rfl rfl rfl (fun hg => ?_) (fun hg => ?_)
        all_goals first
          | (exfalso; omega)
          | skip
        refine n_rr ((out, a, i + 1)) ?_ (.of [1] (by (repeat' first | exact trivial | refine And.intro ?_ ?_ | rfl); first | done | fail) (by (repeat' first | exact trivial | refine And.intro ?_ ?_ | rfl); first | done | fail) rfl) ?_
        · show s.size + 1 - (i + 1) < s.size + 1 - i; omega
        · left
          refine ⟨hi, by omega, h3, h4, fun j g1 g2 => ?_⟩
          by_cases hj : j = i
          · subst hj; rw [hx]; intro e; exact h47 (Option.some.inj e)
          · exact h5 j g1 (by omega)
    · have hie : i = s.size := by omega
      subst hie
      have hp := partsOf_end h5
      repeat' first | refine wr (by omega) ?_ | refine ln ?_ | refine stp lay_ok rfl ?_ | refine fin ?_ | refine n_thn ?_ | refine n_blk ?_ | refine e_thn ?_ | refine e_hit ?_ | refine e_miss rfl ?_ | refine r_thn ?_ | refine r_blk ?_ | refine e_rr ?_ | refine r_rr ?_ | refine e_cr ?_ | refine r_cr ?_ | refine .seq ?_ | refine reg ?_ | refine .block ?_ | refine .skip ?_ | refine .ret ?_ | refine .exit ?_ | refine cndT rfl ?_ | refine cndF rfl ?_ | refine c_dec rfl (fun hc => ?_) (fun hc => ?_) | refine c_ndec rfl (fun hc => ?_) (fun hc => ?_) | refine cnd rfl (fun hc => ?_) (fun hc => ?_) | ((first | refine o_none rfl ?_ | refine o_none_ ?_ | refine o_yes rfl rfl rfl ?_ | refine o_yes_ rfl rfl ?_); first | refine st_subS a s.size lay_ok rfl rfl rfl ⟨_, _, rfl, rfl⟩ ⟨_, _, rfl, rfl⟩ h2 (Nat.le_refl _) ?_ | refine st_append lay_ok rfl rfl rfl rfl rfl rfl rfl rfl (.lsl rfl rfl) .sl rfl (one_s (s.extract a s.size)) (by simp only [List.length_cons, List.length_nil]; omega) (by simp only [List.length_cons, List.length_nil]; omega) ?_) | refine gd rfl rfl rfl (fun hg => ?_) (fun hg => ?_) | refine gn rfl rfl rfl (fun hg => ?_) (fun hg => ?_)
      all_goals first
        | (exfalso; omega)
        | skip
      rw [hr]
      refine n_rr ((out ++ [s.extract a s.size], s.size + 1, s.size + 1)) ?_ (.of [2] (by (repeat' first | exact trivial | refine And.intro ?_ ?_ | rfl); first | done | fail) (by (repeat' first | exact trivial | refine And.intro ?_ ?_ | rfl); first | done | fail) rfl) ?_
      · show s.size + 1 - (s.size + 1) < s.size + 1 - s.size; omega
      · right
        exact ⟨rfl, by rw [h4, hp]⟩
  · subst h1
    repeat' first | refine wr (by omega) ?_ | refine ln ?_ | refine stp lay_ok rfl ?_ | refine fin ?_ | refine n_thn ?_ | refine n_blk ?_ | refine e_thn ?_ | refine e_hit ?_ | refine e_miss rfl ?_ | refine r_thn ?_ | refine r_blk ?_ | refine e_rr ?_ | refine r_rr ?_ | refine e_cr ?_ | refine r_cr ?_ | refine .seq ?_ | refine reg ?_ | refine .block ?_ | refine .skip ?_ | refine .ret ?_ | refine .exit ?_ | refine cndT rfl ?_ | refine cndF rfl ?_ | refine c_dec rfl (fun hc => ?_) (fun hc => ?_) | refine c_ndec rfl (fun hc => ?_) (fun hc => ?_) | refine cnd rfl (fun hc => ?_) (fun hc => ?_) | refine gd rfl rfl rfl (fun hg => ?_) (fun hg => ?_) | refine gn rfl rfl rfl (fun hg => ?_) (fun hg => ?_)
    all_goals first
      | (exfalso; omega)
      | skip
    refine f_end (n0 := 0) (t'' := [(2, .st (.sl 1 (out.map rowS)))]) (h'' := []) (Wk.then (Wk.frz 1 [2] rfl rfl rfl (by (repeat' first | exact trivial | refine And.intro ?_ ?_ | rfl); first | done | fail) (by (repeat' first | exact trivial | refine And.intro ?_ ?_ | rfl); first | done | fail) rfl rfl) (WkR.of [] (by (repeat' first | exact trivial | refine And.intro ?_ ?_ | rfl); first | done | fail) (by (repeat' first | exact trivial | refine And.intro ?_ ?_ | rfl); first | done | fail) rfl)) rfl rfl ⟨?_, rfl⟩
    rw [h2]; rfl
end Go.Proofs.YtgjoloaajocafaaDoorFn
namespace Go.Proofs.YtgjoloaajocafaaDoorFn
open Go.Proofs.YtgjoloaajocafaaDoorAl Go.Proofs.Tryd
attribute [local irreducible] IntKind.wrap CodeOk OpsL OpG ACalls thn inBlk rndR cutR WkR Wk fnR DW ExtOk partsOf
def partsB (l : List ByteArray) : Bool := decide (1 ≤ l.length ∧ l.length ≤ 8) && l.all partOk
theorem refParts_ok (l : List ByteArray) (hl : l.length ≤ 4000000000) (hs : ∀ s ∈ l, s.size ≤ 4000000000) : ACalls prog 58 0 [.st (.sl 1 (l.map rowS))] [] fun r h => r = B (partsB l) ∧ h = [] := by
  have hm : (List.map rowS l).length = l.length := List.length_map _
  have hpb : partsB l = (decide (1 ≤ l.length ∧ l.length ≤ 8) && l.all partOk) := rfl
  generalize partsB l = W at *
  refine fnC lay_ok func58 rfl rfl rfl rfl rfl ?_
  repeat' first | refine wr (by omega) ?_ | refine ln ?_ | refine stp lay_ok rfl ?_ | refine fin ?_ | refine n_thn ?_ | refine n_blk ?_ | refine e_thn ?_ | refine e_hit ?_ | refine e_miss rfl ?_ | refine r_thn ?_ | refine r_blk ?_ | refine e_rr ?_ | refine r_rr ?_ | refine e_cr ?_ | refine r_cr ?_ | refine .seq ?_ | refine reg ?_ | refine .block ?_ | refine .skip ?_ | refine .ret ?_ | refine .exit ?_ | refine cndT rfl ?_ | refine cndF rfl ?_ | refine c_dec rfl (fun hc => ?_) (fun hc => ?_) | refine c_ndec rfl (fun hc => ?_) (fun hc => ?_) | refine cnd rfl (fun hc => ?_) (fun hc => ?_) | refine gd rfl rfl rfl (fun hg => ?_) (fun hg => ?_) | refine gn rfl rfl rfl (fun hg => ?_) (fun hg => ?_) | refine dwr (by omega) ?_ | refine dwl ?_ | refine dws lay_ok rfl rfl rfl rfl rfl rfl rfl ?_ | refine dwu lay_ok rfl rfl rfl rfl rfl rfl rfl rfl rfl ?_ | refine dw_end ?_ | refine dw_skip rfl rfl rfl ?_ | refine dwn lay_ok rfl rfl rfl rfl rfl ?_ | refine dw_dec rfl rfl rfl (fun hg => ?_) (fun hg => ?_) | refine dw_ndec rfl rfl rfl (fun hg => ?_) (fun hg => ?_)
  · refine f_r [] rfl trivial rfl ⟨?_, rfl⟩
    rw [hpb, decide_eq_false (by omega)]; rfl
  · refine f_r [] rfl trivial rfl ⟨?_, rfl⟩
    rw [hpb, decide_eq_false (by omega)]; rfl
  · rw [decide_eq_true (by omega), Bool.true_and] at hpb
    refine lpR (fun k => k ≤ l.length ∧ (l.take k).all partOk = true) (fun k => l.length - k) (fun k => [(3, I k)]) (fun k => []) (0) [0] [] [] rfl rfl rfl (.of [] (by (repeat' first | exact trivial | refine And.intro ?_ ?_ | rfl); first | done | fail) (by (repeat' first | exact trivial | refine And.intro ?_ ?_ | rfl); first | done | fail) rfl) ?_ ?_
    · exact ⟨Nat.zero_le _, rfl⟩
    rintro k ⟨h1, h2⟩
    refine nrm rfl rfl ?_
    repeat' first | refine wr (by omega) ?_ | refine ln ?_ | refine stp lay_ok rfl ?_ | refine fin ?_ | refine n_thn ?_ | refine n_blk ?_ | refine e_thn ?_ | refine e_hit ?_ | refine e_miss rfl ?_ | refine r_thn ?_ | refine r_blk ?_ | refine e_rr ?_ | refine r_rr ?_ | refine e_cr ?_ | refine r_cr ?_ | refine .seq ?_ | refine reg ?_ | refine .block ?_ | refine .skip ?_ | refine .ret ?_ | refine .exit ?_ | refine cndT rfl ?_ | refine cndF rfl ?_ | refine c_dec rfl (fun hc => ?_) (fun hc => ?_) | refine c_ndec rfl (fun hc => ?_) (fun hc => ?_) | refine cnd rfl (fun hc => ?_) (fun hc => ?_) | refine gd rfl rfl rfl (fun hg => ?_) (fun hg => ?_) | refine gn rfl rfl rfl (fun hg => ?_) (fun hg => ?_) | refine dwr (by omega) ?_ | refine dwl ?_ | refine dws lay_ok rfl rfl rfl rfl rfl rfl rfl ?_ | refine dwu lay_ok rfl rfl rfl rfl rfl rfl rfl rfl rfl ?_ | refine dw_end ?_ | refine dw_skip rfl rfl rfl ?_ | refine dwn lay_ok rfl rfl rfl rfl rfl ?_ | refine dw_dec rfl rfl rfl (fun hg => ?_) (fun hg => ?_) | refine dw_ndec rfl rfl rfl (fun hg => ?_) (fun hg => ?_)
    · have hk : k < l.length := by omega
      have hat := at_rowS hk
      have hp := refPart_ok l[k] (hs _ (List.getElem_mem hk))
      have ha := all_take (p := partOk) hk
      have hna := all_not (p := partOk) hk
      generalize l[k] = x at *
      cases hb : partOk x <;> rw [hb] at hp ha hna
      · repeat' first | refine wr (by omega) ?_ | refine ln ?_ | refine stp lay_ok rfl ?_ | refine fin ?_ | refine n_thn ?_ | refine n_blk ?_ | refine e_thn ?_ | refine e_hit ?_ | refine e_miss rfl ?_ | refine r_thn ?_ | refine r_blk ?_ | refine e_rr ?_ | refine r_rr ?_ | refine e_cr ?_ | refine r_cr ?_ | refine .seq ?_ | refine reg ?_ | refine .block ?_ | refine .skip ?_ | refine .ret ?_ | refine .exit ?_ | refine cndT rfl ?_ | refine cndF rfl ?_ | refine c_dec rfl (fun hc => ?_) (fun hc => ?_) | refine c_ndec rfl (fun hc => ?_) (fun hc => ?_) | refine cnd rfl (fun hc => ?_) (fun hc => ?_) | ((first | refine o_none rfl ?_ | refine o_none_ ?_ | refine o_yes rfl rfl rfl ?_ | refine o_yes_ rfl rfl ?_); first | refine st_index (rowS x) lay_ok rfl rfl rfl rfl (by omega) hat ?_ | refine st_pure (hp) b27 rfl rfl rfl rfl ?_) | refine gd rfl rfl rfl (fun hg => ?_) (fun hg => ?_) | refine gn rfl rfl rfl (fun hg => ?_) (fun hg => ?_) | refine dwr (by omega) ?_ | refine dwl ?_ | refine dws lay_ok rfl rfl rfl rfl rfl rfl rfl ?_ | refine dwu lay_ok rfl rfl rfl rfl rfl rfl rfl rfl rfl ?_ | refine dw_end ?_ | refine dw_skip rfl rfl rfl ?_ | refine dwn lay_ok rfl rfl rfl rfl rfl ?_ | refine dwb rfl rfl rfl rfl rfl (by (first | refine st_index (rowS x) lay_ok rfl rfl rfl rfl (by omega) hat ?_ | refine st_pure (hp) b27 rfl rfl rfl rfl ?_); exact fin rfl) rfl rfl ?_ | refine dwg rfl rfl rfl rfl rfl (by (first | refine st_index (rowS x) lay_ok rfl rfl rfl rfl (by omega) hat ?_ | refine st_pure (hp) b27 rfl rfl rfl rfl ?_); exact fin rfl) rfl rfl rfl rfl rfl ?_ | refine dw_dec rfl rfl rfl (fun hg => ?_) (fun hg => ?_) | refine dw_ndec rfl rfl rfl (fun hg => ?_) (fun hg => ?_)
        refine f_r [] rfl trivial rfl ⟨?_, rfl⟩
        rw [hpb, hna rfl]; rfl
      · repeat' first | refine wr (by omega) ?_ | refine ln ?_ | refine stp lay_ok rfl ?_ | refine fin ?_ | refine n_thn ?_ | refine n_blk ?_ | refine e_thn ?_ | refine e_hit ?_ | refine e_miss rfl ?_ | refine r_thn ?_ | refine r_blk ?_ | refine e_rr ?_ | refine r_rr ?_ | refine e_cr ?_ | refine r_cr ?_ | refine .seq ?_ | refine reg ?_ | refine .block ?_ | refine .skip ?_ | refine .ret ?_ | refine .exit ?_ | refine cndT rfl ?_ | refine cndF rfl ?_ | refine c_dec rfl (fun hc => ?_) (fun hc => ?_) | refine c_ndec rfl (fun hc => ?_) (fun hc => ?_) | refine cnd rfl (fun hc => ?_) (fun hc => ?_) | ((first | refine o_none rfl ?_ | refine o_none_ ?_ | refine o_yes rfl rfl rfl ?_ | refine o_yes_ rfl rfl ?_); first | refine st_index (rowS x) lay_ok rfl rfl rfl rfl (by omega) hat ?_ | refine st_pure (hp) b27 rfl rfl rfl rfl ?_) | refine gd rfl rfl rfl (fun hg => ?_) (fun hg => ?_) | refine gn rfl rfl rfl (fun hg => ?_) (fun hg => ?_) | refine dwr (by omega) ?_ | refine dwl ?_ | refine dws lay_ok rfl rfl rfl rfl rfl rfl rfl ?_ | refine dwu lay_ok rfl rfl rfl rfl rfl rfl rfl rfl rfl ?_ | refine dw_end ?_ | refine dw_skip rfl rfl rfl ?_ | refine dwn lay_ok rfl rfl rfl rfl rfl ?_ | refine dwb rfl rfl rfl rfl rfl (by (first | refine st_index (rowS x) lay_ok rfl rfl rfl rfl (by omega) hat ?_ | refine st_pure (hp) b27 rfl rfl rfl rfl ?_); exact fin rfl) rfl rfl ?_ | refine dwg rfl rfl rfl rfl rfl (by (first | refine st_index (rowS x) lay_ok rfl rfl rfl rfl (by omega) hat ?_ | refine st_pure (hp) b27 rfl rfl rfl rfl ?_); exact fin rfl) rfl rfl rfl rfl rfl ?_ | refine dw_dec rfl rfl rfl (fun hg => ?_) (fun hg => ?_) | refine dw_ndec rfl rfl rfl (fun hg => ?_) (fun hg => ?_)
        refine n_rr (k + 1) ?_ (.of [] (by (repeat' first | exact trivial | refine And.intro ?_ ?_ | rfl); first | done | fail) (by (repeat' first | exact trivial | refine And.intro ?_ ?_ | rfl); first | done | fail) rfl) ?_
        · omega
        · exact ⟨hk, by rw [ha, h2]; rfl⟩
    · have hk : k = l.length := by omega
      subst hk
      rw [List.take_length] at h2
      refine f_r [] rfl trivial rfl ⟨?_, rfl⟩
      rw [hpb, h2]; rfl
theorem parts_le (s : ByteArray) : (partsOf s).length ≤ s.size + 1 := by
  rw [parts_len]
  have := List.count_le_length (a := (47 : UInt8)) (l := s.data.toList)
  rw [Array.length_toList] at this
  have e : s.data.size = s.size := rfl
  omega
theorem parts_pos1 (s : ByteArray) : 1 ≤ (partsOf s).length := by rw [parts_len]; omega
theorem partsB_path (s : ByteArray) : partsB (partsOf s) = pathOk s := by
  have := parts_pos1 s
  unfold partsB pathOk
  congr 1
  rw [Bool.eq_iff_iff, decide_eq_true_eq, decide_eq_true_eq]; omega
theorem refPartsOf_ok (s : ByteArray) (hs : s.size ≤ 4000000000 - 1) : ACalls prog 58 0 [.st (.sl 1 ((partsOf s).map rowS))] [] fun r h => r = B (pathOk s) ∧ h = [] := by
  have := parts_le s
  have h2 := refParts_ok (partsOf s) (by omega) (fun x hx => by have := parts_size s x hx; omega)
  rw [partsB_path] at h2
  exact h2
theorem refPath_ok (s : ByteArray) (hs : s.size ≤ 4000000000 - 1) : ACalls prog 42 0 [Sx s] [] fun r h => r = B (pathOk s) ∧ h = [] := by
  have h1 := refSplit_ok s hs
  have h2 := refPartsOf_ok s hs
  refine fnC lay_ok func42 rfl rfl rfl rfl rfl ?_
  repeat' first | refine wr (by omega) ?_ | refine ln ?_ | refine stp lay_ok rfl ?_ | refine fin ?_ | refine n_thn ?_ | refine n_blk ?_ | refine e_thn ?_ | refine e_hit ?_ | refine e_miss rfl ?_ | refine r_thn ?_ | refine r_blk ?_ | refine e_rr ?_ | refine r_rr ?_ | refine e_cr ?_ | refine r_cr ?_ | refine .seq ?_ | refine reg ?_ | refine .block ?_ | refine .skip ?_ | refine .ret ?_ | refine .exit ?_ | refine cndT rfl ?_ | refine cndF rfl ?_ | refine c_dec rfl (fun hc => ?_) (fun hc => ?_) | refine c_ndec rfl (fun hc => ?_) (fun hc => ?_) | refine cnd rfl (fun hc => ?_) (fun hc => ?_) | ((first | refine o_none rfl ?_ | refine o_none_ ?_ | refine o_yes rfl rfl rfl ?_ | refine o_yes_ rfl rfl ?_); first | refine st_pure (h1) b59 rfl rfl rfl rfl ?_ | refine st_pure (h2) b58 rfl rfl rfl rfl ?_) | refine gd rfl rfl rfl (fun hg => ?_) (fun hg => ?_) | refine gn rfl rfl rfl (fun hg => ?_) (fun hg => ?_) | refine dwr (by omega) ?_ | refine dwl ?_ | refine dws lay_ok rfl rfl rfl rfl rfl rfl rfl ?_ | refine dwu lay_ok rfl rfl rfl rfl rfl rfl rfl rfl rfl ?_ | refine dw_end ?_ | refine dw_skip rfl rfl rfl ?_ | refine dwn lay_ok rfl rfl rfl rfl rfl ?_ | refine dwb rfl rfl rfl rfl rfl (by (first | refine st_pure (h1) b59 rfl rfl rfl rfl ?_ | refine st_pure (h2) b58 rfl rfl rfl rfl ?_); exact fin rfl) rfl rfl ?_ | refine dwg rfl rfl rfl rfl rfl (by (first | refine st_pure (h1) b59 rfl rfl rfl rfl ?_ | refine st_pure (h2) b58 rfl rfl rfl rfl ?_); exact fin rfl) rfl rfl rfl rfl rfl ?_ | refine dw_dec rfl rfl rfl (fun hg => ?_) (fun hg => ?_) | refine dw_ndec rfl rfl rfl (fun hg => ?_) (fun hg => ?_)
  refine f_r [] rfl trivial rfl ⟨?_, rfl⟩; rfl
/-! ### under: by parts, and by the text ahead -/
def joi : List (List UInt8) → List UInt8
  | [] => []
  | [x] => x
  | x :: y :: r => x ++ 47 :: joi (y :: r)
theorem joi_spl : ∀ l : List UInt8, joi (spl l) = l
  | [] => rfl
  | b :: r => by
    have ih := joi_spl r
    have hne := spl_ne r
    by_cases hb : b = 47
    · subst hb
      simp only [spl, if_true]
      cases h : spl r with
      | nil => exact absurd h hne
      | cons x xs =>
        rw [h] at ih
        simp only [joi, List.nil_append, ih]
    · simp only [spl, hb, if_false]
      cases h : spl r with
      | nil => exact absurd h hne
      | cons x xs =>
        rw [h] at ih
        cases xs with
        | nil => simp only [joi] at ih ⊢; rw [ih]
        | cons y ys => simp only [joi, List.cons_append] at ih ⊢; rw [ih]
theorem spl_app : ∀ (a b : List UInt8), spl (a ++ 47 :: b) = spl a ++ spl b
  | [], b => by simp [spl]
  | x :: a, b => by
    have ih := spl_app a b
    have hne := spl_ne a
    by_cases hx : x = 47
    · subst hx; simp only [List.cons_append, spl, if_true, ih]
    · simp only [List.cons_append, spl, hx, if_false, ih]
      cases h : spl a with
      | nil => exact absurd h hne
      | cons y ys => rfl
theorem joi_app : ∀ (a b : List (List UInt8)), a ≠ [] → b ≠ [] → joi (a ++ b) = joi a ++ 47 :: joi b
  | [], b, h, _ => absurd rfl h
  | [x], b, _, hb => by
    cases b with
    | nil => exact absurd rfl hb
    | cons y r => rfl
  | x :: y :: r, b, _, hb => by
    have ih := joi_app (y :: r) b (by simp) hb
    simp only [List.cons_append, joi] at ih ⊢
    rw [ih, List.append_assoc]; rfl
theorem pre_list (d s : ByteArray) : ((d ++ slash).size ≤ s.size ∧ s.extract 0 (d ++ slash).size = d ++ slash) ↔ ∃ t, s.data.toList = d.data.toList ++ 47 :: t := by
  have hds : (d ++ slash).data.toList = d.data.toList ++ [47] := by simp [ByteArray.data_append]
  have hsz : (d ++ slash).size = d.data.toList.length + 1 := by
    rw [ByteArray.size_append, Array.length_toList]; rfl
  have hss : s.size = s.data.toList.length := by rw [Array.length_toList]; rfl
  constructor
  · rintro ⟨h1, h2⟩
    have h3 := congrArg (fun b : ByteArray => b.data.toList) h2
    rw [ext_list, List.drop_zero, hds] at h3
    refine ⟨s.data.toList.drop (d ++ slash).size, ?_⟩
    conv => lhs; rw [← List.take_append_drop (d ++ slash).size s.data.toList, h3]
    simp
  · rintro ⟨t, h⟩
    refine ⟨by rw [hsz, hss, h]; simp, ?_⟩
    apply ByteArray.ext
    apply Array.toList_inj.1
    rw [ext_list, List.drop_zero, hds, h, hsz, show d.data.toList ++ 47 :: t = (d.data.toList ++ [47]) ++ t by simp]
    exact List.take_left' (by simp)
theorem under_law (d s : ByteArray) : (∃ t, s.data.toList = d.data.toList ++ 47 :: t) ↔ (partsOf d).length < (partsOf s).length ∧ partsOf d = (partsOf s).take (partsOf d).length := by
  unfold partsOf
  rw [List.length_map, List.length_map, ← List.map_take]
  have hinj : ∀ a b : List (List UInt8), a.map (fun l => (⟨l.toArray⟩ : ByteArray)) = b.map (fun l => (⟨l.toArray⟩ : ByteArray)) → a = b := by
    intro a b h
    have := congrArg (List.map fun b : ByteArray => b.data.toList) h
    simpa [List.map_map, Function.comp_def] using this
  constructor
  · rintro ⟨t, h⟩
    rw [h, spl_app]
    have hne := spl_ne t
    have hpos : 0 < (spl t).length := List.length_pos_iff.2 hne
    refine ⟨by rw [List.length_append]; omega, ?_⟩
    rw [List.take_left']; rfl
  · rintro ⟨h1, h2⟩
    have h3 := hinj _ _ h2
    have h4 : spl s.data.toList = spl d.data.toList ++ (spl s.data.toList).drop (spl d.data.toList).length := by
      conv => lhs; rw [← List.take_append_drop (spl d.data.toList).length (spl s.data.toList), ← h3]
    have h5 : (spl s.data.toList).drop (spl d.data.toList).length ≠ [] := by
      intro e
      have := List.drop_eq_nil_iff.1 e; omega
    refine ⟨joi ((spl s.data.toList).drop (spl d.data.toList).length), ?_⟩
    conv => lhs; rw [← joi_spl s.data.toList, h4]
    rw [joi_app _ _ (spl_ne _) h5, joi_spl]
def underP (d s : ByteArray) : Bool := pathOk d && pathOk s && decide ((partsOf d).length < (partsOf s).length) && decide (partsOf d = (partsOf s).take (partsOf d).length)
theorem underP_eq (d s : ByteArray) : underP d s = under d s := by
  unfold underP under
  rw [Bool.and_assoc]
  congr 1
  rw [Bool.eq_iff_iff, Bool.and_eq_true, decide_eq_true_eq, decide_eq_true_eq, decide_eq_true_eq, pre_list, under_law]
set_option maxRecDepth 4000 in
theorem refUnder_ok (d s : ByteArray) (hd : d.size ≤ 4000000000 - 1) (hs : s.size ≤ 4000000000 - 1) : ACalls prog 43 0 [Sx d, Sx s] [] fun r h => r = B (under d s) ∧ h = [] := by
  rw [← underP_eq]
  have h1 := refSplit_ok d hd
  have h2 := refSplit_ok s hs
  have h3 := refPartsOf_ok d hd
  have h4 := refPartsOf_ok s hs
  have l1 := parts_le d
  have l2 := parts_le s
  have hu : underP d s = (pathOk d && pathOk s && decide ((partsOf d).length < (partsOf s).length) && decide (partsOf d = (partsOf s).take (partsOf d).length)) := rfl
  generalize underP d s = W at *
  generalize partsOf d = a at *
  generalize partsOf s = b at *
  have hma : (List.map rowS a).length = a.length := List.length_map _
  have hmb : (List.map rowS b).length = b.length := List.length_map _
  refine fnC lay_ok func43 rfl rfl rfl rfl rfl ?_
  cases hpd : pathOk d <;> rw [hpd] at h3 hu
  · repeat' first | refine wr (by omega) ?_ | refine ln ?_ | refine stp lay_ok rfl ?_ | refine fin ?_ | refine n_thn ?_ | refine n_blk ?_ | refine e_thn ?_ | refine e_hit ?_ | refine e_miss rfl ?_ | refine r_thn ?_ | refine r_blk ?_ | refine e_rr ?_ | refine r_rr ?_ | refine e_cr ?_ | refine r_cr ?_ | refine .seq ?_ | refine reg ?_ | refine .block ?_ | refine .skip ?_ | refine .ret ?_ | refine .exit ?_ | refine cndT rfl ?_ | refine cndF rfl ?_ | refine c_dec rfl (fun hc => ?_) (fun hc => ?_) | refine c_ndec rfl (fun hc => ?_) (fun hc => ?_) | refine cnd rfl (fun hc => ?_) (fun hc => ?_) | ((first | refine o_none rfl ?_ | refine o_none_ ?_ | refine o_yes rfl rfl rfl ?_ | refine o_yes_ rfl rfl ?_); first | refine st_pure (h1) b59 rfl rfl rfl rfl ?_ | refine st_pure (h2) b59 rfl rfl rfl rfl ?_ | refine st_pure (h3) b58 rfl rfl rfl rfl ?_) | refine gd rfl rfl rfl (fun hg => ?_) (fun hg => ?_) | refine gn rfl rfl rfl (fun hg => ?_) (fun hg => ?_) | refine dwr (by omega) ?_ | refine dwl ?_ | refine dws lay_ok rfl rfl rfl rfl rfl rfl rfl ?_ | refine dwu lay_ok rfl rfl rfl rfl rfl rfl rfl rfl rfl ?_ | refine dw_end ?_ | refine dw_skip rfl rfl rfl ?_ | refine dwn lay_ok rfl rfl rfl rfl rfl ?_ | refine dwb rfl rfl rfl rfl rfl (by (first | refine st_pure (h1) b59 rfl rfl rfl rfl ?_ | refine st_pure (h2) b59 rfl rfl rfl rfl ?_ | refine st_pure (h3) b58 rfl rfl rfl rfl ?_); exact fin rfl) rfl rfl ?_ | refine dwg rfl rfl rfl rfl rfl (by (first | refine st_pure (h1) b59 rfl rfl rfl rfl ?_ | refine st_pure (h2) b59 rfl rfl rfl rfl ?_ | refine st_pure (h3) b58 rfl rfl rfl rfl ?_); exact fin rfl) rfl rfl rfl rfl rfl ?_ | refine dw_dec rfl rfl rfl (fun hg => ?_) (fun hg => ?_) | refine dw_ndec rfl rfl rfl (fun hg => ?_) (fun hg => ?_)
    refine f_r [] rfl trivial rfl ⟨?_, rfl⟩; rw [hu]; rfl
  cases hps : pathOk s <;> rw [hps] at h4 hu
  · repeat' first | refine wr (by omega) ?_ | refine ln ?_ | refine stp lay_ok rfl ?_ | refine fin ?_ | refine n_thn ?_ | refine n_blk ?_ | refine e_thn ?_ | refine e_hit ?_ | refine e_miss rfl ?_ | refine r_thn ?_ | refine r_blk ?_ | refine e_rr ?_ | refine r_rr ?_ | refine e_cr ?_ | refine r_cr ?_ | refine .seq ?_ | refine reg ?_ | refine .block ?_ | refine .skip ?_ | refine .ret ?_ | refine .exit ?_ | refine cndT rfl ?_ | refine cndF rfl ?_ | refine c_dec rfl (fun hc => ?_) (fun hc => ?_) | refine c_ndec rfl (fun hc => ?_) (fun hc => ?_) | refine cnd rfl (fun hc => ?_) (fun hc => ?_) | ((first | refine o_none rfl ?_ | refine o_none_ ?_ | refine o_yes rfl rfl rfl ?_ | refine o_yes_ rfl rfl ?_); first | refine st_pure (h1) b59 rfl rfl rfl rfl ?_ | refine st_pure (h2) b59 rfl rfl rfl rfl ?_ | refine st_pure (h3) b58 rfl rfl rfl rfl ?_ | refine st_pure (h4) b58 rfl rfl rfl rfl ?_) | refine gd rfl rfl rfl (fun hg => ?_) (fun hg => ?_) | refine gn rfl rfl rfl (fun hg => ?_) (fun hg => ?_) | refine dwr (by omega) ?_ | refine dwl ?_ | refine dws lay_ok rfl rfl rfl rfl rfl rfl rfl ?_ | refine dwu lay_ok rfl rfl rfl rfl rfl rfl rfl rfl rfl ?_ | refine dw_end ?_ | refine dw_skip rfl rfl rfl ?_ | refine dwn lay_ok rfl rfl rfl rfl rfl ?_ | refine dwb rfl rfl rfl rfl rfl (by (first | refine st_pure (h1) b59 rfl rfl rfl rfl ?_ | refine st_pure (h2) b59 rfl rfl rfl rfl ?_ | refine st_pure (h3) b58 rfl rfl rfl rfl ?_ | refine st_pure (h4) b58 rfl rfl rfl rfl ?_); exact fin rfl) rfl rfl ?_ | refine dwg rfl rfl rfl rfl rfl (by (first | refine st_pure (h1) b59 rfl rfl rfl rfl ?_ | refine st_pure (h2) b59 rfl rfl rfl rfl ?_ | refine st_pure (h3) b58 rfl rfl rfl rfl ?_ | refine st_pure (h4) b58 rfl rfl rfl rfl ?_); exact fin rfl) rfl rfl rfl rfl rfl ?_ | refine dw_dec rfl rfl rfl (fun hg => ?_) (fun hg => ?_) | refine dw_ndec rfl rfl rfl (fun hg => ?_) (fun hg => ?_)
    refine f_r [] rfl trivial rfl ⟨?_, rfl⟩; rw [hu]; rfl
  simp only [Bool.true_and] at hu
  repeat' first | refine wr (by omega) ?_ | refine ln ?_ | refine stp lay_ok rfl ?_ | refine fin ?_ | refine n_thn ?_ | refine n_blk ?_ | refine e_thn ?_ | refine e_hit ?_ | refine e_miss rfl ?_ | refine r_thn ?_ | refine r_blk ?_ | refine e_rr ?_ | refine r_rr ?_ | refine e_cr ?_ | refine r_cr ?_ | refine .seq ?_ | refine reg ?_ | refine .block ?_ | refine .skip ?_ | refine .ret ?_ | refine .exit ?_ | refine cndT rfl ?_ | refine cndF rfl ?_ | refine c_dec rfl (fun hc => ?_) (fun hc => ?_) | refine c_ndec rfl (fun hc => ?_) (fun hc => ?_) | refine cnd rfl (fun hc => ?_) (fun hc => ?_) | ((first | refine o_none rfl ?_ | refine o_none_ ?_ | refine o_yes rfl rfl rfl ?_ | refine o_yes_ rfl rfl ?_); first | refine st_pure (h1) b59 rfl rfl rfl rfl ?_ | refine st_pure (h2) b59 rfl rfl rfl rfl ?_ | refine st_pure (h3) b58 rfl rfl rfl rfl ?_ | refine st_pure (h4) b58 rfl rfl rfl rfl ?_) | refine gd rfl rfl rfl (fun hg => ?_) (fun hg => ?_) | refine gn rfl rfl rfl (fun hg => ?_) (fun hg => ?_) | refine dwr (by omega) ?_ | refine dwl ?_ | refine dws lay_ok rfl rfl rfl rfl rfl rfl rfl ?_ | refine dwu lay_ok rfl rfl rfl rfl rfl rfl rfl rfl rfl ?_ | refine dw_end ?_ | refine dw_skip rfl rfl rfl ?_ | refine dwn lay_ok rfl rfl rfl rfl rfl ?_ | refine dwb rfl rfl rfl rfl rfl (by (first | refine st_pure (h1) b59 rfl rfl rfl rfl ?_ | refine st_pure (h2) b59 rfl rfl rfl rfl ?_ | refine st_pure (h3) b58 rfl rfl rfl rfl ?_ | refine st_pure (h4) b58 rfl rfl rfl rfl ?_); exact fin rfl) rfl rfl ?_ | refine dwg rfl rfl rfl rfl rfl (by (first | refine st_pure (h1) b59 rfl rfl rfl rfl ?_ | refine st_pure (h2) b59 rfl rfl rfl rfl ?_ | refine st_pure (h3) b58 rfl rfl rfl rfl ?_ | refine st_pure (h4) b58 rfl rfl rfl rfl ?_); exact fin rfl) rfl rfl rfl rfl rfl ?_ | refine dw_dec rfl rfl rfl (fun hg => ?_) (fun hg => ?_) | refine dw_ndec rfl rfl rfl (fun hg => ?_) (fun hg => ?_)
  · refine f_r [] rfl trivial rfl ⟨?_, rfl⟩; rw [hu, decide_eq_false (by omega)]; rfl
  · rw [decide_eq_true (by omega), Bool.true_and] at hu
    refine lpR (fun k => k ≤ a.length ∧ ∀ j (h1 : j < a.length) (h2 : j < b.length), j < k → a[j] = b[j]) (fun k => a.length - k) (fun k => [(7, I k)]) (fun k => []) (0) [5, 6] [] [] rfl rfl rfl (.of [] (by (repeat' first | exact trivial | refine And.intro ?_ ?_ | rfl); first | done | fail) (by (repeat' first | exact trivial | refine And.intro ?_ ?_ | rfl); first | done | fail) rfl) ?_ ?_
    · exact ⟨Nat.zero_le _, fun j h1 h2 h3 => by omega⟩
    rintro k ⟨hk, hall⟩
    refine nrm rfl rfl ?_
    repeat' first | refine wr (by omega) ?_ | refine ln ?_ | refine stp lay_ok rfl ?_ | refine fin ?_ | refine n_thn ?_ | refine n_blk ?_ | refine e_thn ?_ | refine e_hit ?_ | refine e_miss rfl ?_ | refine r_thn ?_ | refine r_blk ?_ | refine e_rr ?_ | refine r_rr ?_ | refine e_cr ?_ | refine r_cr ?_ | refine .seq ?_ | refine reg ?_ | refine .block ?_ | refine .skip ?_ | refine .ret ?_ | refine .exit ?_ | refine cndT rfl ?_ | refine cndF rfl ?_ | refine c_dec rfl (fun hc => ?_) (fun hc => ?_) | refine c_ndec rfl (fun hc => ?_) (fun hc => ?_) | refine cnd rfl (fun hc => ?_) (fun hc => ?_) | refine gd rfl rfl rfl (fun hg => ?_) (fun hg => ?_) | refine gn rfl rfl rfl (fun hg => ?_) (fun hg => ?_) | refine dwr (by omega) ?_ | refine dwl ?_ | refine dws lay_ok rfl rfl rfl rfl rfl rfl rfl ?_ | refine dwu lay_ok rfl rfl rfl rfl rfl rfl rfl rfl rfl ?_ | refine dw_end ?_ | refine dw_skip rfl rfl rfl ?_ | refine dwn lay_ok rfl rfl rfl rfl rfl ?_ | refine dw_dec rfl rfl rfl (fun hg => ?_) (fun hg => ?_) | refine dw_ndec rfl rfl rfl (fun hg => ?_) (fun hg => ?_)
    · have hka : k < a.length := by omega
      have hkb : k < b.length := by omega
      have hat := at_rowS hka
      have hbt := at_rowS hkb
      refine dreg [(0, [], [34, 37, 38, 39, 40]), (1, [], [33, 37, 38, 39, 40]), (2, [0, 1], [37, 38, 39, 40]), (3, [0, 1, 2], [37, 38, 39, 40]), (4, [], [33, 34, 35, 36, 38]), (5, [], [33, 34, 35, 36, 37]), (6, [4, 5], [33, 34, 35, 36]), (7, [4, 5, 6], [33, 34, 35, 36]), (8, [0, 1, 2, 3, 4, 5, 6, 7], [])] mixed (by kernel_rfl) ?_
      repeat' first | refine wr (by omega) ?_ | refine ln ?_ | refine stp lay_ok rfl ?_ | refine fin ?_ | refine n_thn ?_ | refine n_blk ?_ | refine e_thn ?_ | refine e_hit ?_ | refine e_miss rfl ?_ | refine r_thn ?_ | refine r_blk ?_ | refine e_rr ?_ | refine r_rr ?_ | refine e_cr ?_ | refine r_cr ?_ | refine .seq ?_ | refine reg ?_ | refine .block ?_ | refine .skip ?_ | refine .ret ?_ | refine .exit ?_ | refine cndT rfl ?_ | refine cndF rfl ?_ | refine c_dec rfl (fun hc => ?_) (fun hc => ?_) | refine c_ndec rfl (fun hc => ?_) (fun hc => ?_) | refine cnd rfl (fun hc => ?_) (fun hc => ?_) | ((first | refine o_none rfl ?_ | refine o_none_ ?_ | refine o_yes rfl rfl rfl ?_ | refine o_yes_ rfl rfl ?_); first | refine st_index (rowS a[k]) lay_ok rfl rfl rfl rfl (by omega) hat ?_ | refine st_index (rowS b[k]) lay_ok rfl rfl rfl rfl (by omega) hbt ?_) | refine gd rfl rfl rfl (fun hg => ?_) (fun hg => ?_) | refine gn rfl rfl rfl (fun hg => ?_) (fun hg => ?_) | refine dwr (by omega) ?_ | refine dwl ?_ | refine dws lay_ok rfl rfl rfl rfl rfl rfl rfl ?_ | refine dwu lay_ok rfl rfl rfl rfl rfl rfl rfl rfl rfl ?_ | refine dw_end ?_ | refine dw_skip rfl rfl rfl ?_ | refine dwn lay_ok rfl rfl rfl rfl rfl ?_ | refine dwb rfl rfl rfl rfl rfl (by (first | refine st_index (rowS a[k]) lay_ok rfl rfl rfl rfl (by omega) hat ?_ | refine st_index (rowS b[k]) lay_ok rfl rfl rfl rfl (by omega) hbt ?_); exact fin rfl) rfl rfl ?_ | refine dwg rfl rfl rfl rfl rfl (by (first | refine st_index (rowS a[k]) lay_ok rfl rfl rfl rfl (by omega) hat ?_ | refine st_index (rowS b[k]) lay_ok rfl rfl rfl rfl (by omega) hbt ?_); exact fin rfl) rfl rfl rfl rfl rfl ?_ | refine dw_dec rfl rfl rfl (fun hg => ?_) (fun hg => ?_) | refine dw_ndec rfl rfl rfl (fun hg => ?_) (fun hg => ?_)
      · refine f_r [] rfl trivial rfl ⟨?_, rfl⟩
        rw [hu, decide_eq_false (fun e => hc (by
          have e2 := congrArg (fun l => l[k]?) e
          simp only [List.getElem?_take, hka, if_true] at e2
          rw [List.getElem?_eq_getElem hka, List.getElem?_eq_getElem hkb] at e2
          exact Option.some.inj e2))]; rfl
      · refine n_rr (k + 1) ?_ (.of [] (by (repeat' first | exact trivial | refine And.intro ?_ ?_ | rfl); first | done | fail) (by (repeat' first | exact trivial | refine And.intro ?_ ?_ | rfl); first | done | fail) rfl) ?_
        · omega
        · refine ⟨hka, fun j h1 h2 h3 => ?_⟩
          by_cases hj : j = k
          · subst hj; exact Decidable.not_not.1 hc
          · exact hall j h1 h2 (by omega)
    · refine f_r [] rfl trivial rfl ⟨?_, rfl⟩
      rw [hu, decide_eq_true (list_ext (by rw [List.length_take]; omega) fun j h1 h2 => by
        rw [List.getElem_take]; exact hall j h1 (by rw [List.length_take] at h2; omega) (by omega))]; rfl
end Go.Proofs.YtgjoloaajocafaaDoorFn
namespace Go.Proofs.YtgjoloaajocafaaDoorFn
open Go.Proofs.YtgjoloaajocafaaDoorAl Go.Proofs.Tryd
attribute [local irreducible] IntKind.wrap CodeOk OpsL OpG ACalls thn inBlk rndR cutR WkR Wk fnR DW ExtOk partsOf
theorem b44 : HasBody prog 44 := ⟨f44, func44, Option.some_ne_none _, by decide⟩
theorem b28 : HasBody prog 28 := ⟨f28, func28, Option.some_ne_none _, by decide⟩
set_option maxRecDepth 4000 in
theorem refWhole_ok (e : EV) (hk : e.keys.length ≤ 4000000000) : ACalls prog 44 0 [.st (.agg (rowE e))] [] fun r h => r = B (wholeB e) ∧ h = [] := by
  obtain ⟨p, z, l⟩ := e
  have hm : (List.map rowS l).length = l.length := List.length_map _
  simp only [rowE, wholeB] at hk ⊢
  refine fnC lay_ok func44 rfl rfl rfl rfl rfl ?_
  repeat' first | refine o_frb 0 [.str p, .int .i64 z, .sl 1 (l.map rowS)] rfl rfl rfl (by (repeat' first | exact trivial | refine And.intro ?_ ?_ | rfl); first | done | fail) (by (repeat' first | exact trivial | refine And.intro ?_ ?_ | rfl); first | done | fail) rfl rfl ?_ | refine wr (by omega) ?_ | refine ln ?_ | refine stp lay_ok rfl ?_ | refine fin ?_ | refine n_thn ?_ | refine n_blk ?_ | refine e_thn ?_ | refine e_hit ?_ | refine e_miss rfl ?_ | refine r_thn ?_ | refine r_blk ?_ | refine e_rr ?_ | refine r_rr ?_ | refine e_cr ?_ | refine r_cr ?_ | refine .seq ?_ | refine reg ?_ | refine .block ?_ | refine .skip ?_ | refine .ret ?_ | refine .exit ?_ | refine cndT rfl ?_ | refine cndF rfl ?_ | refine c_dec rfl (fun hc => ?_) (fun hc => ?_) | refine c_ndec rfl (fun hc => ?_) (fun hc => ?_) | refine cnd rfl (fun hc => ?_) (fun hc => ?_) | refine gd rfl rfl rfl (fun hg => ?_) (fun hg => ?_) | refine gn rfl rfl rfl (fun hg => ?_) (fun hg => ?_) | refine dwr (by omega) ?_ | refine dwl ?_ | refine dws lay_ok rfl rfl rfl rfl rfl rfl rfl ?_ | refine dwu lay_ok rfl rfl rfl rfl rfl rfl rfl rfl rfl ?_ | refine dw_end ?_ | refine dw_skip rfl rfl rfl ?_ | refine dwn lay_ok rfl rfl rfl rfl rfl ?_ | refine dw_dec rfl rfl rfl (fun hg => ?_) (fun hg => ?_) | refine dw_ndec rfl rfl rfl (fun hg => ?_) (fun hg => ?_)
  refine lpR (fun k => k ≤ l.length ∧ (l.take k).all keyOk = true ∧ tot (l.take k) ≤ 64 * k) (fun k => l.length - k) (fun k => [(4, I k), (3, I (tot (l.take k)))]) (fun k => []) (0) [1] [] [] rfl rfl rfl (.of [] (by (repeat' first | exact trivial | refine And.intro ?_ ?_ | rfl); first | done | fail) (by (repeat' first | exact trivial | refine And.intro ?_ ?_ | rfl); first | done | fail) rfl) ?_ ?_
  · exact ⟨Nat.zero_le _, rfl, by simp [tot]⟩
  rintro k ⟨h1, h2, h3⟩
  refine nrm rfl rfl ?_
  by_cases hk' : k < l.length
  · have hat := at_rowS hk'
    have ht := tot_take hk'
    have ha := all_take (p := keyOk) hk'
    generalize hx : l[k] = x at *
    repeat' first | refine wr (by omega) ?_ | refine ln ?_ | refine stp lay_ok rfl ?_ | refine fin ?_ | refine n_thn ?_ | refine n_blk ?_ | refine e_thn ?_ | refine e_hit ?_ | refine e_miss rfl ?_ | refine r_thn ?_ | refine r_blk ?_ | refine e_rr ?_ | refine r_rr ?_ | refine e_cr ?_ | refine r_cr ?_ | refine .seq ?_ | refine reg ?_ | refine .block ?_ | refine .skip ?_ | refine .ret ?_ | refine .exit ?_ | refine cndT rfl ?_ | refine cndF rfl ?_ | refine c_dec rfl (fun hc => ?_) (fun hc => ?_) | refine c_ndec rfl (fun hc => ?_) (fun hc => ?_) | refine cnd rfl (fun hc => ?_) (fun hc => ?_) | ((first | refine o_none rfl ?_ | refine o_none_ ?_ | refine o_yes rfl rfl rfl ?_ | refine o_yes_ rfl rfl ?_); first | refine st_index (rowS x) lay_ok rfl rfl rfl rfl (by omega) hat ?_) | refine gd rfl rfl rfl (fun hg => ?_) (fun hg => ?_) | refine gn rfl rfl rfl (fun hg => ?_) (fun hg => ?_) | refine dwr (by omega) ?_ | refine dwl ?_ | refine dws lay_ok rfl rfl rfl rfl rfl rfl rfl ?_ | refine dwu lay_ok rfl rfl rfl rfl rfl rfl rfl rfl rfl ?_ | refine dw_end ?_ | refine dw_skip rfl rfl rfl ?_ | refine dwn lay_ok rfl rfl rfl rfl rfl ?_ | refine dwb rfl rfl rfl rfl rfl (by (first | refine st_index (rowS x) lay_ok rfl rfl rfl rfl (by omega) hat ?_); exact fin rfl) rfl rfl ?_ | refine dwg rfl rfl rfl rfl rfl (by (first | refine st_index (rowS x) lay_ok rfl rfl rfl rfl (by omega) hat ?_); exact fin rfl) rfl rfl rfl rfl rfl ?_ | refine dw_dec rfl rfl rfl (fun hg => ?_) (fun hg => ?_) | refine dw_ndec rfl rfl rfl (fun hg => ?_) (fun hg => ?_)
    all_goals first
      | (exfalso; omega)
      | (refine f_r [] rfl trivial rfl ⟨?_, rfl⟩
         have : l.all keyOk = false := all_not hk' (by rw [hx]; simp [keyOk]; omega)
         rw [this]; rfl)
      | (refine n_rr (k + 1) ?_ (.of [] (by (repeat' first | exact trivial | refine And.intro ?_ ?_ | rfl | rw [ht]; push_cast; rfl); first | done | fail) (by (repeat' first | exact trivial | refine And.intro ?_ ?_ | rfl | rw [ht]; push_cast; rfl); first | done | fail) rfl) ?_
         · omega
         · refine ⟨hk', ?_, by omega⟩
           rw [ha, h2]; simp [keyOk]; omega)
  · have hk2 : k = l.length := by omega
    subst hk2
    rw [List.take_length] at *
    rw [h2]
    repeat' first | refine wr (by omega) ?_ | refine ln ?_ | refine stp lay_ok rfl ?_ | refine fin ?_ | refine n_thn ?_ | refine n_blk ?_ | refine e_thn ?_ | refine e_hit ?_ | refine e_miss rfl ?_ | refine r_thn ?_ | refine r_blk ?_ | refine e_rr ?_ | refine r_rr ?_ | refine e_cr ?_ | refine r_cr ?_ | refine .seq ?_ | refine reg ?_ | refine .block ?_ | refine .skip ?_ | refine .ret ?_ | refine .exit ?_ | refine cndT rfl ?_ | refine cndF rfl ?_ | refine c_dec rfl (fun hc => ?_) (fun hc => ?_) | refine c_ndec rfl (fun hc => ?_) (fun hc => ?_) | refine cnd rfl (fun hc => ?_) (fun hc => ?_) | refine gd rfl rfl rfl (fun hg => ?_) (fun hg => ?_) | refine gn rfl rfl rfl (fun hg => ?_) (fun hg => ?_) | refine dwr (by omega) ?_ | refine dwl ?_ | refine dws lay_ok rfl rfl rfl rfl rfl rfl rfl ?_ | refine dwu lay_ok rfl rfl rfl rfl rfl rfl rfl rfl rfl ?_ | refine dw_end ?_ | refine dw_skip rfl rfl rfl ?_ | refine dwn lay_ok rfl rfl rfl rfl rfl ?_ | refine dw_dec rfl rfl rfl (fun hg => ?_) (fun hg => ?_) | refine dw_ndec rfl rfl rfl (fun hg => ?_) (fun hg => ?_)
    all_goals first
      | (exfalso; omega)
      | (refine f_r [] rfl trivial rfl ⟨?_, rfl⟩
         simp only [retOf, B, AV.st.injEq, SV.bool.injEq]
         rw [Bool.eq_iff_iff]; simp; omega)
/-- What the reference's check tells. -/
def checkP (l : List EV) : Int × Int := if 32 < l.length then (7, -1) else match badFrom l l.length 0 with
  | none => (0, -1)
  | some (i, n) => (n, i)
def aheadB (l : List EV) (i : Nat) (p : ByteArray) : Bool := decide (0 < i) && (match l[i - 1]? with | some x => !strLt x.path p | none => false)
theorem entryC_eq (l : List EV) (i : Nat) (e : EV) : entryC l i e = if pathOk e.path then (if (aheadB l i e.path || (l.take i).any (fun x => under x.path e.path)) = true then some 4 else if wholeB e then none else some 1) else some 2 := rfl
set_option maxHeartbeats 8000000 in
set_option maxRecDepth 4000 in
theorem refCheck_ok (l : List EV) (hl : l.length ≤ 4000000000) (hp : ∀ e ∈ l, e.path.size ≤ 4000000000 - 1) (hk : ∀ e ∈ l, e.keys.length ≤ 4000000000) :
    ACalls prog 28 0 [.st (.sl 3 (l.map rowE))] [] fun r h => r = .tuple [I (checkP l).1, I (checkP l).2] ∧ h = [] := by
  have hm : (List.map rowE l).length = l.length := List.length_map _
  refine fnC lay_ok func28 rfl rfl rfl rfl rfl ?_
  repeat' first | refine wr (by omega) ?_ | refine ln ?_ | refine stp lay_ok rfl ?_ | refine fin ?_ | refine n_thn ?_ | refine n_blk ?_ | refine e_thn ?_ | refine e_hit ?_ | refine e_miss rfl ?_ | refine r_thn ?_ | refine r_blk ?_ | refine e_rr ?_ | refine r_rr ?_ | refine e_cr ?_ | refine r_cr ?_ | refine .seq ?_ | refine reg ?_ | refine .block ?_ | refine .skip ?_ | refine .ret ?_ | refine .exit ?_ | refine cndT rfl ?_ | refine cndF rfl ?_ | refine c_dec rfl (fun hc => ?_) (fun hc => ?_) | refine c_ndec rfl (fun hc => ?_) (fun hc => ?_) | refine cnd rfl (fun hc => ?_) (fun hc => ?_) | refine gd rfl rfl rfl (fun hg => ?_) (fun hg => ?_) | refine gn rfl rfl rfl (fun hg => ?_) (fun hg => ?_) | refine dwr (by omega) ?_ | refine dwl ?_ | refine dws lay_ok rfl rfl rfl rfl rfl rfl rfl ?_ | refine dwu lay_ok rfl rfl rfl rfl rfl rfl rfl rfl rfl ?_ | refine dw_end ?_ | refine dw_skip rfl rfl rfl ?_ | refine dwn lay_ok rfl rfl rfl rfl rfl ?_ | refine dw_dec rfl rfl rfl (fun hg => ?_) (fun hg => ?_) | refine dw_ndec rfl rfl rfl (fun hg => ?_) (fun hg => ?_)
  · refine f_r [] rfl trivial rfl ⟨?_, rfl⟩
    have : 32 < l.length := by omega
    simp only [checkP, this, if_true]; rfl
  have h32 : ¬ 32 < l.length := by omega
  have hcp : checkP l = match badFrom l l.length 0 with
    | none => (0, -1)
    | some (i, n) => (n, i) := by rw [checkP, if_neg h32]
  generalize checkP l = CP at *
  refine lpR (fun k => k ≤ l.length ∧ badFrom l l.length 0 = badFrom l (l.length - k) k) (fun k => l.length - k) (fun k => [(4, I k)]) (fun k => []) (0) [0] [] [] rfl rfl rfl (.of [] (by (repeat' first | exact trivial | refine And.intro ?_ ?_ | rfl); first | done | fail) (by (repeat' first | exact trivial | refine And.intro ?_ ?_ | rfl); first | done | fail) rfl) ?_ ?_
  · exact ⟨Nat.zero_le _, rfl⟩
  rintro i ⟨h1, h2⟩
  refine nrm rfl rfl ?_
  rw [h2] at hcp
  by_cases hi : i < l.length
  case neg =>
    have : i = l.length := by omega
    subst this
    rw [Nat.sub_self] at hcp
    simp only [badFrom] at hcp
    repeat' first | refine wr (by omega) ?_ | refine ln ?_ | refine stp lay_ok rfl ?_ | refine fin ?_ | refine n_thn ?_ | refine n_blk ?_ | refine e_thn ?_ | refine e_hit ?_ | refine e_miss rfl ?_ | refine r_thn ?_ | refine r_blk ?_ | refine e_rr ?_ | refine r_rr ?_ | refine e_cr ?_ | refine r_cr ?_ | refine .seq ?_ | refine reg ?_ | refine .block ?_ | refine .skip ?_ | refine .ret ?_ | refine .exit ?_ | refine cndT rfl ?_ | refine cndF rfl ?_ | refine c_dec rfl (fun hc => ?_) (fun hc => ?_) | refine c_ndec rfl (fun hc => ?_) (fun hc => ?_) | refine cnd rfl (fun hc => ?_) (fun hc => ?_) | refine gd rfl rfl rfl (fun hg => ?_) (fun hg => ?_) | refine gn rfl rfl rfl (fun hg => ?_) (fun hg => ?_) | refine dwr (by omega) ?_ | refine dwl ?_ | refine dws lay_ok rfl rfl rfl rfl rfl rfl rfl ?_ | refine dwu lay_ok rfl rfl rfl rfl rfl rfl rfl rfl rfl ?_ | refine dw_end ?_ | refine dw_skip rfl rfl rfl ?_ | refine dwn lay_ok rfl rfl rfl rfl rfl ?_ | refine dw_dec rfl rfl rfl (fun hg => ?_) (fun hg => ?_) | refine dw_ndec rfl rfl rfl (fun hg => ?_) (fun hg => ?_)
    · exfalso; omega
    · refine f_r [] rfl trivial rfl ⟨?_, rfl⟩
      rw [hcp]; rfl
  have hat := at_rowE hi
  have hb := badFrom_step l i hi
  have hpl := hp _ (List.getElem_mem hi)
  have hpath := refPath_ok l[i].path hpl
  have hwh := refWhole_ok l[i] (hk _ (List.getElem_mem hi))
  have hec := entryC_eq l i l[i]
  have hah : aheadB l i l[i].path = (decide (0 < i) && (match l[i - 1]? with | some x => !strLt x.path l[i].path | none => false)) := rfl
  have hund : ∀ (j : Nat) (hj : j < i), ACalls prog 43 0 [Sx (l[j]'(by omega)).path, Sx l[i].path] [] fun r h => r = B (under (l[j]'(by omega)).path l[i].path) ∧ h = [] := fun j hj =>
    refUnder_ok _ _ (hp _ (List.getElem_mem _)) hpl
  generalize hx : l[i] = x at *
  obtain ⟨p, z, ks⟩ := x
  simp only at *
  cases hpo : pathOk p <;> rw [hpo] at hpath hec
  · simp only [Bool.false_eq_true, if_false] at hec
    rw [hec] at hb
    simp only at hb
    rw [hb] at hcp
    repeat' first | refine wr (by omega) ?_ | refine ln ?_ | refine stp lay_ok rfl ?_ | refine fin ?_ | refine n_thn ?_ | refine n_blk ?_ | refine e_thn ?_ | refine e_hit ?_ | refine e_miss rfl ?_ | refine r_thn ?_ | refine r_blk ?_ | refine e_rr ?_ | refine r_rr ?_ | refine e_cr ?_ | refine r_cr ?_ | refine .seq ?_ | refine reg ?_ | refine .block ?_ | refine .skip ?_ | refine .ret ?_ | refine .exit ?_ | refine cndT rfl ?_ | refine cndF rfl ?_ | refine c_dec rfl (fun hc => ?_) (fun hc => ?_) | refine c_ndec rfl (fun hc => ?_) (fun hc => ?_) | refine cnd rfl (fun hc => ?_) (fun hc => ?_) | ((first | refine o_none rfl ?_ | refine o_none_ ?_ | refine o_yes rfl rfl rfl ?_ | refine o_yes_ rfl rfl ?_); first | refine st_index (rowE ⟨p, z, ks⟩) lay_ok rfl rfl rfl rfl (by omega) hat ?_ | refine st_pure (hpath) b42 rfl rfl rfl rfl ?_) | refine gd rfl rfl rfl (fun hg => ?_) (fun hg => ?_) | refine gn rfl rfl rfl (fun hg => ?_) (fun hg => ?_) | refine dwr (by omega) ?_ | refine dwl ?_ | refine dws lay_ok rfl rfl rfl rfl rfl rfl rfl ?_ | refine dwu lay_ok rfl rfl rfl rfl rfl rfl rfl rfl rfl ?_ | refine dw_end ?_ | refine dw_skip rfl rfl rfl ?_ | refine dwn lay_ok rfl rfl rfl rfl rfl ?_ | refine dwb rfl rfl rfl rfl rfl (by (first | refine st_index (rowE ⟨p, z, ks⟩) lay_ok rfl rfl rfl rfl (by omega) hat ?_ | refine st_pure (hpath) b42 rfl rfl rfl rfl ?_); exact fin rfl) rfl rfl ?_ | refine dwg rfl rfl rfl rfl rfl (by (first | refine st_index (rowE ⟨p, z, ks⟩) lay_ok rfl rfl rfl rfl (by omega) hat ?_ | refine st_pure (hpath) b42 rfl rfl rfl rfl ?_); exact fin rfl) rfl rfl rfl rfl rfl ?_ | refine dw_dec rfl rfl rfl (fun hg => ?_) (fun hg => ?_) | refine dw_ndec rfl rfl rfl (fun hg => ?_) (fun hg => ?_)
    · refine f_r [] rfl trivial rfl ⟨?_, rfl⟩
      rw [hcp]; rfl
    · exfalso; omega
  simp only [if_true] at hec
  generalize hbA : aheadB l i p = bA at *
  have hinner : ∀ j, j ≤ i → (l.take i).take j = l.take j := fun j hj => by rw [List.take_take, Nat.min_eq_left hj]
  have hjr : ∀ j (hj : j < i), (l.map rowE)[((j : Nat) : Int).toNat]? = some (rowE (l[j]'(by omega))) := fun j hj => at_rowE (by omega)
  have hts : ∀ j (hj : j < i), (l.take (j + 1)).any (fun x => under x.path p) = ((l.take j).any (fun x => under x.path p) || under (l[j]'(by omega)).path p) := fun j hj => by
    rw [List.take_succ_eq_append_getElem (by omega), List.any_append]; simp
  have hnoi : ∀ j, i ≤ j → ¬ ((j : Nat) : Int) < (i : Int) := fun j hj => by omega
  obtain ⟨q, hq⟩ : ∃ q : Bool, q = (match l[i - 1]? with | some x => !strLt x.path p | none => false) := ⟨_, rfl⟩
  rcases Nat.eq_zero_or_pos i with h0 | h0
  all_goals first
    | (have h0' : i = 0 := h0
       have hbA' : bA = false := by rw [hah]; simp [h0]
       repeat' first | refine wr (by omega) ?_ | refine ln ?_ | refine stp lay_ok rfl ?_ | refine fin ?_ | refine n_thn ?_ | refine n_blk ?_ | refine e_thn ?_ | refine e_hit ?_ | refine e_miss rfl ?_ | refine r_thn ?_ | refine r_blk ?_ | refine e_rr ?_ | refine r_rr ?_ | refine e_cr ?_ | refine r_cr ?_ | refine .seq ?_ | refine reg ?_ | refine .block ?_ | refine .skip ?_ | refine .ret ?_ | refine .exit ?_ | refine cndT rfl ?_ | refine cndF rfl ?_ | refine c_dec rfl (fun hc => ?_) (fun hc => ?_) | refine c_ndec rfl (fun hc => ?_) (fun hc => ?_) | refine cnd rfl (fun hc => ?_) (fun hc => ?_) | ((first | refine o_none rfl ?_ | refine o_none_ ?_ | refine o_yes rfl rfl rfl ?_ | refine o_yes_ rfl rfl ?_); first | refine st_index (rowE ⟨p, z, ks⟩) lay_ok rfl rfl rfl rfl (by omega) hat ?_ | refine st_pure (hpath) b42 rfl rfl rfl rfl ?_) | refine gd rfl rfl rfl (fun hg => ?_) (fun hg => ?_) | refine gn rfl rfl rfl (fun hg => ?_) (fun hg => ?_) | refine dwr (by omega) ?_ | refine dwl ?_ | refine dws lay_ok rfl rfl rfl rfl rfl rfl rfl ?_ | refine dwu lay_ok rfl rfl rfl rfl rfl rfl rfl rfl rfl ?_ | refine dw_end ?_ | refine dw_skip rfl rfl rfl ?_ | refine dwn lay_ok rfl rfl rfl rfl rfl ?_ | refine dwb rfl rfl rfl rfl rfl (by (first | refine st_index (rowE ⟨p, z, ks⟩) lay_ok rfl rfl rfl rfl (by omega) hat ?_ | refine st_pure (hpath) b42 rfl rfl rfl rfl ?_); exact fin rfl) rfl rfl ?_ | refine dwg rfl rfl rfl rfl rfl (by (first | refine st_index (rowE ⟨p, z, ks⟩) lay_ok rfl rfl rfl rfl (by omega) hat ?_ | refine st_pure (hpath) b42 rfl rfl rfl rfl ?_); exact fin rfl) rfl rfl rfl rfl rfl ?_ | refine dw_dec rfl rfl rfl (fun hg => ?_) (fun hg => ?_) | refine dw_ndec rfl rfl rfl (fun hg => ?_) (fun hg => ?_)
       all_goals first
         | (exfalso; omega)
         | skip
       refine dreg [(0, [], []), (1, [0], []), (2, [0, 1], []), (3, [0, 1, 2], [31, 32, 36, 37, 38, 39, 40]), (4, [0, 1, 2], [30, 36, 37, 38, 39, 40]), (5, [0, 1, 2, 4], [30, 36, 37, 38, 39, 40]), (6, [0, 1, 2, 3, 4, 5], [36, 37, 38, 39, 40]), (7, [0, 1, 2, 3, 4, 5, 6], [36, 37, 38, 39, 40]), (8, [0, 1, 2, 3, 4, 5, 6, 7], [36, 37, 38, 39, 40]), (9, [0, 1, 2], [30, 31, 32, 33, 34, 35, 37]), (10, [0, 1, 2], [30, 31, 32, 33, 34, 35, 36]), (11, [0, 1, 2, 9, 10], [30, 31, 32, 33, 34, 35]), (12, [0, 1, 2, 9, 10, 11], [30, 31, 32, 33, 34, 35]), (13, [0, 1, 2, 9, 10, 11, 12], [30, 31, 32, 33, 34, 35]), (14, [0, 1, 2, 3, 4, 5, 6, 7, 8, 9, 10, 11, 12, 13], []), (15, [0, 1, 2, 3, 4, 5, 6, 7, 8, 9, 10, 11, 12, 13, 14], []), (16, [0, 1, 2, 3, 4, 5, 6, 7, 8, 9, 10, 11, 12, 13, 14, 15], [])] mixed (by kernel_rfl) ?_
       repeat' first | refine wr (by omega) ?_ | refine ln ?_ | refine stp lay_ok rfl ?_ | refine fin ?_ | refine n_thn ?_ | refine n_blk ?_ | refine e_thn ?_ | refine e_hit ?_ | refine e_miss rfl ?_ | refine r_thn ?_ | refine r_blk ?_ | refine e_rr ?_ | refine r_rr ?_ | refine e_cr ?_ | refine r_cr ?_ | refine .seq ?_ | refine reg ?_ | refine .block ?_ | refine .skip ?_ | refine .ret ?_ | refine .exit ?_ | refine cndT rfl ?_ | refine cndF rfl ?_ | refine c_dec rfl (fun hc => ?_) (fun hc => ?_) | refine c_ndec rfl (fun hc => ?_) (fun hc => ?_) | refine cnd rfl (fun hc => ?_) (fun hc => ?_) | refine gd rfl rfl rfl (fun hg => ?_) (fun hg => ?_) | refine gn rfl rfl rfl (fun hg => ?_) (fun hg => ?_) | refine dwr (by omega) ?_ | refine dwl ?_ | refine dws lay_ok rfl rfl rfl rfl rfl rfl rfl ?_ | refine dwu lay_ok rfl rfl rfl rfl rfl rfl rfl rfl rfl ?_ | refine dw_end ?_ | refine dw_skip rfl rfl rfl ?_ | refine dwn lay_ok rfl rfl rfl rfl rfl ?_ | refine dw_dec rfl rfl rfl (fun hg => ?_) (fun hg => ?_) | refine dw_ndec rfl rfl rfl (fun hg => ?_) (fun hg => ?_)
       all_goals first
         | (exfalso; omega)
         | skip
       clear hg h0 h0')
    | (have hi1 : i - 1 < l.length := by omega
       have hbA' : bA = !strLt (l[i - 1]).path p := by
         rw [hah, List.getElem?_eq_getElem hi1]; simp [h0]
       have hat1 : (l.map rowE)[((i : Int) - 1).toNat]? = some (rowE l[i - 1]) := by
         rw [← at_rowE hi1]; congr 1; omega
       generalize l[i - 1] = y at *
       repeat' first | refine wr (by omega) ?_ | refine ln ?_ | refine stp lay_ok rfl ?_ | refine fin ?_ | refine n_thn ?_ | refine n_blk ?_ | refine e_thn ?_ | refine e_hit ?_ | refine e_miss rfl ?_ | refine r_thn ?_ | refine r_blk ?_ | refine e_rr ?_ | refine r_rr ?_ | refine e_cr ?_ | refine r_cr ?_ | refine .seq ?_ | refine reg ?_ | refine .block ?_ | refine .skip ?_ | refine .ret ?_ | refine .exit ?_ | refine cndT rfl ?_ | refine cndF rfl ?_ | refine c_dec rfl (fun hc => ?_) (fun hc => ?_) | refine c_ndec rfl (fun hc => ?_) (fun hc => ?_) | refine cnd rfl (fun hc => ?_) (fun hc => ?_) | ((first | refine o_none rfl ?_ | refine o_none_ ?_ | refine o_yes rfl rfl rfl ?_ | refine o_yes_ rfl rfl ?_); first | refine st_index (rowE ⟨p, z, ks⟩) lay_ok rfl rfl rfl rfl (by omega) hat ?_ | refine st_pure (hpath) b42 rfl rfl rfl rfl ?_) | refine gd rfl rfl rfl (fun hg => ?_) (fun hg => ?_) | refine gn rfl rfl rfl (fun hg => ?_) (fun hg => ?_) | refine dwr (by omega) ?_ | refine dwl ?_ | refine dws lay_ok rfl rfl rfl rfl rfl rfl rfl ?_ | refine dwu lay_ok rfl rfl rfl rfl rfl rfl rfl rfl rfl ?_ | refine dw_end ?_ | refine dw_skip rfl rfl rfl ?_ | refine dwn lay_ok rfl rfl rfl rfl rfl ?_ | refine dwb rfl rfl rfl rfl rfl (by (first | refine st_index (rowE ⟨p, z, ks⟩) lay_ok rfl rfl rfl rfl (by omega) hat ?_ | refine st_pure (hpath) b42 rfl rfl rfl rfl ?_); exact fin rfl) rfl rfl ?_ | refine dwg rfl rfl rfl rfl rfl (by (first | refine st_index (rowE ⟨p, z, ks⟩) lay_ok rfl rfl rfl rfl (by omega) hat ?_ | refine st_pure (hpath) b42 rfl rfl rfl rfl ?_); exact fin rfl) rfl rfl rfl rfl rfl ?_ | refine dw_dec rfl rfl rfl (fun hg => ?_) (fun hg => ?_) | refine dw_ndec rfl rfl rfl (fun hg => ?_) (fun hg => ?_)
       all_goals first
         | (exfalso; omega)
         | skip
       refine dreg [(0, [], []), (1, [0], []), (2, [0, 1], []), (3, [0, 1, 2], [31, 32, 36, 37, 38, 39, 40]), (4, [0, 1, 2], [30, 36, 37, 38, 39, 40]), (5, [0, 1, 2, 4], [30, 36, 37, 38, 39, 40]), (6, [0, 1, 2, 3, 4, 5], [36, 37, 38, 39, 40]), (7, [0, 1, 2, 3, 4, 5, 6], [36, 37, 38, 39, 40]), (8, [0, 1, 2, 3, 4, 5, 6, 7], [36, 37, 38, 39, 40]), (9, [0, 1, 2], [30, 31, 32, 33, 34, 35, 37]), (10, [0, 1, 2], [30, 31, 32, 33, 34, 35, 36]), (11, [0, 1, 2, 9, 10], [30, 31, 32, 33, 34, 35]), (12, [0, 1, 2, 9, 10, 11], [30, 31, 32, 33, 34, 35]), (13, [0, 1, 2, 9, 10, 11, 12], [30, 31, 32, 33, 34, 35]), (14, [0, 1, 2, 3, 4, 5, 6, 7, 8, 9, 10, 11, 12, 13], []), (15, [0, 1, 2, 3, 4, 5, 6, 7, 8, 9, 10, 11, 12, 13, 14], []), (16, [0, 1, 2, 3, 4, 5, 6, 7, 8, 9, 10, 11, 12, 13, 14, 15], [])] mixed (by kernel_rfl) ?_
       repeat' first | refine wr (by omega) ?_ | refine ln ?_ | refine stp lay_ok rfl ?_ | refine fin ?_ | refine n_thn ?_ | refine n_blk ?_ | refine e_thn ?_ | refine e_hit ?_ | refine e_miss rfl ?_ | refine r_thn ?_ | refine r_blk ?_ | refine e_rr ?_ | refine r_rr ?_ | refine e_cr ?_ | refine r_cr ?_ | refine .seq ?_ | refine reg ?_ | refine .block ?_ | refine .skip ?_ | refine .ret ?_ | refine .exit ?_ | refine cndT rfl ?_ | refine cndF rfl ?_ | refine c_dec rfl (fun hc => ?_) (fun hc => ?_) | refine c_ndec rfl (fun hc => ?_) (fun hc => ?_) | refine cnd rfl (fun hc => ?_) (fun hc => ?_) | ((first | refine o_none rfl ?_ | refine o_none_ ?_ | refine o_yes rfl rfl rfl ?_ | refine o_yes_ rfl rfl ?_); first | refine st_index (rowE ⟨p, z, ks⟩) lay_ok rfl rfl rfl rfl (by omega) hat ?_ | refine st_index (rowE y) lay_ok rfl rfl rfl rfl (by omega) hat1 ?_) | refine gd rfl rfl rfl (fun hg => ?_) (fun hg => ?_) | refine gn rfl rfl rfl (fun hg => ?_) (fun hg => ?_) | refine dwr (by omega) ?_ | refine dwl ?_ | refine dws lay_ok rfl rfl rfl rfl rfl rfl rfl ?_ | refine dwu lay_ok rfl rfl rfl rfl rfl rfl rfl rfl rfl ?_ | refine dw_end ?_ | refine dw_skip rfl rfl rfl ?_ | refine dwn lay_ok rfl rfl rfl rfl rfl ?_ | refine dwb rfl rfl rfl rfl rfl (by (first | refine st_index (rowE ⟨p, z, ks⟩) lay_ok rfl rfl rfl rfl (by omega) hat ?_ | refine st_index (rowE y) lay_ok rfl rfl rfl rfl (by omega) hat1 ?_); exact fin rfl) rfl rfl ?_ | refine dwg rfl rfl rfl rfl rfl (by (first | refine st_index (rowE ⟨p, z, ks⟩) lay_ok rfl rfl rfl rfl (by omega) hat ?_ | refine st_index (rowE y) lay_ok rfl rfl rfl rfl (by omega) hat1 ?_); exact fin rfl) rfl rfl rfl rfl rfl ?_ | refine dw_dec rfl rfl rfl (fun hg => ?_) (fun hg => ?_) | refine dw_ndec rfl rfl rfl (fun hg => ?_) (fun hg => ?_)
       all_goals first
         | (exfalso; omega)
         | skip)
  all_goals
    refine lpR (fun (j, b) => j ≤ i ∧ b = (bA || (l.take j).any (fun x => under x.path p))) (fun (j, b) => i - j) (fun (j, b) => [(7, I j), (6, B b)]) (fun (j, b) => []) ((0, _)) [0, 4] [] [] rfl rfl rfl (.of [] (by (repeat' first | exact trivial | refine And.intro ?_ ?_ | rfl); first | done | fail) (by (repeat' first | exact trivial | refine And.intro ?_ ?_ | rfl); first | done | fail) rfl) ?_ ?_
    · exact ⟨Nat.zero_le _, by rw [hbA']; simp⟩
    rintro ⟨j, b⟩ ⟨hj, hjb⟩
    refine nrm rfl rfl ?_
    by_cases hji : j < i
    · have hun := hund j hji
      have hatj := hjr j hji
      have htj := hts j hji
      generalize l[j] = y at *
      obtain ⟨p', z', ks'⟩ := y
      simp only at *
      cases b
      · repeat' first | refine wr (by omega) ?_ | refine ln ?_ | refine stp lay_ok rfl ?_ | refine fin ?_ | refine n_thn ?_ | refine n_blk ?_ | refine e_thn ?_ | refine e_hit ?_ | refine e_miss rfl ?_ | refine r_thn ?_ | refine r_blk ?_ | refine e_rr ?_ | refine r_rr ?_ | refine e_cr ?_ | refine r_cr ?_ | refine .seq ?_ | refine reg ?_ | refine .block ?_ | refine .skip ?_ | refine .ret ?_ | refine .exit ?_ | refine cndT rfl ?_ | refine cndF rfl ?_ | refine c_dec rfl (fun hc => ?_) (fun hc => ?_) | refine c_ndec rfl (fun hc => ?_) (fun hc => ?_) | refine cnd rfl (fun hc => ?_) (fun hc => ?_) | refine gd rfl rfl rfl (fun hg => ?_) (fun hg => ?_) | refine gn rfl rfl rfl (fun hg => ?_) (fun hg => ?_) | refine dwr (by omega) ?_ | refine dwl ?_ | refine dws lay_ok rfl rfl rfl rfl rfl rfl rfl ?_ | refine dwu lay_ok rfl rfl rfl rfl rfl rfl rfl rfl rfl ?_ | refine dw_end ?_ | refine dw_skip rfl rfl rfl ?_ | refine dwn lay_ok rfl rfl rfl rfl rfl ?_ | refine dw_dec rfl rfl rfl (fun hg => ?_) (fun hg => ?_) | refine dw_ndec rfl rfl rfl (fun hg => ?_) (fun hg => ?_)
        all_goals first
          | (exfalso; omega)
          | skip
        refine dreg [(0, [], []), (1, [0], []), (2, [0, 1], [51, 55, 56, 57, 58, 59]), (3, [0, 1], [50, 55, 56, 57, 58, 59]), (4, [0, 1, 2, 3], [55, 56, 57, 58, 59]), (5, [0, 1, 2, 3, 4], [55, 56, 57, 58, 59]), (6, [0, 1, 2, 3, 4, 5], [55, 56, 57, 58, 59]), (7, [0, 1], [50, 51, 52, 53, 54, 56]), (8, [0, 1], [50, 51, 52, 53, 54, 55]), (9, [0, 1, 7, 8], [50, 51, 52, 53, 54]), (10, [0, 1, 7, 8, 9], [50, 51, 52, 53, 54]), (11, [0, 1, 7, 8, 9, 10], [50, 51, 52, 53, 54]), (12, [0, 1, 2, 3, 4, 5, 6, 7, 8, 9, 10, 11], []), (13, [0, 1, 2, 3, 4, 5, 6, 7, 8, 9, 10, 11, 12], []), (14, [0, 1, 2, 3, 4, 5, 6, 7, 8, 9, 10, 11, 12, 13], [])] mixed (by kernel_rfl) ?_
        repeat' first | refine wr (by omega) ?_ | refine ln ?_ | refine stp lay_ok rfl ?_ | refine fin ?_ | refine n_thn ?_ | refine n_blk ?_ | refine e_thn ?_ | refine e_hit ?_ | refine e_miss rfl ?_ | refine r_thn ?_ | refine r_blk ?_ | refine e_rr ?_ | refine r_rr ?_ | refine e_cr ?_ | refine r_cr ?_ | refine .seq ?_ | refine reg ?_ | refine .block ?_ | refine .skip ?_ | refine .ret ?_ | refine .exit ?_ | refine cndT rfl ?_ | refine cndF rfl ?_ | refine c_dec rfl (fun hc => ?_) (fun hc => ?_) | refine c_ndec rfl (fun hc => ?_) (fun hc => ?_) | refine cnd rfl (fun hc => ?_) (fun hc => ?_) | ((first | refine o_none rfl ?_ | refine o_none_ ?_ | refine o_yes rfl rfl rfl ?_ | refine o_yes_ rfl rfl ?_); first | refine st_index (rowE ⟨p', z', ks'⟩) lay_ok rfl rfl rfl rfl (by omega) hatj ?_ | refine st_index (rowE ⟨p, z, ks⟩) lay_ok rfl rfl rfl rfl (by omega) hat ?_ | refine st_pure (hun) b43 rfl rfl rfl rfl ?_) | refine gd rfl rfl rfl (fun hg => ?_) (fun hg => ?_) | refine gn rfl rfl rfl (fun hg => ?_) (fun hg => ?_) | refine dwr (by omega) ?_ | refine dwl ?_ | refine dws lay_ok rfl rfl rfl rfl rfl rfl rfl ?_ | refine dwu lay_ok rfl rfl rfl rfl rfl rfl rfl rfl rfl ?_ | refine dw_end ?_ | refine dw_skip rfl rfl rfl ?_ | refine dwn lay_ok rfl rfl rfl rfl rfl ?_ | refine dwb rfl rfl rfl rfl rfl (by (first | refine st_index (rowE ⟨p', z', ks'⟩) lay_ok rfl rfl rfl rfl (by omega) hatj ?_ | refine st_index (rowE ⟨p, z, ks⟩) lay_ok rfl rfl rfl rfl (by omega) hat ?_ | refine st_pure (hun) b43 rfl rfl rfl rfl ?_); exact fin rfl) rfl rfl ?_ | refine dwg rfl rfl rfl rfl rfl (by (first | refine st_index (rowE ⟨p', z', ks'⟩) lay_ok rfl rfl rfl rfl (by omega) hatj ?_ | refine st_index (rowE ⟨p, z, ks⟩) lay_ok rfl rfl rfl rfl (by omega) hat ?_ | refine st_pure (hun) b43 rfl rfl rfl rfl ?_); exact fin rfl) rfl rfl rfl rfl rfl ?_ | refine dw_dec rfl rfl rfl (fun hg => ?_) (fun hg => ?_) | refine dw_ndec rfl rfl rfl (fun hg => ?_) (fun hg => ?_)
        refine n_rr ((j + 1, under p' p)) ?_ (.of [] (by (repeat' first | exact trivial | refine And.intro ?_ ?_ | rfl); first | done | fail) (by (repeat' first | exact trivial | refine And.intro ?_ ?_ | rfl); first | done | fail) rfl) ?_
        · show i - (j + 1) < i - j; omega
        · refine ⟨hji, ?_⟩
          rw [htj]
          have := hjb.symm
          rw [Bool.or_eq_false_iff] at this
          rw [this.1, this.2]; rfl
      · repeat' first | refine wr (by omega) ?_ | refine ln ?_ | refine stp lay_ok rfl ?_ | refine fin ?_ | refine n_thn ?_ | refine n_blk ?_ | refine e_thn ?_ | refine e_hit ?_ | refine e_miss rfl ?_ | refine r_thn ?_ | refine r_blk ?_ | refine e_rr ?_ | refine r_rr ?_ | refine e_cr ?_ | refine r_cr ?_ | refine .seq ?_ | refine reg ?_ | refine .block ?_ | refine .skip ?_ | refine .ret ?_ | refine .exit ?_ | refine cndT rfl ?_ | refine cndF rfl ?_ | refine c_dec rfl (fun hc => ?_) (fun hc => ?_) | refine c_ndec rfl (fun hc => ?_) (fun hc => ?_) | refine cnd rfl (fun hc => ?_) (fun hc => ?_) | refine gd rfl rfl rfl (fun hg => ?_) (fun hg => ?_) | refine gn rfl rfl rfl (fun hg => ?_) (fun hg => ?_) | refine dwr (by omega) ?_ | refine dwl ?_ | refine dws lay_ok rfl rfl rfl rfl rfl rfl rfl ?_ | refine dwu lay_ok rfl rfl rfl rfl rfl rfl rfl rfl rfl ?_ | refine dw_end ?_ | refine dw_skip rfl rfl rfl ?_ | refine dwn lay_ok rfl rfl rfl rfl rfl ?_ | refine dw_dec rfl rfl rfl (fun hg => ?_) (fun hg => ?_) | refine dw_ndec rfl rfl rfl (fun hg => ?_) (fun hg => ?_)
        all_goals first
          | (exfalso; omega)
          | skip
        refine dreg [(0, [], []), (1, [0], []), (2, [0, 1], [51, 55, 56, 57, 58, 59]), (3, [0, 1], [50, 55, 56, 57, 58, 59]), (4, [0, 1, 2, 3], [55, 56, 57, 58, 59]), (5, [0, 1, 2, 3, 4], [55, 56, 57, 58, 59]), (6, [0, 1, 2, 3, 4, 5], [55, 56, 57, 58, 59]), (7, [0, 1], [50, 51, 52, 53, 54, 56]), (8, [0, 1], [50, 51, 52, 53, 54, 55]), (9, [0, 1, 7, 8], [50, 51, 52, 53, 54]), (10, [0, 1, 7, 8, 9], [50, 51, 52, 53, 54]), (11, [0, 1, 7, 8, 9, 10], [50, 51, 52, 53, 54]), (12, [0, 1, 2, 3, 4, 5, 6, 7, 8, 9, 10, 11], []), (13, [0, 1, 2, 3, 4, 5, 6, 7, 8, 9, 10, 11, 12], []), (14, [0, 1, 2, 3, 4, 5, 6, 7, 8, 9, 10, 11, 12, 13], [])] mixed (by kernel_rfl) ?_
        repeat' first | refine wr (by omega) ?_ | refine ln ?_ | refine stp lay_ok rfl ?_ | refine fin ?_ | refine n_thn ?_ | refine n_blk ?_ | refine e_thn ?_ | refine e_hit ?_ | refine e_miss rfl ?_ | refine r_thn ?_ | refine r_blk ?_ | refine e_rr ?_ | refine r_rr ?_ | refine e_cr ?_ | refine r_cr ?_ | refine .seq ?_ | refine reg ?_ | refine .block ?_ | refine .skip ?_ | refine .ret ?_ | refine .exit ?_ | refine cndT rfl ?_ | refine cndF rfl ?_ | refine c_dec rfl (fun hc => ?_) (fun hc => ?_) | refine c_ndec rfl (fun hc => ?_) (fun hc => ?_) | refine cnd rfl (fun hc => ?_) (fun hc => ?_) | refine gd rfl rfl rfl (fun hg => ?_) (fun hg => ?_) | refine gn rfl rfl rfl (fun hg => ?_) (fun hg => ?_) | refine dwr (by omega) ?_ | refine dwl ?_ | refine dws lay_ok rfl rfl rfl rfl rfl rfl rfl ?_ | refine dwu lay_ok rfl rfl rfl rfl rfl rfl rfl rfl rfl ?_ | refine dw_end ?_ | refine dw_skip rfl rfl rfl ?_ | refine dwn lay_ok rfl rfl rfl rfl rfl ?_ | refine dw_dec rfl rfl rfl (fun hg => ?_) (fun hg => ?_) | refine dw_ndec rfl rfl rfl (fun hg => ?_) (fun hg => ?_)
        refine n_rr ((j + 1, true)) ?_ (.of [] (by (repeat' first | exact trivial | refine And.intro ?_ ?_ | rfl); first | done | fail) (by (repeat' first | exact trivial | refine And.intro ?_ ?_ | rfl); first | done | fail) rfl) ?_
        · show i - (j + 1) < i - j; omega
        · refine ⟨hji, ?_⟩
          rw [htj, ← Bool.or_assoc, ← hjb]; rfl
    · have hje : j = i := by omega
      subst hje
      rw [← hjb] at hec
      cases b
      · simp only [Bool.false_eq_true, if_false] at hec
        cases hwb : wholeB ⟨p, z, ks⟩ <;> rw [hwb] at hwh hec
        · simp only [Bool.false_eq_true, if_false] at hec
          rw [hec] at hb
          simp only at hb
          rw [hb] at hcp
          repeat' first | refine wr (by omega) ?_ | refine ln ?_ | refine stp lay_ok rfl ?_ | refine fin ?_ | refine n_thn ?_ | refine n_blk ?_ | refine e_thn ?_ | refine e_hit ?_ | refine e_miss rfl ?_ | refine r_thn ?_ | refine r_blk ?_ | refine e_rr ?_ | refine r_rr ?_ | refine e_cr ?_ | refine r_cr ?_ | refine .seq ?_ | refine reg ?_ | refine .block ?_ | refine .skip ?_ | refine .ret ?_ | refine .exit ?_ | refine cndT rfl ?_ | refine cndF rfl ?_ | refine c_dec rfl (fun hc => ?_) (fun hc => ?_) | refine c_ndec rfl (fun hc => ?_) (fun hc => ?_) | refine cnd rfl (fun hc => ?_) (fun hc => ?_) | ((first | refine o_none rfl ?_ | refine o_none_ ?_ | refine o_yes rfl rfl rfl ?_ | refine o_yes_ rfl rfl ?_); first | refine st_index (rowE ⟨p, z, ks⟩) lay_ok rfl rfl rfl rfl (by omega) hat ?_ | refine st_pure (hwh) b44 rfl rfl rfl rfl ?_) | refine gd rfl rfl rfl (fun hg => ?_) (fun hg => ?_) | refine gn rfl rfl rfl (fun hg => ?_) (fun hg => ?_) | refine dwr (by omega) ?_ | refine dwl ?_ | refine dws lay_ok rfl rfl rfl rfl rfl rfl rfl ?_ | refine dwu lay_ok rfl rfl rfl rfl rfl rfl rfl rfl rfl ?_ | refine dw_end ?_ | refine dw_skip rfl rfl rfl ?_ | refine dwn lay_ok rfl rfl rfl rfl rfl ?_ | refine dwb rfl rfl rfl rfl rfl (by (first | refine st_index (rowE ⟨p, z, ks⟩) lay_ok rfl rfl rfl rfl (by omega) hat ?_ | refine st_pure (hwh) b44 rfl rfl rfl rfl ?_); exact fin rfl) rfl rfl ?_ | refine dwg rfl rfl rfl rfl rfl (by (first | refine st_index (rowE ⟨p, z, ks⟩) lay_ok rfl rfl rfl rfl (by omega) hat ?_ | refine st_pure (hwh) b44 rfl rfl rfl rfl ?_); exact fin rfl) rfl rfl rfl rfl rfl ?_ | refine dw_dec rfl rfl rfl (fun hg => ?_) (fun hg => ?_) | refine dw_ndec rfl rfl rfl (fun hg => ?_) (fun hg => ?_)
          all_goals first
            | (exfalso; omega)
            | (refine f_r [] rfl trivial rfl ⟨?_, rfl⟩; rw [hcp]; rfl)
        · simp only [if_true] at hec
          rw [hec] at hb
          simp only at hb
          repeat' first | refine wr (by omega) ?_ | refine ln ?_ | refine stp lay_ok rfl ?_ | refine fin ?_ | refine n_thn ?_ | refine n_blk ?_ | refine e_thn ?_ | refine e_hit ?_ | refine e_miss rfl ?_ | refine r_thn ?_ | refine r_blk ?_ | refine e_rr ?_ | refine r_rr ?_ | refine e_cr ?_ | refine r_cr ?_ | refine .seq ?_ | refine reg ?_ | refine .block ?_ | refine .skip ?_ | refine .ret ?_ | refine .exit ?_ | refine cndT rfl ?_ | refine cndF rfl ?_ | refine c_dec rfl (fun hc => ?_) (fun hc => ?_) | refine c_ndec rfl (fun hc => ?_) (fun hc => ?_) | refine cnd rfl (fun hc => ?_) (fun hc => ?_) | ((first | refine o_none rfl ?_ | refine o_none_ ?_ | refine o_yes rfl rfl rfl ?_ | refine o_yes_ rfl rfl ?_); first | refine st_index (rowE ⟨p, z, ks⟩) lay_ok rfl rfl rfl rfl (by omega) hat ?_ | refine st_pure (hwh) b44 rfl rfl rfl rfl ?_) | refine gd rfl rfl rfl (fun hg => ?_) (fun hg => ?_) | refine gn rfl rfl rfl (fun hg => ?_) (fun hg => ?_) | refine dwr (by omega) ?_ | refine dwl ?_ | refine dws lay_ok rfl rfl rfl rfl rfl rfl rfl ?_ | refine dwu lay_ok rfl rfl rfl rfl rfl rfl rfl rfl rfl ?_ | refine dw_end ?_ | refine dw_skip rfl rfl rfl ?_ | refine dwn lay_ok rfl rfl rfl rfl rfl ?_ | refine dwb rfl rfl rfl rfl rfl (by (first | refine st_index (rowE ⟨p, z, ks⟩) lay_ok rfl rfl rfl rfl (by omega) hat ?_ | refine st_pure (hwh) b44 rfl rfl rfl rfl ?_); exact fin rfl) rfl rfl ?_ | refine dwg rfl rfl rfl rfl rfl (by (first | refine st_index (rowE ⟨p, z, ks⟩) lay_ok rfl rfl rfl rfl (by omega) hat ?_ | refine st_pure (hwh) b44 rfl rfl rfl rfl ?_); exact fin rfl) rfl rfl rfl rfl rfl ?_ | refine dw_dec rfl rfl rfl (fun hg => ?_) (fun hg => ?_) | refine dw_ndec rfl rfl rfl (fun hg => ?_) (fun hg => ?_)
          all_goals first
            | (exfalso; omega)
            | skip
          refine n_rr (j + 1) ?_ (.of [] (by (repeat' first | exact trivial | refine And.intro ?_ ?_ | rfl); first | done | fail) (by (repeat' first | exact trivial | refine And.intro ?_ ?_ | rfl); first | done | fail) rfl) ?_
          · omega
          · exact ⟨hi, h2.trans hb⟩
      · simp only [if_true] at hec
        rw [hec] at hb
        simp only at hb
        rw [hb] at hcp
        repeat' first | refine wr (by omega) ?_ | refine ln ?_ | refine stp lay_ok rfl ?_ | refine fin ?_ | refine n_thn ?_ | refine n_blk ?_ | refine e_thn ?_ | refine e_hit ?_ | refine e_miss rfl ?_ | refine r_thn ?_ | refine r_blk ?_ | refine e_rr ?_ | refine r_rr ?_ | refine e_cr ?_ | refine r_cr ?_ | refine .seq ?_ | refine reg ?_ | refine .block ?_ | refine .skip ?_ | refine .ret ?_ | refine .exit ?_ | refine cndT rfl ?_ | refine cndF rfl ?_ | refine c_dec rfl (fun hc => ?_) (fun hc => ?_) | refine c_ndec rfl (fun hc => ?_) (fun hc => ?_) | refine cnd rfl (fun hc => ?_) (fun hc => ?_) | refine gd rfl rfl rfl (fun hg => ?_) (fun hg => ?_) | refine gn rfl rfl rfl (fun hg => ?_) (fun hg => ?_) | refine dwr (by omega) ?_ | refine dwl ?_ | refine dws lay_ok rfl rfl rfl rfl rfl rfl rfl ?_ | refine dwu lay_ok rfl rfl rfl rfl rfl rfl rfl rfl rfl ?_ | refine dw_end ?_ | refine dw_skip rfl rfl rfl ?_ | refine dwn lay_ok rfl rfl rfl rfl rfl ?_ | refine dw_dec rfl rfl rfl (fun hg => ?_) (fun hg => ?_) | refine dw_ndec rfl rfl rfl (fun hg => ?_) (fun hg => ?_)
        all_goals first
          | (exfalso; omega)
          | (refine f_r [] rfl trivial rfl ⟨?_, rfl⟩; rw [hcp]; rfl)
end Go.Proofs.YtgjoloaajocafaaDoorFn
