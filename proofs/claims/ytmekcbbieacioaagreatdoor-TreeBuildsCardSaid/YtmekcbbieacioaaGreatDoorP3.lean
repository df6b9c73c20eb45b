/- The law TreeBuilds: for every input it says true: the tree of any files, by any cut, or what is amiss first, and where. No condition. -/
import Derived.Test.YtmekcbbieacioaaGreatDoorP2
import Derived.Test.YtmekcbbieacioaaGreatDoorAlZo
import Derived.Test.YtmekcbbieacioaaGreatDoorAlZn
import Derived.KernelRfl
import Derived.Test.YtmekcbbieacioaaGreatDoorRows
import Derived.Test.YtmekcbbieacioaaGreatDoorTie
import Derived.Test.YtmekcbbieacioaaGreatDoorCards
import Derived.Lay
import Derived.LaidMore
import Derived.LaidHandle
import Derived.LaidOnce
import Derived.FnData
import Derived.Test.YtmekcbbieacioaaGreatDoorAlZr
set_option linter.all false
namespace Go.Proofs.YtmekcbbieacioaaGreatDoorFn
open Go.Proofs.YtmekcbbieacioaaGreatDoorAl Go.Proofs.Tryz
attribute [local irreducible] IntKind.wrap CodeOk OpsL OpG ACalls thn inBlk rndR cutR WkR Wk fnR DW ExtOk partsOf
theorem b56 : HasBody prog 56 := ⟨f56, func56, Option.some_ne_none _, by decide⟩
theorem b30 : HasBody prog 30 := ⟨f30, func30, Option.some_ne_none _, by decide⟩
theorem b55 : HasBody prog 55 := ⟨f55, func55, Option.some_ne_none _, by decide⟩
theorem b77 : HasBody prog 77 := ⟨f77, func77, Option.some_ne_none _, by decide⟩
theorem b54 : HasBody prog 54 := ⟨f54, func54, Option.some_ne_none _, by decide⟩
theorem b12 : HasBody prog 12 := ⟨f12, func12, Option.some_ne_none _, by decide⟩
/-! ### files -/
structure FV where
  path : ByteArray
  bytes : ByteArray
def rowF (f : FV) : List SV := [.str f.path, .str f.bytes]
def clashB (a b : ByteArray) : Bool := decide (a = b) || under a b || under b a
theorem clash_ok (a b : ByteArray) (ha : a.size ≤ 4000000000 - 1) (hb : b.size ≤ 4000000000 - 1) : ACalls prog 56 0 [Sx a, Sx b] [] fun r h => r = B (clashB a b) ∧ h = [] := by
  have h1 := under_ok a b ha hb
  have h2 := under_ok b a hb ha
  unfold clashB
  refine fnC lay_ok func56 rfl rfl rfl rfl rfl ?_
  by_cases he : a = b
  · subst he
    repeat' first | refine wr (by omega) ?_ | refine ln ?_ | refine stp lay_ok rfl ?_ | refine fin ?_ | refine n_thn ?_ | refine n_blk ?_ | refine e_thn ?_ | refine e_hit ?_ | refine e_miss rfl ?_ | refine r_thn ?_ | refine r_blk ?_ | refine e_rr ?_ | refine r_rr ?_ | refine e_cr ?_ | refine r_cr ?_ | refine .seq ?_ | refine reg ?_ | refine .block ?_ | refine .skip ?_ | refine .ret ?_ | refine .exit ?_ | refine cndT rfl ?_ | refine cndF rfl ?_ | refine c_dec rfl (fun hc => ?_) (fun hc => ?_) | refine c_ndec rfl (fun hc => ?_) (fun hc => ?_) | refine cnd rfl (fun hc => ?_) (fun hc => ?_) | ((first | refine o_none rfl ?_ | refine o_none_ ?_ | refine o_yes rfl rfl rfl ?_ | refine o_yes_ rfl rfl ?_); first | refine st_pure (h1) b44 rfl rfl rfl rfl ?_ | refine st_pure (h2) b44 rfl rfl rfl rfl ?_) | refine gd rfl rfl rfl (fun hg => ?_) (fun hg => ?_) | refine gn rfl rfl rfl (fun hg => ?_) (fun hg => ?_)
    all_goals first
      | (exfalso; simp_all; done)
      | skip
    refine f_r [] rfl trivial rfl ⟨?_, rfl⟩
    simp [retOf]
  · cases hu1 : under a b <;> rw [hu1] at h1
    all_goals
      repeat' first | refine wr (by omega) ?_ | refine ln ?_ | refine stp lay_ok rfl ?_ | refine fin ?_ | refine n_thn ?_ | refine n_blk ?_ | refine e_thn ?_ | refine e_hit ?_ | refine e_miss rfl ?_ | refine r_thn ?_ | refine r_blk ?_ | refine e_rr ?_ | refine r_rr ?_ | refine e_cr ?_ | refine r_cr ?_ | refine .seq ?_ | refine reg ?_ | refine .block ?_ | refine .skip ?_ | refine .ret ?_ | refine .exit ?_ | refine cndT rfl ?_ | refine cndF rfl ?_ | refine c_dec rfl (fun hc => ?_) (fun hc => ?_) | refine c_ndec rfl (fun hc => ?_) (fun hc => ?_) | refine cnd rfl (fun hc => ?_) (fun hc => ?_) | ((first | refine o_none rfl ?_ | refine o_none_ ?_ | refine o_yes rfl rfl rfl ?_ | refine o_yes_ rfl rfl ?_); first | refine st_pure (h1) b44 rfl rfl rfl rfl ?_ | refine st_pure (h2) b44 rfl rfl rfl rfl ?_) | refine gd rfl rfl rfl (fun hg => ?_) (fun hg => ?_) | refine gn rfl rfl rfl (fun hg => ?_) (fun hg => ?_)
      all_goals first
        | (exfalso; simp_all; done)
        | skip
      refine f_r [] rfl trivial rfl ⟨?_, rfl⟩
      simp [retOf, he]
theorem file1_ok (e x : FV) (he : e.path.size ≤ 4000000000 - 1) (hx : x.path.size ≤ 4000000000 - 1) : ACalls prog 55 0 [.st (.agg (rowF x)), .st (.sptr (rowF e))] [] fun r h => r = B (clashB x.path e.path) ∧ h = [] := by
  obtain ⟨p, z⟩ := e
  obtain ⟨p', z'⟩ := x
  have h1 := clash_ok p' p hx he
  refine fnC lay_ok func55 rfl rfl rfl rfl rfl ?_
  repeat' first | refine wr (by omega) ?_ | refine ln ?_ | refine stp lay_ok rfl ?_ | refine fin ?_ | refine n_thn ?_ | refine n_blk ?_ | refine e_thn ?_ | refine e_hit ?_ | refine e_miss rfl ?_ | refine r_thn ?_ | refine r_blk ?_ | refine e_rr ?_ | refine r_rr ?_ | refine e_cr ?_ | refine r_cr ?_ | refine .seq ?_ | refine reg ?_ | refine .block ?_ | refine .skip ?_ | refine .ret ?_ | refine .exit ?_ | refine cndT rfl ?_ | refine cndF rfl ?_ | refine c_dec rfl (fun hc => ?_) (fun hc => ?_) | refine c_ndec rfl (fun hc => ?_) (fun hc => ?_) | refine cnd rfl (fun hc => ?_) (fun hc => ?_) | ((first | refine o_none rfl ?_ | refine o_none_ ?_ | refine o_yes rfl rfl rfl ?_ | refine o_yes_ rfl rfl ?_); first | refine st_pure (h1) b56 rfl rfl rfl rfl ?_) | refine gd rfl rfl rfl (fun hg => ?_) (fun hg => ?_) | refine gn rfl rfl rfl (fun hg => ?_) (fun hg => ?_)
  refine f_r [] rfl trivial rfl ⟨?_, rfl⟩; rfl
theorem idxF_ok (f : Nat) (bf : HasBody prog f) (cs : List SV) (p : FV → Bool) (l : List FV) (hl : l.length ≤ 4000000000) (hf : ∀ e ∈ l, ACalls prog f 0 [.st (.agg (rowF e)), .st (.sptr cs)] [] fun r h => r = B (p e) ∧ h = []) :
    ACalls prog 77 0 [.st (.sl 2 (l.map rowF)), .fn (.func f) [] [.st (.sptr cs)]] [] fun r h => r = I (fidx p l) ∧ h = [] := by
  refine fnC lay_ok func77 rfl rfl rfl rfl rfl ?_
  repeat' first | refine wr (by omega) ?_ | refine ln ?_ | refine stp lay_ok rfl ?_ | refine fin ?_ | refine n_thn ?_ | refine n_blk ?_ | refine e_thn ?_ | refine e_hit ?_ | refine e_miss rfl ?_ | refine r_thn ?_ | refine r_blk ?_ | refine e_rr ?_ | refine r_rr ?_ | refine e_cr ?_ | refine r_cr ?_ | refine .seq ?_ | refine reg ?_ | refine .block ?_ | refine .skip ?_ | refine .ret ?_ | refine .exit ?_ | refine cndT rfl ?_ | refine cndF rfl ?_ | refine c_dec rfl (fun hc => ?_) (fun hc => ?_) | refine c_ndec rfl (fun hc => ?_) (fun hc => ?_) | refine cnd rfl (fun hc => ?_) (fun hc => ?_) | refine gd rfl rfl rfl (fun hg => ?_) (fun hg => ?_) | refine gn rfl rfl rfl (fun hg => ?_) (fun hg => ?_)
  refine lpR (fun k => k ≤ l.length ∧ ∀ j (h : j < k), ∀ h2 : j < l.length, p l[j] = false) (fun k => l.length - k) (fun k => [(8, I k)]) (fun k => []) (0) [0, 1, 7] [] [] rfl rfl rfl (.of [] (by (repeat' first | exact trivial | refine And.intro ?_ ?_ | rfl); first | done | fail) (by (repeat' first | exact trivial | refine And.intro ?_ ?_ | rfl); first | done | fail) rfl) ?_ ?_
  · exact ⟨Nat.zero_le _, fun j h => by omega⟩
  rintro k ⟨hk, hall⟩
  refine nrm rfl rfl ?_
  repeat' first | refine wr (by omega) ?_ | refine ln ?_ | refine stp lay_ok rfl ?_ | refine fin ?_ | refine n_thn ?_ | refine n_blk ?_ | refine e_thn ?_ | refine e_hit ?_ | refine e_miss rfl ?_ | refine r_thn ?_ | refine r_blk ?_ | refine e_rr ?_ | refine r_rr ?_ | refine e_cr ?_ | refine r_cr ?_ | refine .seq ?_ | refine reg ?_ | refine .block ?_ | refine .skip ?_ | refine .ret ?_ | refine .exit ?_ | refine cndT rfl ?_ | refine cndF rfl ?_ | refine c_dec rfl (fun hc => ?_) (fun hc => ?_) | refine c_ndec rfl (fun hc => ?_) (fun hc => ?_) | refine cnd rfl (fun hc => ?_) (fun hc => ?_) | refine gd rfl rfl rfl (fun hg => ?_) (fun hg => ?_) | refine gn rfl rfl rfl (fun hg => ?_) (fun hg => ?_)
  · have hk' : k < l.length := by omega
    have hat : (l.map rowF)[((k : Nat) : Int).toNat]? = some (rowF l[k]) := by simp [hk']
    have h1 := hf l[k] (List.getElem_mem hk')
    cases hp : p l[k] with
    | true =>
      rw [hp] at h1
      repeat' first | refine wr (by omega) ?_ | refine ln ?_ | refine stp lay_ok rfl ?_ | refine fin ?_ | refine n_thn ?_ | refine n_blk ?_ | refine e_thn ?_ | refine e_hit ?_ | refine e_miss rfl ?_ | refine r_thn ?_ | refine r_blk ?_ | refine e_rr ?_ | refine r_rr ?_ | refine e_cr ?_ | refine r_cr ?_ | refine .seq ?_ | refine reg ?_ | refine .block ?_ | refine .skip ?_ | refine .ret ?_ | refine .exit ?_ | refine cndT rfl ?_ | refine cndF rfl ?_ | refine c_dec rfl (fun hc => ?_) (fun hc => ?_) | refine c_ndec rfl (fun hc => ?_) (fun hc => ?_) | refine cnd rfl (fun hc => ?_) (fun hc => ?_) | ((first | refine o_none rfl ?_ | refine o_none_ ?_ | refine o_yes rfl rfl rfl ?_ | refine o_yes_ rfl rfl ?_); first | refine st_index (rowF l[k]) lay_ok rfl rfl rfl rfl (by omega) hat ?_ | refine st_pure (h1) bf rfl rfl rfl rfl ?_) | refine gd rfl rfl rfl (fun hg => ?_) (fun hg => ?_) | refine gn rfl rfl rfl (fun hg => ?_) (fun hg => ?_)
      refine f_r [] rfl trivial rfl ⟨?_, rfl⟩
      rw [fidx_step _ l k hk' (fun j h => hall j h _) hp]; rfl
    | false =>
      rw [hp] at h1
      repeat' first | refine wr (by omega) ?_ | refine ln ?_ | refine stp lay_ok rfl ?_ | refine fin ?_ | refine n_thn ?_ | refine n_blk ?_ | refine e_thn ?_ | refine e_hit ?_ | refine e_miss rfl ?_ | refine r_thn ?_ | refine r_blk ?_ | refine e_rr ?_ | refine r_rr ?_ | refine e_cr ?_ | refine r_cr ?_ | refine .seq ?_ | refine reg ?_ | refine .block ?_ | refine .skip ?_ | refine .ret ?_ | refine .exit ?_ | refine cndT rfl ?_ | refine cndF rfl ?_ | refine c_dec rfl (fun hc => ?_) (fun hc => ?_) | refine c_ndec rfl (fun hc => ?_) (fun hc => ?_) | refine cnd rfl (fun hc => ?_) (fun hc => ?_) | ((first | refine o_none rfl ?_ | refine o_none_ ?_ | refine o_yes rfl rfl rfl ?_ | refine o_yes_ rfl rfl ?_); first | refine st_index (rowF l[k]) lay_ok rfl rfl rfl rfl (by omega) hat ?_ | refine st_pure (h1) bf rfl rfl rfl rfl ?_) | refine gd rfl rfl rfl (fun hg => ?_) (fun hg => ?_) | refine gn rfl rfl rfl (fun hg => ?_) (fun hg => ?_)
      refine n_rr (k + 1) ?_ (.of [] (by (repeat' first | exact trivial | refine And.intro ?_ ?_ | rfl); first | done | fail) (by (repeat' first | exact trivial | refine And.intro ?_ ?_ | rfl); first | done | fail) rfl) ?_
      · omega
      · refine ⟨hk', fun j h h2 => ?_⟩
        by_cases hj : j = k
        · subst hj; exact hp
        · exact hall j (by omega) h2
  · refine f_r [] rfl trivial rfl ⟨?_, rfl⟩
    rw [fidx_none _ l (fun j h => hall j (by omega) h)]; rfl
theorem conF_ok (f : Nat) (bf : HasBody prog f) (cs : List SV) (p : FV → Bool) (l : List FV) (hl : l.length ≤ 4000000000) (hf : ∀ e ∈ l, ACalls prog f 0 [.st (.agg (rowF e)), .st (.sptr cs)] [] fun r h => r = B (p e) ∧ h = []) :
    ACalls prog 54 0 [.st (.sl 2 (l.map rowF)), .fn (.func f) [] [.st (.sptr cs)]] [] fun r h => r = B (l.any p) ∧ h = [] := by
  refine fnC lay_ok func54 rfl rfl rfl rfl rfl ?_
  have h1 := idxF_ok f bf cs p l hl hf
  repeat' first | refine wr (by omega) ?_ | refine ln ?_ | refine stp lay_ok rfl ?_ | refine fin ?_ | refine n_thn ?_ | refine n_blk ?_ | refine e_thn ?_ | refine e_hit ?_ | refine e_miss rfl ?_ | refine r_thn ?_ | refine r_blk ?_ | refine e_rr ?_ | refine r_rr ?_ | refine e_cr ?_ | refine r_cr ?_ | refine .seq ?_ | refine reg ?_ | refine .block ?_ | refine .skip ?_ | refine .ret ?_ | refine .exit ?_ | refine cndT rfl ?_ | refine cndF rfl ?_ | refine c_dec rfl (fun hc => ?_) (fun hc => ?_) | refine c_ndec rfl (fun hc => ?_) (fun hc => ?_) | refine cnd rfl (fun hc => ?_) (fun hc => ?_) | ((first | refine o_none rfl ?_ | refine o_none_ ?_ | refine o_yes rfl rfl rfl ?_ | refine o_yes_ rfl rfl ?_); first | refine st_pure (h1) b77 rfl rfl rfl rfl ?_) | refine gd rfl rfl rfl (fun hg => ?_) (fun hg => ?_) | refine gn rfl rfl rfl (fun hg => ?_) (fun hg => ?_)
  refine f_r [] rfl trivial rfl ⟨?_, rfl⟩
  rw [← fidx_any]; rfl
theorem at_rowF {l : List FV} {k : Nat} (h : k < l.length) : (l.map rowF)[((k : Nat) : Int).toNat]? = some (rowF l[k]) := by simp [h]
/-- What is amiss with the file at i. -/
def fileC (l : List FV) (i : Nat) (f : FV) : Option Int :=
  if pathOk f.path then if 1024 < f.bytes.size then some 7 else if (l.take i).any (fun x => clashB x.path f.path) then some 4 else none
  else some 2
set_option maxHeartbeats 2000000 in
theorem file_ok (l : List FV) (i : Nat) (hi : i < l.length) (hl : l.length ≤ 4000000000) (hp : ∀ e ∈ l, e.path.size ≤ 4000000000 - 1) :
    ACalls prog 30 0 [.st (.sl 2 (l.map rowF)), I i] [] fun r h => r = errO (fileC l i l[i]) ∧ h = [] := by
  have hat := at_rowF hi
  have hc1 := pathCheck_ok l[i].path (hp _ (List.getElem_mem hi))
  have hu := conF_ok 55 b55 (rowF l[i]) (fun x => clashB x.path l[i].path) (l.take i) (by simp; omega) (fun x hx => file1_ok l[i] x (hp _ (List.getElem_mem hi)) (hp _ (List.mem_of_mem_take hx)))
  have hm : (List.map rowF l).length = l.length := List.length_map _
  have ht : i ≤ (l.map rowF).length := by omega
  rw [List.map_take] at hu
  generalize he : l[i] = e at *
  obtain ⟨p, z⟩ := e
  refine fnC lay_ok func30 rfl rfl rfl rfl rfl ?_
  cases hpo : pathOk p with
  | false =>
    simp only [hpo, if_true, if_false, Bool.false_eq_true] at hc1
    repeat' first | refine o_frb 0 [.str p, .str z] rfl rfl rfl (by (repeat' first | exact trivial | refine And.intro ?_ ?_ | rfl); first | done | fail) (by (repeat' first | exact trivial | refine And.intro ?_ ?_ | rfl); first | done | fail) rfl rfl ?_ | refine wr (by omega) ?_ | refine ln ?_ | refine stp lay_ok rfl ?_ | refine fin ?_ | refine n_thn ?_ | refine n_blk ?_ | refine e_thn ?_ | refine e_hit ?_ | refine e_miss rfl ?_ | refine r_thn ?_ | refine r_blk ?_ | refine e_rr ?_ | refine r_rr ?_ | refine e_cr ?_ | refine r_cr ?_ | refine .seq ?_ | refine reg ?_ | refine .block ?_ | refine .skip ?_ | refine .ret ?_ | refine .exit ?_ | refine cndT rfl ?_ | refine cndF rfl ?_ | refine c_dec rfl (fun hc => ?_) (fun hc => ?_) | refine c_ndec rfl (fun hc => ?_) (fun hc => ?_) | refine cnd rfl (fun hc => ?_) (fun hc => ?_) | ((first | refine o_none rfl ?_ | refine o_none_ ?_ | refine o_yes rfl rfl rfl ?_ | refine o_yes_ rfl rfl ?_); first | refine st_index (rowF ⟨p, z⟩) lay_ok rfl rfl rfl rfl (by omega) hat ?_ | refine st_pure (hc1) b53 rfl rfl rfl rfl ?_) | refine gd rfl rfl rfl (fun hg => ?_) (fun hg => ?_) | refine gn rfl rfl rfl (fun hg => ?_) (fun hg => ?_)
    refine f_r [] rfl trivial rfl ⟨?_, rfl⟩
    simp only [fileC, hpo]; rfl
  | true =>
    simp only [hpo, if_true, if_false, Bool.false_eq_true] at hc1
    by_cases hz : 1024 < z.size
    · repeat' first | refine o_frb 0 [.str p, .str z] rfl rfl rfl (by (repeat' first | exact trivial | refine And.intro ?_ ?_ | rfl); first | done | fail) (by (repeat' first | exact trivial | refine And.intro ?_ ?_ | rfl); first | done | fail) rfl rfl ?_ | refine wr (by omega) ?_ | refine ln ?_ | refine stp lay_ok rfl ?_ | refine fin ?_ | refine n_thn ?_ | refine n_blk ?_ | refine e_thn ?_ | refine e_hit ?_ | refine e_miss rfl ?_ | refine r_thn ?_ | refine r_blk ?_ | refine e_rr ?_ | refine r_rr ?_ | refine e_cr ?_ | refine r_cr ?_ | refine .seq ?_ | refine reg ?_ | refine .block ?_ | refine .skip ?_ | refine .ret ?_ | refine .exit ?_ | refine cndT rfl ?_ | refine cndF rfl ?_ | refine c_dec rfl (fun hc => ?_) (fun hc => ?_) | refine c_ndec rfl (fun hc => ?_) (fun hc => ?_) | refine cnd rfl (fun hc => ?_) (fun hc => ?_) | ((first | refine o_none rfl ?_ | refine o_none_ ?_ | refine o_yes rfl rfl rfl ?_ | refine o_yes_ rfl rfl ?_); first | refine st_index (rowF ⟨p, z⟩) lay_ok rfl rfl rfl rfl (by omega) hat ?_ | refine st_pure (hc1) b53 rfl rfl rfl rfl ?_) | refine gd rfl rfl rfl (fun hg => ?_) (fun hg => ?_) | refine gn rfl rfl rfl (fun hg => ?_) (fun hg => ?_)
      all_goals first
        | (exfalso; omega)
        | skip
      refine f_r [] rfl trivial rfl ⟨?_, rfl⟩
      simp only [fileC, hpo, if_true, if_pos hz]; rfl
    · cases ha : (l.take i).any (fun x => clashB x.path p) <;> simp only [ha] at hu
      all_goals
        repeat' first | refine o_frb 0 [.str p, .str z] rfl rfl rfl (by (repeat' first | exact trivial | refine And.intro ?_ ?_ | rfl); first | done | fail) (by (repeat' first | exact trivial | refine And.intro ?_ ?_ | rfl); first | done | fail) rfl rfl ?_ | refine wr (by omega) ?_ | refine ln ?_ | refine stp lay_ok rfl ?_ | refine fin ?_ | refine n_thn ?_ | refine n_blk ?_ | refine e_thn ?_ | refine e_hit ?_ | refine e_miss rfl ?_ | refine r_thn ?_ | refine r_blk ?_ | refine e_rr ?_ | refine r_rr ?_ | refine e_cr ?_ | refine r_cr ?_ | refine .seq ?_ | refine reg ?_ | refine .block ?_ | refine .skip ?_ | refine .ret ?_ | refine .exit ?_ | refine cndT rfl ?_ | refine cndF rfl ?_ | refine c_dec rfl (fun hc => ?_) (fun hc => ?_) | refine c_ndec rfl (fun hc => ?_) (fun hc => ?_) | refine cnd rfl (fun hc => ?_) (fun hc => ?_) | ((first | refine o_none rfl ?_ | refine o_none_ ?_ | refine o_yes rfl rfl rfl ?_ | refine o_yes_ rfl rfl ?_); first | refine st_index (rowF ⟨p, z⟩) lay_ok rfl rfl rfl rfl (by omega) hat ?_ | refine st_pure (hc1) b53 rfl rfl rfl rfl ?_ | refine st_subL 0 i lay_ok rfl rfl rfl rfl ⟨_, _, rfl, rfl⟩ (Nat.zero_le _) ht ?_ | refine st_pure (hu) b54 rfl rfl rfl rfl ?_) | refine gd rfl rfl rfl (fun hg => ?_) (fun hg => ?_) | refine gn rfl rfl rfl (fun hg => ?_) (fun hg => ?_)
        all_goals first
          | (exfalso; omega)
          | skip
        refine f_r [] rfl trivial rfl ⟨?_, rfl⟩
        simp only [fileC, hpo, if_true, if_neg hz, ha]; rfl
end Go.Proofs.YtmekcbbieacioaaGreatDoorFn
namespace Go.Proofs.YtmekcbbieacioaaGreatDoorFn
open Go.Proofs.YtmekcbbieacioaaGreatDoorAl Go.Proofs.Tryz
attribute [local irreducible] IntKind.wrap CodeOk OpsL OpG ACalls thn inBlk rndR cutR WkR Wk fnR DW ExtOk partsOf
/-! ### a tree is built -/
def fileE (c : CV) (f : FV) : EV := ⟨f.path, f.bytes.size, c.split f.bytes.size f.bytes⟩
def badFile (l : List FV) : Nat → Nat → Option (Nat × Int)
  | 0, _ => none
  | f + 1, i => match l[i]? with
    | none => none
    | some e => match fileC l i e with
      | some n => some (i, n)
      | none => badFile l f (i + 1)
theorem badFile_step (l : List FV) (k : Nat) (h : k < l.length) : badFile l (l.length - k) k = match fileC l k l[k] with
    | some n => some (k, n)
    | none => badFile l (l.length - (k + 1)) (k + 1) := by
  have e : l.length - k = l.length - (k + 1) + 1 := by omega
  rw [e]
  simp only [badFile, List.getElem?_eq_getElem h]
def buildC (l : List FV) (c : CV) : AV := if c.ok = false then .tuple [.st .nilsl, errE 1] else if 32 < l.length then .tuple [.st .nilsl, errE 7] else match badFile l l.length 0 with
  | none => .tuple [.st (.sl 3 ((srtE (l.map (fileE c))).map rowE)), nilE]
  | some (i, n) => .tuple [.st .nilsl, spotE i n]
theorem rowE1_one (e : EV) : ∀ row ∈ [rowE e], ∀ y ∈ row, SV.one y = true := by
  intro row hr y hy
  simp only [List.mem_singleton] at hr
  subst hr
  simp only [rowE, List.mem_cons, List.not_mem_nil, or_false] at hy
  rcases hy with rfl | rfl | rfl <;> rfl
theorem fileC_size {l : List FV} {i : Nat} {f : FV} (h : fileC l i f = none) : f.bytes.size ≤ 1024 := by
  unfold fileC at h
  split at h
  · split at h
    · cases h
    · omega
  · cases h
set_option maxHeartbeats 8000000 in
set_option maxRecDepth 4000 in
theorem build_ok (l : List FV) (c : CV) (hl : l.length ≤ 4000000000) (hp : ∀ e ∈ l, e.path.size ≤ 4000000000 - 1) (hb : ∀ e ∈ l, e.bytes.size ≤ 4000000000) :
    ACalls prog 12 0 [.st (.sl 2 (l.map rowF)), cutE c] [] fun r h => r = buildC l c ∧ h = [] := by
  have hmay := may3_ok c
  have hm : (List.map rowF l).length = l.length := List.length_map _
  unfold buildC
  refine fnC lay_ok func12 rfl rfl rfl rfl rfl ?_
  cases hok : c.ok with
  | false =>
    rw [hok] at hmay
    repeat' first | refine wr (by omega) ?_ | refine ln ?_ | refine stp lay_ok rfl ?_ | refine fin ?_ | refine n_thn ?_ | refine n_blk ?_ | refine e_thn ?_ | refine e_hit ?_ | refine e_miss rfl ?_ | refine r_thn ?_ | refine r_blk ?_ | refine e_rr ?_ | refine r_rr ?_ | refine e_cr ?_ | refine r_cr ?_ | refine .seq ?_ | refine reg ?_ | refine .block ?_ | refine .skip ?_ | refine .ret ?_ | refine .exit ?_ | refine cndT rfl ?_ | refine cndF rfl ?_ | refine c_dec rfl (fun hc => ?_) (fun hc => ?_) | refine c_ndec rfl (fun hc => ?_) (fun hc => ?_) | refine cnd rfl (fun hc => ?_) (fun hc => ?_) | ((first | refine o_none rfl ?_ | refine o_none_ ?_ | refine o_yes rfl rfl rfl ?_ | refine o_yes_ rfl rfl ?_); first | refine st_pure (hmay) b29 rfl rfl rfl rfl ?_) | refine gd rfl rfl rfl (fun hg => ?_) (fun hg => ?_) | refine gn rfl rfl rfl (fun hg => ?_) (fun hg => ?_)
    all_goals first
      | (exfalso; omega)
      | skip
    refine f_r [] rfl trivial rfl ⟨?_, rfl⟩
    rfl
  | true =>
    rw [hok] at hmay
    rw [if_neg (by simp)]
    by_cases h32 : 32 < l.length
    · rw [if_pos h32]
      repeat' first | refine wr (by omega) ?_ | refine ln ?_ | refine stp lay_ok rfl ?_ | refine fin ?_ | refine n_thn ?_ | refine n_blk ?_ | refine e_thn ?_ | refine e_hit ?_ | refine e_miss rfl ?_ | refine r_thn ?_ | refine r_blk ?_ | refine e_rr ?_ | refine r_rr ?_ | refine e_cr ?_ | refine r_cr ?_ | refine .seq ?_ | refine reg ?_ | refine .block ?_ | refine .skip ?_ | refine .ret ?_ | refine .exit ?_ | refine cndT rfl ?_ | refine cndF rfl ?_ | refine c_dec rfl (fun hc => ?_) (fun hc => ?_) | refine c_ndec rfl (fun hc => ?_) (fun hc => ?_) | refine cnd rfl (fun hc => ?_) (fun hc => ?_) | ((first | refine o_none rfl ?_ | refine o_none_ ?_ | refine o_yes rfl rfl rfl ?_ | refine o_yes_ rfl rfl ?_); first | refine st_pure (hmay) b29 rfl rfl rfl rfl ?_) | refine gd rfl rfl rfl (fun hg => ?_) (fun hg => ?_) | refine gn rfl rfl rfl (fun hg => ?_) (fun hg => ?_)
      all_goals first
        | (exfalso; omega)
        | skip
      refine f_r [] rfl trivial rfl ⟨?_, rfl⟩
      rfl
    rw [if_neg h32]
    repeat' first | refine wr (by omega) ?_ | refine ln ?_ | refine stp lay_ok rfl ?_ | refine fin ?_ | refine n_thn ?_ | refine n_blk ?_ | refine e_thn ?_ | refine e_hit ?_ | refine e_miss rfl ?_ | refine r_thn ?_ | refine r_blk ?_ | refine e_rr ?_ | refine r_rr ?_ | refine e_cr ?_ | refine r_cr ?_ | refine .seq ?_ | refine reg ?_ | refine .block ?_ | refine .skip ?_ | refine .ret ?_ | refine .exit ?_ | refine cndT rfl ?_ | refine cndF rfl ?_ | refine c_dec rfl (fun hc => ?_) (fun hc => ?_) | refine c_ndec rfl (fun hc => ?_) (fun hc => ?_) | refine cnd rfl (fun hc => ?_) (fun hc => ?_) | ((first | refine o_none rfl ?_ | refine o_none_ ?_ | refine o_yes rfl rfl rfl ?_ | refine o_yes_ rfl rfl ?_); first | refine st_pure (hmay) b29 rfl rfl rfl rfl ?_) | refine gd rfl rfl rfl (fun hg => ?_) (fun hg => ?_) | refine gn rfl rfl rfl (fun hg => ?_) (fun hg => ?_)
    all_goals first
      | (exfalso; omega)
      | skip
    refine CodeOk.wk (Wk.nilT 3 6 rfl rfl) (Nat.le_succ _) ?_
    refine nrm rfl rfl ?_
    refine lpR (fun (k, out) => k ≤ l.length ∧ badFile l l.length 0 = badFile l (l.length - k) k ∧ out = (l.take k).map (fileE c)) (fun (k, out) => l.length - k) (fun (k, out) => [(24, I k), (6, .lsl 2 3 0 (out.map rowE).length)]) (fun (k, out) => [(2, .arr 3 (out.map rowE))]) ((0, [])) [0, 3, 22, 23] [] [1] rfl rfl rfl (.of [1] (by (repeat' first | exact trivial | refine And.intro ?_ ?_ | rfl); first | done | fail) (by (repeat' first | exact trivial | refine And.intro ?_ ?_ | rfl); first | done | fail) rfl) ?_ ?_
    · exact ⟨Nat.zero_le _, rfl, rfl⟩
    rintro ⟨k, out⟩ ⟨g1, g2, g3⟩
    refine nrm rfl rfl ?_
    have hmo : (List.map rowE out).length = out.length := List.length_map _
    have hol : out.length = k := by rw [g3]; simp; omega
    by_cases hk : k < l.length
    case neg =>
      have hke : k = l.length := by omega
      subst hke
      rw [List.take_length] at g3
      rw [Nat.sub_self] at g2
      rw [g2, badFile, ← g3]
      have hs := sort_ok out (by omega)
      have hlen : out.length = (List.map rowE (srtE out)).length := by rw [List.length_map, (srtE_facts out).1.length_eq]
      rw [hmo]
      generalize srtE out = so at *
      rw [hlen] at hs ⊢
      repeat' first | refine wr (by omega) ?_ | refine ln ?_ | refine stp lay_ok rfl ?_ | refine fin ?_ | refine n_thn ?_ | refine n_blk ?_ | refine e_thn ?_ | refine e_hit ?_ | refine e_miss rfl ?_ | refine r_thn ?_ | refine r_blk ?_ | refine e_rr ?_ | refine r_rr ?_ | refine e_cr ?_ | refine r_cr ?_ | refine .seq ?_ | refine reg ?_ | refine .block ?_ | refine .skip ?_ | refine .ret ?_ | refine .exit ?_ | refine cndT rfl ?_ | refine cndF rfl ?_ | refine c_dec rfl (fun hc => ?_) (fun hc => ?_) | refine c_ndec rfl (fun hc => ?_) (fun hc => ?_) | refine cnd rfl (fun hc => ?_) (fun hc => ?_) | ((first | refine o_none rfl ?_ | refine o_none_ ?_ | refine o_yes rfl rfl rfl ?_ | refine o_yes_ rfl rfl ?_); first | refine st_callF 0 (hs) b32 rfl rfl rfl rfl rfl rfl (by (repeat' first | exact trivial | refine And.intro ?_ ?_ | rfl); first | done | fail) rfl ?_) | refine gd rfl rfl rfl (fun hg => ?_) (fun hg => ?_) | refine gn rfl rfl rfl (fun hg => ?_) (fun hg => ?_)
      all_goals first
        | (exfalso; omega)
        | skip
      refine f_end (n0 := 0) (t'' := [(4, .st (.sl 3 (so.map rowE))), (5, nilE)]) (h'' := []) (Wk.then (Wk.frz 2 [4, 5] rfl rfl rfl (by (repeat' first | exact trivial | refine And.intro ?_ ?_ | rfl); first | done | fail) (by (repeat' first | exact trivial | refine And.intro ?_ ?_ | rfl); first | done | fail) rfl rfl) (WkR.of [] (by (repeat' first | exact trivial | refine And.intro ?_ ?_ | rfl); first | done | fail) (by (repeat' first | exact trivial | refine And.intro ?_ ?_ | rfl); first | done | fail) rfl)) rfl rfl ⟨?_, rfl⟩
      rfl
    have hat := at_rowF hk
    have hf := file_ok l k hk hl hp
    have hst := badFile_step l k hk
    have hbk := hb _ (List.getElem_mem hk)
    have htk : (l.take (k + 1)).map (fileE c) = out ++ [fileE c l[k]] := by
      rw [g3, List.take_succ_eq_append_getElem hk, List.map_append]; rfl
    generalize he : l[k] = e at *
    have hsp := split3_ok c e.bytes hbk
    have hr : List.map rowE out ++ [rowE (fileE c e)] = List.map rowE (out ++ [fileE c e]) := by rw [List.map_append]; rfl
    cases hx : fileC l k e with
    | some n =>
      rw [hx] at hf hst
      rw [hst] at g2
      rw [g2]
      obtain ⟨p, z⟩ := e
      repeat' first | refine o_frb 4 [.int .i64 k, .iface 49 (.int .i64 n)] rfl rfl rfl (by (repeat' first | exact trivial | refine And.intro ?_ ?_ | rfl); first | done | fail) (by (repeat' first | exact trivial | refine And.intro ?_ ?_ | rfl); first | done | fail) rfl rfl ?_ | refine wr (by omega) ?_ | refine ln ?_ | refine stp lay_ok rfl ?_ | refine fin ?_ | refine n_thn ?_ | refine n_blk ?_ | refine e_thn ?_ | refine e_hit ?_ | refine e_miss rfl ?_ | refine r_thn ?_ | refine r_blk ?_ | refine e_rr ?_ | refine r_rr ?_ | refine e_cr ?_ | refine r_cr ?_ | refine .seq ?_ | refine reg ?_ | refine .block ?_ | refine .skip ?_ | refine .ret ?_ | refine .exit ?_ | refine cndT rfl ?_ | refine cndF rfl ?_ | refine c_dec rfl (fun hc => ?_) (fun hc => ?_) | refine c_ndec rfl (fun hc => ?_) (fun hc => ?_) | refine cnd rfl (fun hc => ?_) (fun hc => ?_) | ((first | refine o_none rfl ?_ | refine o_none_ ?_ | refine o_yes rfl rfl rfl ?_ | refine o_yes_ rfl rfl ?_); first | refine st_index (rowF ⟨p, z⟩) lay_ok rfl rfl rfl rfl (by omega) hat ?_ | refine st_pure (hf) b30 rfl rfl rfl rfl ?_) | refine gd rfl rfl rfl (fun hg => ?_) (fun hg => ?_) | refine gn rfl rfl rfl (fun hg => ?_) (fun hg => ?_)
      all_goals first
        | (exfalso; omega)
        | skip
      refine f_r [] rfl trivial rfl ⟨?_, rfl⟩
      rfl
    | none =>
      have hz := fileC_size hx
      rw [hx] at hf hst
      rw [hst] at g2
      rw [splR, hok, if_neg (by simp), if_neg (by omega)] at hsp
      obtain ⟨p, z⟩ := e
      repeat' first | refine wr (by omega) ?_ | refine ln ?_ | refine stp lay_ok rfl ?_ | refine fin ?_ | refine n_thn ?_ | refine n_blk ?_ | refine e_thn ?_ | refine e_hit ?_ | refine e_miss rfl ?_ | refine r_thn ?_ | refine r_blk ?_ | refine e_rr ?_ | refine r_rr ?_ | refine e_cr ?_ | refine r_cr ?_ | refine .seq ?_ | refine reg ?_ | refine .block ?_ | refine .skip ?_ | refine .ret ?_ | refine .exit ?_ | refine cndT rfl ?_ | refine cndF rfl ?_ | refine c_dec rfl (fun hc => ?_) (fun hc => ?_) | refine c_ndec rfl (fun hc => ?_) (fun hc => ?_) | refine cnd rfl (fun hc => ?_) (fun hc => ?_) | ((first | refine o_none rfl ?_ | refine o_none_ ?_ | refine o_yes rfl rfl rfl ?_ | refine o_yes_ rfl rfl ?_); first | refine st_index (rowF ⟨p, z⟩) lay_ok rfl rfl rfl rfl (by omega) hat ?_ | refine st_pure (hf) b30 rfl rfl rfl rfl ?_ | refine st_pure (hsp) b31 rfl rfl rfl rfl ?_ | refine st_append lay_ok rfl rfl rfl rfl rfl rfl rfl rfl (.lsl rfl rfl) (.sl (rows := [rowE (fileE c ⟨p, z⟩)])) rfl (rowE1_one (fileE c ⟨p, z⟩)) (by simp only [List.length_cons, List.length_nil]; omega) (by simp only [List.length_cons, List.length_nil]; omega) ?_) | refine gd rfl rfl rfl (fun hg => ?_) (fun hg => ?_) | refine gn rfl rfl rfl (fun hg => ?_) (fun hg => ?_)
      all_goals first
        | (exfalso; omega)
        | skip
      rw [hr]
      refine n_rr ((k + 1, out ++ [fileE c ⟨p, z⟩])) ?_ (.of [4] (by (repeat' first | exact trivial | refine And.intro ?_ ?_ | rfl); first | done | fail) (by (repeat' first | exact trivial | refine And.intro ?_ ?_ | rfl); first | done | fail) rfl) ?_
      · show l.length - (k + 1) < l.length - k
        omega
      · exact ⟨hk, g2, htk.symm⟩
end Go.Proofs.YtmekcbbieacioaaGreatDoorFn
namespace Go.Proofs.YtmekcbbieacioaaGreatDoorFn
open Go.Proofs.YtmekcbbieacioaaGreatDoorAl Go.Proofs.Tryz
/-! ### sorted while built -/
def insE (d : Array EV) (e : EV) : Array EV := Sort.insInner (ltC cmE) 0 d.size (d.push e)
theorem ins_facts (d : Array EV) (e : EV) (hs : Sort.SortedIn (ltC cmE) 0 d.size d) : (insE d e).size = d.size + 1 ∧ (insE d e).toList.Perm (d.toList ++ [e]) ∧ Sort.SortedIn (ltC cmE) 0 (d.size + 1) (insE d e) := by
  have hg : ∀ q, q < d.size → (d.push e)[q]! = d[q]! := fun q hq => by
    rw [getElem!_pos (d.push e) q (by simp; omega), getElem!_pos d q hq, Array.getElem_push_lt]
  have h := Sort.insInner_spec cmE_swo Sort.swp_permIn Sort.permIn_refl Sort.permIn_trans 0 (d.size + 1) d.size (by omega) d.size (d.push e) (Nat.zero_le _) (Nat.le_refl _) (by simp)
    ⟨fun p q _ hpq hq hp hq2 => by rw [hg p (by omega), hg q (by omega)]; exact hs p q (Nat.zero_le _) hpq (by omega), fun q h1 h2 => by omega⟩
  obtain ⟨⟨h1, _, h2⟩, h3⟩ := h
  have hz : (insE d e).size = d.size + 1 := by unfold insE; rw [h1]; simp
  refine ⟨hz, ?_, h3⟩
  have ht : (insE d e).toList.take (d.size + 1) = (insE d e).toList := List.take_of_length_le (by simp [hz])
  have ht2 : (d.toList ++ [e]).take (d.size + 1) = d.toList ++ [e] := List.take_of_length_le (by simp)
  have h2' : ((insE d e).extract 0 (d.size + 1)).toList.Perm ((d.push e).extract 0 (d.size + 1)).toList := h2
  simpa [ht, ht2] using h2'
theorem path_eq {x y : EV} (h1 : ltC cmE x y = false) (h2 : ltC cmE y x = false) : x.path = y.path := by
  rw [cmE_lt] at h1 h2
  simp only [Sort.ltStr, decide_eq_false_iff_not, List.not_lt] at h1 h2
  exact WideShapes.bytes_inj (List.le_antisymm h2 h1)
theorem sorted_eq : ∀ (a b : List EV), a.Perm b → (a.Pairwise fun x y => ltC cmE y x = false) → (b.Pairwise fun x y => ltC cmE y x = false) → (∀ x ∈ a, ∀ y ∈ a, x.path = y.path → x = y) → a = b
  | [], b, hp, _, _, _ => (List.Perm.nil_eq hp)
  | x :: t, [], hp, _, _, _ => by have := hp.length_eq; simp at this
  | x :: t, y :: u, hp, ha, hb, hd => by
    have hxy : x = y := by
      have hx : x ∈ y :: u := hp.mem_iff.1 List.mem_cons_self
      have hy : y ∈ x :: t := hp.mem_iff.2 List.mem_cons_self
      rcases List.mem_cons.1 hx with h | h
      · exact h
      rcases List.mem_cons.1 hy with h' | h'
      · exact h'.symm
      exact hd x List.mem_cons_self y hy (path_eq ((List.pairwise_cons.1 hb).1 x h) ((List.pairwise_cons.1 ha).1 y h'))
    subst hxy
    rw [sorted_eq t u hp.cons_inv (List.pairwise_cons.1 ha).2 (List.pairwise_cons.1 hb).2 fun p hp' q hq => hd p (List.mem_cons_of_mem _ hp') q (List.mem_cons_of_mem _ hq)]
end Go.Proofs.YtmekcbbieacioaaGreatDoorFn
namespace Go.Proofs.YtmekcbbieacioaaGreatDoorFn
open Go.Proofs.YtmekcbbieacioaaGreatDoorAl Go.Proofs.Tryz
/-! ### both ways of building make the same tree -/
theorem clashB_self (a : ByteArray) : clashB a a = true := by simp [clashB]
theorem badFile_none (l : List FV) : ∀ f i, badFile l f i = none → ∀ j, i ≤ j → j < i + f → ∀ h : j < l.length, fileC l j l[j] = none
  | 0, i, _, j, h1, h2, _ => by omega
  | f + 1, i, hb, j, h1, h2, h => by
    have hi : i < l.length := by omega
    simp only [badFile, List.getElem?_eq_getElem hi] at hb
    cases hx : fileC l i l[i] with
    | some n => rw [hx] at hb; cases hb
    | none =>
      rw [hx] at hb
      by_cases hij : i = j
      · subst hij; exact hx
      · exact badFile_none l f (i + 1) hb j (by omega) (by omega) h
theorem apart_paths {l : List FV} (hb : badFile l l.length 0 = none) {i j : Nat} (hi : i < l.length) (hj : j < l.length) (hij : i < j) : l[i].path ≠ l[j].path := by
  intro he
  have h := badFile_none l l.length 0 hb j (Nat.zero_le _) (by omega) hj
  unfold fileC at h
  have hany : (l.take j).any (fun x => clashB x.path l[j].path) = true := by
    rw [List.any_eq_true]
    exact ⟨l[i], List.mem_take_iff_getElem.2 ⟨i, by omega, rfl⟩, by rw [he]; exact clashB_self _⟩
  rw [hany] at h
  split at h
  · split at h
    · cases h
    · cases h
  · cases h
theorem one_path (c : CV) {l : List FV} (hb : badFile l l.length 0 = none) : ∀ x ∈ l.map (fileE c), ∀ y ∈ l.map (fileE c), x.path = y.path → x = y := by
  intro x hx y hy he
  obtain ⟨a, ha, rfl⟩ := List.mem_map.1 hx
  obtain ⟨b, hb', rfl⟩ := List.mem_map.1 hy
  obtain ⟨i, hi, rfl⟩ := List.getElem_of_mem ha
  obtain ⟨j, hj, rfl⟩ := List.getElem_of_mem hb'
  rcases Nat.lt_trichotomy i j with h | h | h
  · exact absurd he (apart_paths hb hi hj h)
  · subst h; rfl
  · exact absurd he.symm (apart_paths hb hj hi h)
theorem fold_facts : ∀ (l : List EV) (d : Array EV), Sort.SortedIn (ltC cmE) 0 d.size d → (l.foldl insE d).toList.Perm (d.toList ++ l) ∧ Sort.SortedIn (ltC cmE) 0 (l.foldl insE d).size (l.foldl insE d)
  | [], d, h => ⟨by simp, h⟩
  | e :: r, d, h => by
    obtain ⟨h1, h2, h3⟩ := ins_facts d e h
    obtain ⟨k1, k2⟩ := fold_facts r (insE d e) (by rw [h1]; exact h3)
    refine ⟨?_, k2⟩
    have := k1.trans (h2.append_right r)
    simpa using this
theorem sortedIn_pairwise {d : Array EV} (h : Sort.SortedIn (ltC cmE) 0 d.size d) : d.toList.Pairwise fun x y => ltC cmE y x = false := by
  rw [List.pairwise_iff_getElem]
  intro i j hi hj hij
  have := h i j (Nat.zero_le _) hij (by simpa using hj)
  rw [getElem!_pos d i (by simpa using hi), getElem!_pos d j (by simpa using hj)] at this
  simpa using this
theorem build_same (l : List FV) (c : CV) (hb : badFile l l.length 0 = none) : ((l.map (fileE c)).foldl insE #[]).toList = srtE (l.map (fileE c)) := by
  obtain ⟨h1, h2⟩ := fold_facts (l.map (fileE c)) #[] (fun i j _ _ h => by simp at h)
  obtain ⟨k1, k2⟩ := srtE_facts (l.map (fileE c))
  have h1' : ((l.map (fileE c)).foldl insE #[]).toList.Perm (l.map (fileE c)) := by simpa using h1
  exact sorted_eq _ _ (h1'.trans k1.symm) (sortedIn_pairwise h2) k2 fun x hx y hy => one_path c hb x (h1'.mem_iff.1 hx) y (h1'.mem_iff.1 hy)
theorem CV.split_len (c : CV) : ∀ (n : Nat) (s : ByteArray), (c.split n s).length ≤ n
  | 0, _ => Nat.le_refl _
  | n + 1, s => by
    unfold CV.split
    split
    · simp
    · have := CV.split_len c n (s.extract (c.len s) s.size)
      simp; omega
end Go.Proofs.YtmekcbbieacioaaGreatDoorFn
namespace Go.Proofs.YtmekcbbieacioaaGreatDoorFn
open Go.Proofs.YtmekcbbieacioaaGreatDoorAl Go.Proofs.Tryz
attribute [local irreducible] IntKind.wrap CodeOk OpsL OpG ACalls thn inBlk rndR cutR WkR Wk fnR DW ExtOk partsOf
theorem b10 : HasBody prog 10 := ⟨f10, func10, Option.some_ne_none _, by decide⟩
theorem b11 : HasBody prog 11 := ⟨f11, func11, Option.some_ne_none _, by decide⟩
/-! ### the head of the statements -/
def fA : FV := ⟨⟨#[97]⟩, ⟨#[120, 121, 122]⟩⟩
def cA : CV := ⟨2, 2, 0⟩
def eA : EV := ⟨⟨#[97]⟩, 3, [⟨#[120, 121]⟩, ⟨#[122]⟩]⟩
theorem buildA : buildC [fA] cA = .tuple [.st (.sl 3 [rowE eA]), nilE] := by
  have h1 : badFile [fA] 1 0 = none := by kernel_rfl
  have h2 : fileE cA fA = eA := by kernel_rfl
  have h3 : srtE [fileE cA fA] = [fileE cA fA] := List.perm_singleton.1 (srtE_facts _).1
  unfold buildC
  rw [if_neg (by decide), if_neg (by decide)]
  show (match badFile [fA] 1 0 with
    | none => AV.tuple [.st (.sl 3 ((srtE [fileE cA fA]).map rowE)), nilE]
    | some (i, n) => .tuple [.st .nilsl, spotE i n]) = _
  rw [h1, h3, h2]
  rfl
theorem checkA : treeC [⟨⟨#[]⟩, 0, []⟩] = spotE 0 2 := by kernel_rfl
set_option maxHeartbeats 4000000 in
theorem up_ok (o' : Obj) (hO : LaidE o') : ACalls prog 10 1 [] [(0, .fact 0 o')] fun r h => r = B true ∧ h = [(0, .fact 0 o')] := by
  have hb := build_ok [fA] cA (by decide) (by simp [fA]; decide) (by simp [fA]; decide)
  rw [buildA] at hb
  have hc := treeCheck_ok [⟨⟨#[]⟩, 0, []⟩] (by decide) (by simp; decide) (by simp)
  rw [checkA] at hc
  have hi := Is_ok o' hO 0 2
  have r1 : (rowE eA) = [.str ⟨#[97]⟩, .int .i64 3, .sl 1 [rowS ⟨#[120, 121]⟩, rowS ⟨#[122]⟩]] := rfl
  rw [r1] at hb
  refine fnC lay_ok func10 rfl rfl rfl rfl rfl ?_
  repeat' first | refine wr (by omega) ?_ | refine ln ?_ | refine stp lay_ok rfl ?_ | refine fin ?_ | refine n_thn ?_ | refine n_blk ?_ | refine e_thn ?_ | refine e_hit ?_ | refine e_miss rfl ?_ | refine r_thn ?_ | refine r_blk ?_ | refine e_rr ?_ | refine r_rr ?_ | refine e_cr ?_ | refine r_cr ?_ | refine .seq ?_ | refine reg ?_ | refine .block ?_ | refine .skip ?_ | refine .ret ?_ | refine .exit ?_ | refine cndT rfl ?_ | refine cndF rfl ?_ | refine c_dec rfl (fun hc => ?_) (fun hc => ?_) | refine c_ndec rfl (fun hc => ?_) (fun hc => ?_) | refine cnd rfl (fun hc => ?_) (fun hc => ?_) | ((first | refine o_none rfl ?_ | refine o_none_ ?_ | refine o_yes rfl rfl rfl ?_ | refine o_yes_ rfl rfl ?_); first | refine st_pure (hb) b12 rfl rfl rfl rfl ?_ | refine st_pureL (hc) b17 rfl (by (repeat' first | exact AVLeL.nil | refine AVLeL.cons ?_ ?_ | exact AVLe.refl _ | refine AVLe.st ?_ | exact SLe.refl _ | exact SLe.nil _ | exact SLe.sl0 _ | refine SLe.agg ?_ | refine SLe.sl ?_ | refine SLe.iface ?_ | exact SLeL.nil | refine SLeL.cons ?_ ?_ | exact RLe.nil' | refine RLe.cons' rfl ?_ ?_); first | done | fail) rfl rfl rfl ?_ | refine st_callK [0] (hi) b27 rfl rfl rfl rfl rfl (by (repeat' first | exact trivial | refine And.intro ?_ ?_ | rfl); first | done | fail) ?_ | refine st_index [.str ⟨#[97]⟩, .int .i64 3, .sl 1 [rowS ⟨#[120, 121]⟩, rowS ⟨#[122]⟩]] lay_ok rfl rfl rfl rfl (by omega) rfl ?_ | refine st_index (rowS ⟨#[122]⟩) lay_ok rfl rfl rfl rfl (by omega) rfl ?_) | refine gd rfl rfl rfl (fun hg => ?_) (fun hg => ?_) | refine gn rfl rfl rfl (fun hg => ?_) (fun hg => ?_)
  refine f_r [(0, .fact 0 o')] rfl (by (repeat' first | exact trivial | refine And.intro ?_ ?_ | rfl); first | done | fail) rfl ⟨?_, rfl⟩
  rfl
def fewB (f : FV) : Bool := decide (f.path.size ≤ 2000) && decide (f.bytes.size ≤ 3000)
theorem few_ok (l : List FV) (hl : l.length ≤ 140737488351232) : ACalls prog 11 0 [.st (.sl 2 (l.map rowF))] [] fun r h => r = B (decide (l.length ≤ 100) && l.all fewB) ∧ h = [] := by
  have hm : (List.map rowF l).length = l.length := List.length_map _
  refine fnC lay_ok func11 rfl rfl rfl rfl rfl ?_
  by_cases h100 : l.length ≤ 100
  case neg =>
    repeat' first | refine wr (by omega) ?_ | refine ln ?_ | refine stp lay_ok rfl ?_ | refine fin ?_ | refine n_thn ?_ | refine n_blk ?_ | refine e_thn ?_ | refine e_hit ?_ | refine e_miss rfl ?_ | refine r_thn ?_ | refine r_blk ?_ | refine e_rr ?_ | refine r_rr ?_ | refine e_cr ?_ | refine r_cr ?_ | refine .seq ?_ | refine reg ?_ | refine .block ?_ | refine .skip ?_ | refine .ret ?_ | refine .exit ?_ | refine cndT rfl ?_ | refine cndF rfl ?_ | refine c_dec rfl (fun hc => ?_) (fun hc => ?_) | refine c_ndec rfl (fun hc => ?_) (fun hc => ?_) | refine cnd rfl (fun hc => ?_) (fun hc => ?_) | refine gd rfl rfl rfl (fun hg => ?_) (fun hg => ?_) | refine gn rfl rfl rfl (fun hg => ?_) (fun hg => ?_)
    all_goals first
      | (exfalso; omega)
      | skip
    refine f_r [] rfl trivial rfl ⟨?_, rfl⟩
    simp [retOf, h100]
  repeat' first | refine wr (by omega) ?_ | refine ln ?_ | refine stp lay_ok rfl ?_ | refine fin ?_ | refine n_thn ?_ | refine n_blk ?_ | refine e_thn ?_ | refine e_hit ?_ | refine e_miss rfl ?_ | refine r_thn ?_ | refine r_blk ?_ | refine e_rr ?_ | refine r_rr ?_ | refine e_cr ?_ | refine r_cr ?_ | refine .seq ?_ | refine reg ?_ | refine .block ?_ | refine .skip ?_ | refine .ret ?_ | refine .exit ?_ | refine cndT rfl ?_ | refine cndF rfl ?_ | refine c_dec rfl (fun hc => ?_) (fun hc => ?_) | refine c_ndec rfl (fun hc => ?_) (fun hc => ?_) | refine cnd rfl (fun hc => ?_) (fun hc => ?_) | refine gd rfl rfl rfl (fun hg => ?_) (fun hg => ?_) | refine gn rfl rfl rfl (fun hg => ?_) (fun hg => ?_)
  all_goals first
    | (exfalso; omega)
    | skip
  refine lpR (fun k => k ≤ l.length ∧ (l.take k).all fewB = true) (fun k => l.length - k) (fun k => [(3, I k)]) (fun k => []) (0) [0] [] [] rfl rfl rfl (.of [] (by (repeat' first | exact trivial | refine And.intro ?_ ?_ | rfl); first | done | fail) (by (repeat' first | exact trivial | refine And.intro ?_ ?_ | rfl); first | done | fail) rfl) ?_ ?_
  · exact ⟨Nat.zero_le _, rfl⟩
  rintro k ⟨g1, g2⟩
  refine nrm rfl rfl ?_
  by_cases hk : k < l.length
  case neg =>
    have hke : k = l.length := by omega
    subst hke
    rw [List.take_length] at g2
    repeat' first | refine wr (by omega) ?_ | refine ln ?_ | refine stp lay_ok rfl ?_ | refine fin ?_ | refine n_thn ?_ | refine n_blk ?_ | refine e_thn ?_ | refine e_hit ?_ | refine e_miss rfl ?_ | refine r_thn ?_ | refine r_blk ?_ | refine e_rr ?_ | refine r_rr ?_ | refine e_cr ?_ | refine r_cr ?_ | refine .seq ?_ | refine reg ?_ | refine .block ?_ | refine .skip ?_ | refine .ret ?_ | refine .exit ?_ | refine cndT rfl ?_ | refine cndF rfl ?_ | refine c_dec rfl (fun hc => ?_) (fun hc => ?_) | refine c_ndec rfl (fun hc => ?_) (fun hc => ?_) | refine cnd rfl (fun hc => ?_) (fun hc => ?_) | refine gd rfl rfl rfl (fun hg => ?_) (fun hg => ?_) | refine gn rfl rfl rfl (fun hg => ?_) (fun hg => ?_)
    all_goals first
      | (exfalso; omega)
      | skip
    refine f_r [] rfl trivial rfl ⟨?_, rfl⟩
    rw [g2]
    simp [retOf, h100]
  have hat := at_rowF hk
  have htk : (l.take (k + 1)).all fewB = ((l.take k).all fewB && fewB l[k]) := by
    rw [List.take_succ_eq_append_getElem hk, List.all_append]; simp
  have hno : fewB l[k] = false → l.all fewB = false := fun h => by
    cases h' : l.all fewB with
    | false => rfl
    | true => rw [List.all_eq_true.1 h' _ (List.getElem_mem hk)] at h; cases h
  generalize l[k] = e at *
  obtain ⟨p, z⟩ := e
  repeat' first | refine wr (by omega) ?_ | refine ln ?_ | refine stp lay_ok rfl ?_ | refine fin ?_ | refine n_thn ?_ | refine n_blk ?_ | refine e_thn ?_ | refine e_hit ?_ | refine e_miss rfl ?_ | refine r_thn ?_ | refine r_blk ?_ | refine e_rr ?_ | refine r_rr ?_ | refine e_cr ?_ | refine r_cr ?_ | refine .seq ?_ | refine reg ?_ | refine .block ?_ | refine .skip ?_ | refine .ret ?_ | refine .exit ?_ | refine cndT rfl ?_ | refine cndF rfl ?_ | refine c_dec rfl (fun hc => ?_) (fun hc => ?_) | refine c_ndec rfl (fun hc => ?_) (fun hc => ?_) | refine cnd rfl (fun hc => ?_) (fun hc => ?_) | ((first | refine o_none rfl ?_ | refine o_none_ ?_ | refine o_yes rfl rfl rfl ?_ | refine o_yes_ rfl rfl ?_); first | refine st_index (rowF ⟨p, z⟩) lay_ok rfl rfl rfl rfl (by omega) hat ?_) | refine gd rfl rfl rfl (fun hg => ?_) (fun hg => ?_) | refine gn rfl rfl rfl (fun hg => ?_) (fun hg => ?_)
  all_goals first
    | (exfalso; omega)
    | skip
  · simp only at hg
    refine f_r [] rfl trivial rfl ⟨?_, rfl⟩
    rw [hno (by simp [fewB]; omega)]
    simp [retOf]
  · simp only at hg hc
    refine f_r [] rfl trivial rfl ⟨?_, rfl⟩
    rw [hno (by simp [fewB]; omega)]
    simp [retOf]
  · simp only at hg hc
    refine n_rr (k + 1) ?_ (.of [] (by (repeat' first | exact trivial | refine And.intro ?_ ?_ | rfl | exact congrArg (fun z : Int => some (AV.st (.int .i64 z))) (show (k : Int) + 1 = ((k + 1 : Nat) : Int) by omega)); first | done | fail) (by (repeat' first | exact trivial | refine And.intro ?_ ?_ | rfl | exact congrArg (fun z : Int => some (AV.st (.int .i64 z))) (show (k : Int) + 1 = ((k + 1 : Nat) : Int) by omega)); first | done | fail) rfl) ?_
    · omega
    · refine ⟨hk, ?_⟩
      rw [htk, g2]
      simp [fewB]; omega
end Go.Proofs.YtmekcbbieacioaaGreatDoorFn
namespace Go.Proofs.YtmekcbbieacioaaGreatDoorFn
open Go.Proofs.YtmekcbbieacioaaGreatDoorAl Go.Proofs.Tryz
attribute [local irreducible] IntKind.wrap CodeOk OpsL OpG ACalls thn inBlk rndR cutR WkR Wk fnR DW ExtOk partsOf
theorem b104 : HasBody prog 104 := ⟨f104, func104, Option.some_ne_none _, by decide⟩
theorem b105 : HasBody prog 105 := ⟨f105, func105, Option.some_ne_none _, by decide⟩
theorem b88 : HasBody prog 88 := ⟨f88, func88, Option.some_ne_none _, by decide⟩
theorem get_some {s : ByteArray} {p : Nat} (h : p < s.size) : s[p]? = some (s.get! p) := by
  rw [getElem?_pos s p h]; congr 1
  show s.get p h = s.get! p
  simp only [ByteArray.get, ByteArray.get!]
  exact (getElem!_pos s.data p h).symm
/-- The bytes behind the first one of a character. -/
def wLoop (s : ByteArray) (p : Nat) : Nat → Nat → Int → Option Int
  | 0, _, v => some v
  | f + 1, i, v => if (s.get! (p + i)).toNat < 128 ∨ 191 < (s.get! (p + i)).toNat then none else wLoop s p f (i + 1) (v * 64 + (s.get! (p + i)).toNat - 128)
def wEnd (s : ByteArray) (p n least : Nat) (v : Int) : Nat :=
  if s.size < p + n then 0 else match wLoop s p (n - 1) 1 v with
    | none => 0
    | some v => if v < (least : Int) ∨ 1114111 < v ∨ (55296 ≤ v ∧ v ≤ 57343) ∨ v = 65533 then 0 else n
def widthR (s : ByteArray) (p : Nat) : Nat :=
  if (s.get! p).toNat < 128 then 1
  else if 192 ≤ (s.get! p).toNat ∧ (s.get! p).toNat < 224 then wEnd s p 2 128 (((s.get! p).toNat : Int) - 192)
  else if 224 ≤ (s.get! p).toNat ∧ (s.get! p).toNat < 240 then wEnd s p 3 2048 (((s.get! p).toNat : Int) - 224)
  else if 240 ≤ (s.get! p).toNat ∧ (s.get! p).toNat < 248 then wEnd s p 4 65536 (((s.get! p).toNat : Int) - 240)
  else 0
set_option maxHeartbeats 4000000 in
set_option maxRecDepth 4000 in
theorem width_ok (s : ByteArray) (p : Nat) (hs : s.size ≤ 4000000000) (hp : p < s.size) : ACalls prog 104 0 [Sx s, I p] [] fun r h => r = I (widthR s p) ∧ h = [] := by
  have ha := get_some hp
  have hla := (s.get! p).toNat_lt
  have hw : widthR s p = if (s.get! p).toNat < 128 then 1
    else if 192 ≤ (s.get! p).toNat ∧ (s.get! p).toNat < 224 then wEnd s p 2 128 (((s.get! p).toNat : Int) - 192)
    else if 224 ≤ (s.get! p).toNat ∧ (s.get! p).toNat < 240 then wEnd s p 3 2048 (((s.get! p).toNat : Int) - 224)
    else if 240 ≤ (s.get! p).toNat ∧ (s.get! p).toNat < 248 then wEnd s p 4 65536 (((s.get! p).toNat : Int) - 240)
    else 0 := rfl
  generalize widthR s p = W at *
  generalize s.get! p = a at *
  refine fnC lay_ok func104 rfl rfl rfl rfl rfl ?_
  by_cases h1 : a.toNat < 128
  · rw [if_pos h1] at hw
    repeat' first | refine wr (by omega) ?_ | refine ln ?_ | refine stp lay_ok rfl ?_ | refine fin ?_ | refine n_thn ?_ | refine n_blk ?_ | refine e_thn ?_ | refine e_hit ?_ | refine e_miss rfl ?_ | refine r_thn ?_ | refine r_blk ?_ | refine e_rr ?_ | refine r_rr ?_ | refine e_cr ?_ | refine r_cr ?_ | refine .seq ?_ | refine reg ?_ | refine .block ?_ | refine .skip ?_ | refine .ret ?_ | refine .exit ?_ | refine cndT rfl ?_ | refine cndF rfl ?_ | refine c_dec rfl (fun hc => ?_) (fun hc => ?_) | refine c_ndec rfl (fun hc => ?_) (fun hc => ?_) | refine cnd rfl (fun hc => ?_) (fun hc => ?_) | ((first | refine o_none rfl ?_ | refine o_none_ ?_ | refine o_yes rfl rfl rfl ?_ | refine o_yes_ rfl rfl ?_); first | refine st_indexStr a lay_ok rfl rfl rfl rfl (by omega) ha ?_) | refine gd rfl rfl rfl (fun hg => ?_) (fun hg => ?_) | refine gn rfl rfl rfl (fun hg => ?_) (fun hg => ?_)
    all_goals first
      | (exfalso; omega)
      | (refine f_r [] rfl trivial rfl ⟨?_, rfl⟩; rw [hw]; rfl)
  rw [if_neg h1] at hw
  by_cases h2 : 192 ≤ a.toNat ∧ a.toNat < 224
  · rw [if_pos h2] at hw
    repeat' first | refine wr (by omega) ?_ | refine ln ?_ | refine stp lay_ok rfl ?_ | refine fin ?_ | refine n_thn ?_ | refine n_blk ?_ | refine e_thn ?_ | refine e_hit ?_ | refine e_miss rfl ?_ | refine r_thn ?_ | refine r_blk ?_ | refine e_rr ?_ | refine r_rr ?_ | refine e_cr ?_ | refine r_cr ?_ | refine .seq ?_ | refine reg ?_ | refine .block ?_ | refine .skip ?_ | refine .ret ?_ | refine .exit ?_ | refine cndT rfl ?_ | refine cndF rfl ?_ | refine c_dec rfl (fun hc => ?_) (fun hc => ?_) | refine c_ndec rfl (fun hc => ?_) (fun hc => ?_) | refine cnd rfl (fun hc => ?_) (fun hc => ?_) | ((first | refine o_none rfl ?_ | refine o_none_ ?_ | refine o_yes rfl rfl rfl ?_ | refine o_yes_ rfl rfl ?_); first | refine st_indexStr a lay_ok rfl rfl rfl rfl (by omega) ha ?_) | refine gd rfl rfl rfl (fun hg => ?_) (fun hg => ?_) | refine gn rfl rfl rfl (fun hg => ?_) (fun hg => ?_)
    all_goals first
      | (exfalso; omega)
      | (refine f_r [] rfl trivial rfl ⟨?_, rfl⟩; rw [hw, wEnd, if_pos (by omega)]; rfl)
      | skip
    have hsz : ¬ s.size < p + 2 := by omega
    rw [wEnd, if_neg hsz] at hw
    generalize hK : wLoop s p (2 - 1) 1 ((a.toNat : Int) - 192) = K at hw
    refine lpR (fun (i, v) => K = wLoop s p (2 - i) i v ∧ (i = 1 ∧ v < 32 ∨ i = 2 ∧ v < 2048 ∨ i = 3 ∧ v < 131072 ∨ i = 4 ∧ v < 8388608) ∧ 0 ≤ v ∧ i ≤ 2) (fun (i, v) => 2 - i) (fun (i, v) => [(9, I i), (8, .st (.int .i64 v))]) (fun (i, v) => []) ((1, (a.toNat : Int) - 192)) [0, 1, 6, 7] [] [] rfl rfl rfl (.of [] (by (repeat' first | exact trivial | refine And.intro ?_ ?_ | rfl); first | done | fail) (by (repeat' first | exact trivial | refine And.intro ?_ ?_ | rfl); first | done | fail) rfl) ?_ ?_
    · exact ⟨hK.symm, by omega, by omega, by decide⟩
    rintro ⟨i, v⟩ ⟨g1, g2, g3, g4⟩
    refine nrm rfl rfl ?_
    rw [g1] at hw
    by_cases hi : i < 2
    · have hx := get_some (show p + i < s.size by omega)
      have hxl := (s.get! (p + i)).toNat_lt
      have hx' : s[((p : Int) + (i : Int)).toNat]? = some (s.get! (p + i)) := by rw [← hx]; congr 1
      rw [show 2 - i = (2 - (i + 1)) + 1 by omega, wLoop] at hw
      have hws := g1
      rw [show 2 - i = (2 - (i + 1)) + 1 by omega, wLoop] at hws
      generalize s.get! (p + i) = x at *
      by_cases hxx : x.toNat < 128 ∨ 191 < x.toNat
      · rw [if_pos hxx] at hw
        repeat' first | refine wr (by omega) ?_ | refine ln ?_ | refine stp lay_ok rfl ?_ | refine fin ?_ | refine n_thn ?_ | refine n_blk ?_ | refine e_thn ?_ | refine e_hit ?_ | refine e_miss rfl ?_ | refine r_thn ?_ | refine r_blk ?_ | refine e_rr ?_ | refine r_rr ?_ | refine e_cr ?_ | refine r_cr ?_ | refine .seq ?_ | refine reg ?_ | refine .block ?_ | refine .skip ?_ | refine .ret ?_ | refine .exit ?_ | refine cndT rfl ?_ | refine cndF rfl ?_ | refine c_dec rfl (fun hc => ?_) (fun hc => ?_) | refine c_ndec rfl (fun hc => ?_) (fun hc => ?_) | refine cnd rfl (fun hc => ?_) (fun hc => ?_) | ((first | refine o_none rfl ?_ | refine o_none_ ?_ | refine o_yes rfl rfl rfl ?_ | refine o_yes_ rfl rfl ?_); first | refine st_indexStr x lay_ok rfl rfl rfl rfl (by omega) hx' ?_) | refine gd rfl rfl rfl (fun hg => ?_) (fun hg => ?_) | refine gn rfl rfl rfl (fun hg => ?_) (fun hg => ?_)
        all_goals first
          | (exfalso; omega)
          | (refine f_r [] rfl trivial rfl ⟨?_, rfl⟩; rw [hw]; rfl)
      · rw [if_neg hxx] at hw hws
        repeat' first | refine wr (by omega) ?_ | refine ln ?_ | refine stp lay_ok rfl ?_ | refine fin ?_ | refine n_thn ?_ | refine n_blk ?_ | refine e_thn ?_ | refine e_hit ?_ | refine e_miss rfl ?_ | refine r_thn ?_ | refine r_blk ?_ | refine e_rr ?_ | refine r_rr ?_ | refine e_cr ?_ | refine r_cr ?_ | refine .seq ?_ | refine reg ?_ | refine .block ?_ | refine .skip ?_ | refine .ret ?_ | refine .exit ?_ | refine cndT rfl ?_ | refine cndF rfl ?_ | refine c_dec rfl (fun hc => ?_) (fun hc => ?_) | refine c_ndec rfl (fun hc => ?_) (fun hc => ?_) | refine cnd rfl (fun hc => ?_) (fun hc => ?_) | ((first | refine o_none rfl ?_ | refine o_none_ ?_ | refine o_yes rfl rfl rfl ?_ | refine o_yes_ rfl rfl ?_); first | refine st_indexStr x lay_ok rfl rfl rfl rfl (by omega) hx' ?_) | refine gd rfl rfl rfl (fun hg => ?_) (fun hg => ?_) | refine gn rfl rfl rfl (fun hg => ?_) (fun hg => ?_)
        all_goals first
          | (exfalso; omega)
          | skip
        refine n_rr ((i + 1, v * 64 + (x.toNat : Int) - 128)) ?_ (.of [] (by (repeat' first | exact trivial | refine And.intro ?_ ?_ | rfl); first | done | fail) (by (repeat' first | exact trivial | refine And.intro ?_ ?_ | rfl); first | done | fail) rfl) ?_
        · show 2 - (i + 1) < 2 - i; omega
        · exact ⟨hws, by omega, by omega, by omega⟩
    · have hi' : i = 2 := by omega
      subst hi'
      rw [Nat.sub_self, wLoop] at hw
      simp only at hw
      by_cases hv : v < ((128 : Nat) : Int) ∨ 1114111 < v ∨ (55296 ≤ v ∧ v ≤ 57343) ∨ v = 65533
      · rw [if_pos hv] at hw
        repeat' first | refine wr (by omega) ?_ | refine ln ?_ | refine stp lay_ok rfl ?_ | refine fin ?_ | refine n_thn ?_ | refine n_blk ?_ | refine e_thn ?_ | refine e_hit ?_ | refine e_miss rfl ?_ | refine r_thn ?_ | refine r_blk ?_ | refine e_rr ?_ | refine r_rr ?_ | refine e_cr ?_ | refine r_cr ?_ | refine .seq ?_ | refine reg ?_ | refine .block ?_ | refine .skip ?_ | refine .ret ?_ | refine .exit ?_ | refine cndT rfl ?_ | refine cndF rfl ?_ | refine c_dec rfl (fun hc => ?_) (fun hc => ?_) | refine c_ndec rfl (fun hc => ?_) (fun hc => ?_) | refine cnd rfl (fun hc => ?_) (fun hc => ?_) | refine gd rfl rfl rfl (fun hg => ?_) (fun hg => ?_) | refine gn rfl rfl rfl (fun hg => ?_) (fun hg => ?_)
        all_goals first
          | (exfalso; omega)
          | (refine f_r [] rfl trivial rfl ⟨?_, rfl⟩; rw [hw]; rfl)
      · rw [if_neg hv] at hw
        repeat' first | refine wr (by omega) ?_ | refine ln ?_ | refine stp lay_ok rfl ?_ | refine fin ?_ | refine n_thn ?_ | refine n_blk ?_ | refine e_thn ?_ | refine e_hit ?_ | refine e_miss rfl ?_ | refine r_thn ?_ | refine r_blk ?_ | refine e_rr ?_ | refine r_rr ?_ | refine e_cr ?_ | refine r_cr ?_ | refine .seq ?_ | refine reg ?_ | refine .block ?_ | refine .skip ?_ | refine .ret ?_ | refine .exit ?_ | refine cndT rfl ?_ | refine cndF rfl ?_ | refine c_dec rfl (fun hc => ?_) (fun hc => ?_) | refine c_ndec rfl (fun hc => ?_) (fun hc => ?_) | refine cnd rfl (fun hc => ?_) (fun hc => ?_) | refine gd rfl rfl rfl (fun hg => ?_) (fun hg => ?_) | refine gn rfl rfl rfl (fun hg => ?_) (fun hg => ?_)
        all_goals first
          | (exfalso; omega)
          | (refine f_r [] rfl trivial rfl ⟨?_, rfl⟩; rw [hw]; rfl)
  rw [if_neg h2] at hw
  by_cases h3 : 224 ≤ a.toNat ∧ a.toNat < 240
  · rw [if_pos h3] at hw
    repeat' first | refine wr (by omega) ?_ | refine ln ?_ | refine stp lay_ok rfl ?_ | refine fin ?_ | refine n_thn ?_ | refine n_blk ?_ | refine e_thn ?_ | refine e_hit ?_ | refine e_miss rfl ?_ | refine r_thn ?_ | refine r_blk ?_ | refine e_rr ?_ | refine r_rr ?_ | refine e_cr ?_ | refine r_cr ?_ | refine .seq ?_ | refine reg ?_ | refine .block ?_ | refine .skip ?_ | refine .ret ?_ | refine .exit ?_ | refine cndT rfl ?_ | refine cndF rfl ?_ | refine c_dec rfl (fun hc => ?_) (fun hc => ?_) | refine c_ndec rfl (fun hc => ?_) (fun hc => ?_) | refine cnd rfl (fun hc => ?_) (fun hc => ?_) | ((first | refine o_none rfl ?_ | refine o_none_ ?_ | refine o_yes rfl rfl rfl ?_ | refine o_yes_ rfl rfl ?_); first | refine st_indexStr a lay_ok rfl rfl rfl rfl (by omega) ha ?_) | refine gd rfl rfl rfl (fun hg => ?_) (fun hg => ?_) | refine gn rfl rfl rfl (fun hg => ?_) (fun hg => ?_)
    all_goals first
      | (exfalso; omega)
      | (refine f_r [] rfl trivial rfl ⟨?_, rfl⟩; rw [hw, wEnd, if_pos (by omega)]; rfl)
      | skip
    have hsz : ¬ s.size < p + 3 := by omega
    rw [wEnd, if_neg hsz] at hw
    generalize hK : wLoop s p (3 - 1) 1 ((a.toNat : Int) - 224) = K at hw
    refine lpR (fun (i, v) => K = wLoop s p (3 - i) i v ∧ (i = 1 ∧ v < 32 ∨ i = 2 ∧ v < 2048 ∨ i = 3 ∧ v < 131072 ∨ i = 4 ∧ v < 8388608) ∧ 0 ≤ v ∧ i ≤ 3) (fun (i, v) => 3 - i) (fun (i, v) => [(9, I i), (8, .st (.int .i64 v))]) (fun (i, v) => []) ((1, (a.toNat : Int) - 224)) [0, 1, 6, 7] [] [] rfl rfl rfl (.of [] (by (repeat' first | exact trivial | refine And.intro ?_ ?_ | rfl); first | done | fail) (by (repeat' first | exact trivial | refine And.intro ?_ ?_ | rfl); first | done | fail) rfl) ?_ ?_
    · exact ⟨hK.symm, by omega, by omega, by decide⟩
    rintro ⟨i, v⟩ ⟨g1, g2, g3, g4⟩
    refine nrm rfl rfl ?_
    rw [g1] at hw
    by_cases hi : i < 3
    · have hx := get_some (show p + i < s.size by omega)
      have hxl := (s.get! (p + i)).toNat_lt
      have hx' : s[((p : Int) + (i : Int)).toNat]? = some (s.get! (p + i)) := by rw [← hx]; congr 1
      rw [show 3 - i = (3 - (i + 1)) + 1 by omega, wLoop] at hw
      have hws := g1
      rw [show 3 - i = (3 - (i + 1)) + 1 by omega, wLoop] at hws
      generalize s.get! (p + i) = x at *
      by_cases hxx : x.toNat < 128 ∨ 191 < x.toNat
      · rw [if_pos hxx] at hw
        repeat' first | refine wr (by omega) ?_ | refine ln ?_ | refine stp lay_ok rfl ?_ | refine fin ?_ | refine n_thn ?_ | refine n_blk ?_ | refine e_thn ?_ | refine e_hit ?_ | refine e_miss rfl ?_ | refine r_thn ?_ | refine r_blk ?_ | refine e_rr ?_ | refine r_rr ?_ | refine e_cr ?_ | refine r_cr ?_ | refine .seq ?_ | refine reg ?_ | refine .block ?_ | refine .skip ?_ | refine .ret ?_ | refine .exit ?_ | refine cndT rfl ?_ | refine cndF rfl ?_ | refine c_dec rfl (fun hc => ?_) (fun hc => ?_) | refine c_ndec rfl (fun hc => ?_) (fun hc => ?_) | refine cnd rfl (fun hc => ?_) (fun hc => ?_) | ((first | refine o_none rfl ?_ | refine o_none_ ?_ | refine o_yes rfl rfl rfl ?_ | refine o_yes_ rfl rfl ?_); first | refine st_indexStr x lay_ok rfl rfl rfl rfl (by omega) hx' ?_) | refine gd rfl rfl rfl (fun hg => ?_) (fun hg => ?_) | refine gn rfl rfl rfl (fun hg => ?_) (fun hg => ?_)
        all_goals first
          | (exfalso; omega)
          | (refine f_r [] rfl trivial rfl ⟨?_, rfl⟩; rw [hw]; rfl)
      · rw [if_neg hxx] at hw hws
        repeat' first | refine wr (by omega) ?_ | refine ln ?_ | refine stp lay_ok rfl ?_ | refine fin ?_ | refine n_thn ?_ | refine n_blk ?_ | refine e_thn ?_ | refine e_hit ?_ | refine e_miss rfl ?_ | refine r_thn ?_ | refine r_blk ?_ | refine e_rr ?_ | refine r_rr ?_ | refine e_cr ?_ | refine r_cr ?_ | refine .seq ?_ | refine reg ?_ | refine .block ?_ | refine .skip ?_ | refine .ret ?_ | refine .exit ?_ | refine cndT rfl ?_ | refine cndF rfl ?_ | refine c_dec rfl (fun hc => ?_) (fun hc => ?_) | refine c_ndec rfl (fun hc => ?_) (fun hc => ?_) | refine cnd rfl (fun hc => ?_) (fun hc => ?_) | ((first | refine o_none rfl ?_ | refine o_none_ ?_ | refine o_yes rfl rfl rfl ?_ | refine o_yes_ rfl rfl ?_); first | refine st_indexStr x lay_ok rfl rfl rfl rfl (by omega) hx' ?_) | refine gd rfl rfl rfl (fun hg => ?_) (fun hg => ?_) | refine gn rfl rfl rfl (fun hg => ?_) (fun hg => ?_)
        all_goals first
          | (exfalso; omega)
          | skip
        refine n_rr ((i + 1, v * 64 + (x.toNat : Int) - 128)) ?_ (.of [] (by (repeat' first | exact trivial | refine And.intro ?_ ?_ | rfl); first | done | fail) (by (repeat' first | exact trivial | refine And.intro ?_ ?_ | rfl); first | done | fail) rfl) ?_
        · show 3 - (i + 1) < 3 - i; omega
        · exact ⟨hws, by omega, by omega, by omega⟩
    · have hi' : i = 3 := by omega
      subst hi'
      rw [Nat.sub_self, wLoop] at hw
      simp only at hw
      by_cases hv : v < ((2048 : Nat) : Int) ∨ 1114111 < v ∨ (55296 ≤ v ∧ v ≤ 57343) ∨ v = 65533
      · rw [if_pos hv] at hw
        repeat' first | refine wr (by omega) ?_ | refine ln ?_ | refine stp lay_ok rfl ?_ | refine fin ?_ | refine n_thn ?_ | refine n_blk ?_ | refine e_thn ?_ | refine e_hit ?_ | refine e_miss rfl ?_ | refine r_thn ?_ | refine r_blk ?_ | refine e_rr ?_ | refine r_rr ?_ | refine e_cr ?_ | refine r_cr ?_ | refine .seq ?_ | refine reg ?_ | refine .block ?_ | refine .skip ?_ | refine .ret ?_ | refine .exit ?_ | refine cndT rfl ?_ | refine cndF rfl ?_ | refine c_dec rfl (fun hc => ?_) (fun hc => ?_) | refine c_ndec rfl (fun hc => ?_) (fun hc => ?_) | refine cnd rfl (fun hc => ?_) (fun hc => ?_) | refine gd rfl rfl rfl (fun hg => ?_) (fun hg => ?_) | refine gn rfl rfl rfl (fun hg => ?_) (fun hg => ?_)
        all_goals first
          | (exfalso; omega)
          | (refine f_r [] rfl trivial rfl ⟨?_, rfl⟩; rw [hw]; rfl)
      · rw [if_neg hv] at hw
        repeat' first | refine wr (by omega) ?_ | refine ln ?_ | refine stp lay_ok rfl ?_ | refine fin ?_ | refine n_thn ?_ | refine n_blk ?_ | refine e_thn ?_ | refine e_hit ?_ | refine e_miss rfl ?_ | refine r_thn ?_ | refine r_blk ?_ | refine e_rr ?_ | refine r_rr ?_ | refine e_cr ?_ | refine r_cr ?_ | refine .seq ?_ | refine reg ?_ | refine .block ?_ | refine .skip ?_ | refine .ret ?_ | refine .exit ?_ | refine cndT rfl ?_ | refine cndF rfl ?_ | refine c_dec rfl (fun hc => ?_) (fun hc => ?_) | refine c_ndec rfl (fun hc => ?_) (fun hc => ?_) | refine cnd rfl (fun hc => ?_) (fun hc => ?_) | refine gd rfl rfl rfl (fun hg => ?_) (fun hg => ?_) | refine gn rfl rfl rfl (fun hg => ?_) (fun hg => ?_)
        all_goals first
          | (exfalso; omega)
          | (refine f_r [] rfl trivial rfl ⟨?_, rfl⟩; rw [hw]; rfl)
  rw [if_neg h3] at hw
  by_cases h4 : 240 ≤ a.toNat ∧ a.toNat < 248
  · rw [if_pos h4] at hw
    repeat' first | refine wr (by omega) ?_ | refine ln ?_ | refine stp lay_ok rfl ?_ | refine fin ?_ | refine n_thn ?_ | refine n_blk ?_ | refine e_thn ?_ | refine e_hit ?_ | refine e_miss rfl ?_ | refine r_thn ?_ | refine r_blk ?_ | refine e_rr ?_ | refine r_rr ?_ | refine e_cr ?_ | refine r_cr ?_ | refine .seq ?_ | refine reg ?_ | refine .block ?_ | refine .skip ?_ | refine .ret ?_ | refine .exit ?_ | refine cndT rfl ?_ | refine cndF rfl ?_ | refine c_dec rfl (fun hc => ?_) (fun hc => ?_) | refine c_ndec rfl (fun hc => ?_) (fun hc => ?_) | refine cnd rfl (fun hc => ?_) (fun hc => ?_) | ((first | refine o_none rfl ?_ | refine o_none_ ?_ | refine o_yes rfl rfl rfl ?_ | refine o_yes_ rfl rfl ?_); first | refine st_indexStr a lay_ok rfl rfl rfl rfl (by omega) ha ?_) | refine gd rfl rfl rfl (fun hg => ?_) (fun hg => ?_) | refine gn rfl rfl rfl (fun hg => ?_) (fun hg => ?_)
    all_goals first
      | (exfalso; omega)
      | (refine f_r [] rfl trivial rfl ⟨?_, rfl⟩; rw [hw, wEnd, if_pos (by omega)]; rfl)
      | skip
    have hsz : ¬ s.size < p + 4 := by omega
    rw [wEnd, if_neg hsz] at hw
    generalize hK : wLoop s p (4 - 1) 1 ((a.toNat : Int) - 240) = K at hw
    refine lpR (fun (i, v) => K = wLoop s p (4 - i) i v ∧ (i = 1 ∧ v < 32 ∨ i = 2 ∧ v < 2048 ∨ i = 3 ∧ v < 131072 ∨ i = 4 ∧ v < 8388608) ∧ 0 ≤ v ∧ i ≤ 4) (fun (i, v) => 4 - i) (fun (i, v) => [(9, I i), (8, .st (.int .i64 v))]) (fun (i, v) => []) ((1, (a.toNat : Int) - 240)) [0, 1, 6, 7] [] [] rfl rfl rfl (.of [] (by (repeat' first | exact trivial | refine And.intro ?_ ?_ | rfl); first | done | fail) (by (repeat' first | exact trivial | refine And.intro ?_ ?_ | rfl); first | done | fail) rfl) ?_ ?_
    · exact ⟨hK.symm, by omega, by omega, by decide⟩
    rintro ⟨i, v⟩ ⟨g1, g2, g3, g4⟩
    refine nrm rfl rfl ?_
    rw [g1] at hw
    by_cases hi : i < 4
    · have hx := get_some (show p + i < s.size by omega)
      have hxl := (s.get! (p + i)).toNat_lt
      have hx' : s[((p : Int) + (i : Int)).toNat]? = some (s.get! (p + i)) := by rw [← hx]; congr 1
      rw [show 4 - i = (4 - (i + 1)) + 1 by omega, wLoop] at hw
      have hws := g1
      rw [show 4 - i = (4 - (i + 1)) + 1 by omega, wLoop] at hws
      generalize s.get! (p + i) = x at *
      by_cases hxx : x.toNat < 128 ∨ 191 < x.toNat
      · rw [if_pos hxx] at hw
        repeat' first | refine wr (by omega) ?_ | refine ln ?_ | refine stp lay_ok rfl ?_ | refine fin ?_ | refine n_thn ?_ | refine n_blk ?_ | refine e_thn ?_ | refine e_hit ?_ | refine e_miss rfl ?_ | refine r_thn ?_ | refine r_blk ?_ | refine e_rr ?_ | refine r_rr ?_ | refine e_cr ?_ | refine r_cr ?_ | refine .seq ?_ | refine reg ?_ | refine .block ?_ | refine .skip ?_ | refine .ret ?_ | refine .exit ?_ | refine cndT rfl ?_ | refine cndF rfl ?_ | refine c_dec rfl (fun hc => ?_) (fun hc => ?_) | refine c_ndec rfl (fun hc => ?_) (fun hc => ?_) | refine cnd rfl (fun hc => ?_) (fun hc => ?_) | ((first | refine o_none rfl ?_ | refine o_none_ ?_ | refine o_yes rfl rfl rfl ?_ | refine o_yes_ rfl rfl ?_); first | refine st_indexStr x lay_ok rfl rfl rfl rfl (by omega) hx' ?_) | refine gd rfl rfl rfl (fun hg => ?_) (fun hg => ?_) | refine gn rfl rfl rfl (fun hg => ?_) (fun hg => ?_)
        all_goals first
          | (exfalso; omega)
          | (refine f_r [] rfl trivial rfl ⟨?_, rfl⟩; rw [hw]; rfl)
      · rw [if_neg hxx] at hw hws
        repeat' first | refine wr (by omega) ?_ | refine ln ?_ | refine stp lay_ok rfl ?_ | refine fin ?_ | refine n_thn ?_ | refine n_blk ?_ | refine e_thn ?_ | refine e_hit ?_ | refine e_miss rfl ?_ | refine r_thn ?_ | refine r_blk ?_ | refine e_rr ?_ | refine r_rr ?_ | refine e_cr ?_ | refine r_cr ?_ | refine .seq ?_ | refine reg ?_ | refine .block ?_ | refine .skip ?_ | refine .ret ?_ | refine .exit ?_ | refine cndT rfl ?_ | refine cndF rfl ?_ | refine c_dec rfl (fun hc => ?_) (fun hc => ?_) | refine c_ndec rfl (fun hc => ?_) (fun hc => ?_) | refine cnd rfl (fun hc => ?_) (fun hc => ?_) | ((first | refine o_none rfl ?_ | refine o_none_ ?_ | refine o_yes rfl rfl rfl ?_ | refine o_yes_ rfl rfl ?_); first | refine st_indexStr x lay_ok rfl rfl rfl rfl (by omega) hx' ?_) | refine gd rfl rfl rfl (fun hg => ?_) (fun hg => ?_) | refine gn rfl rfl rfl (fun hg => ?_) (fun hg => ?_)
        all_goals first
          | (exfalso; omega)
          | skip
        refine n_rr ((i + 1, v * 64 + (x.toNat : Int) - 128)) ?_ (.of [] (by (repeat' first | exact trivial | refine And.intro ?_ ?_ | rfl); first | done | fail) (by (repeat' first | exact trivial | refine And.intro ?_ ?_ | rfl); first | done | fail) rfl) ?_
        · show 4 - (i + 1) < 4 - i; omega
        · exact ⟨hws, by omega, by omega, by omega⟩
    · have hi' : i = 4 := by omega
      subst hi'
      rw [Nat.sub_self, wLoop] at hw
      simp only at hw
      by_cases hv : v < ((65536 : Nat) : Int) ∨ 1114111 < v ∨ (55296 ≤ v ∧ v ≤ 57343) ∨ v = 65533
      · rw [if_pos hv] at hw
        repeat' first | refine wr (by omega) ?_ | refine ln ?_ | refine stp lay_ok rfl ?_ | refine fin ?_ | refine n_thn ?_ | refine n_blk ?_ | refine e_thn ?_ | refine e_hit ?_ | refine e_miss rfl ?_ | refine r_thn ?_ | refine r_blk ?_ | refine e_rr ?_ | refine r_rr ?_ | refine e_cr ?_ | refine r_cr ?_ | refine .seq ?_ | refine reg ?_ | refine .block ?_ | refine .skip ?_ | refine .ret ?_ | refine .exit ?_ | refine cndT rfl ?_ | refine cndF rfl ?_ | refine c_dec rfl (fun hc => ?_) (fun hc => ?_) | refine c_ndec rfl (fun hc => ?_) (fun hc => ?_) | refine cnd rfl (fun hc => ?_) (fun hc => ?_) | refine gd rfl rfl rfl (fun hg => ?_) (fun hg => ?_) | refine gn rfl rfl rfl (fun hg => ?_) (fun hg => ?_)
        all_goals first
          | (exfalso; omega)
          | (refine f_r [] rfl trivial rfl ⟨?_, rfl⟩; rw [hw]; rfl)
      · rw [if_neg hv] at hw
        repeat' first | refine wr (by omega) ?_ | refine ln ?_ | refine stp lay_ok rfl ?_ | refine fin ?_ | refine n_thn ?_ | refine n_blk ?_ | refine e_thn ?_ | refine e_hit ?_ | refine e_miss rfl ?_ | refine r_thn ?_ | refine r_blk ?_ | refine e_rr ?_ | refine r_rr ?_ | refine e_cr ?_ | refine r_cr ?_ | refine .seq ?_ | refine reg ?_ | refine .block ?_ | refine .skip ?_ | refine .ret ?_ | refine .exit ?_ | refine cndT rfl ?_ | refine cndF rfl ?_ | refine c_dec rfl (fun hc => ?_) (fun hc => ?_) | refine c_ndec rfl (fun hc => ?_) (fun hc => ?_) | refine cnd rfl (fun hc => ?_) (fun hc => ?_) | refine gd rfl rfl rfl (fun hg => ?_) (fun hg => ?_) | refine gn rfl rfl rfl (fun hg => ?_) (fun hg => ?_)
        all_goals first
          | (exfalso; omega)
          | (refine f_r [] rfl trivial rfl ⟨?_, rfl⟩; rw [hw]; rfl)
  rw [if_neg h4] at hw
  repeat' first | refine wr (by omega) ?_ | refine ln ?_ | refine stp lay_ok rfl ?_ | refine fin ?_ | refine n_thn ?_ | refine n_blk ?_ | refine e_thn ?_ | refine e_hit ?_ | refine e_miss rfl ?_ | refine r_thn ?_ | refine r_blk ?_ | refine e_rr ?_ | refine r_rr ?_ | refine e_cr ?_ | refine r_cr ?_ | refine .seq ?_ | refine reg ?_ | refine .block ?_ | refine .skip ?_ | refine .ret ?_ | refine .exit ?_ | refine cndT rfl ?_ | refine cndF rfl ?_ | refine c_dec rfl (fun hc => ?_) (fun hc => ?_) | refine c_ndec rfl (fun hc => ?_) (fun hc => ?_) | refine cnd rfl (fun hc => ?_) (fun hc => ?_) | ((first | refine o_none rfl ?_ | refine o_none_ ?_ | refine o_yes rfl rfl rfl ?_ | refine o_yes_ rfl rfl ?_); first | refine st_indexStr a lay_ok rfl rfl rfl rfl (by omega) ha ?_) | refine gd rfl rfl rfl (fun hg => ?_) (fun hg => ?_) | refine gn rfl rfl rfl (fun hg => ?_) (fun hg => ?_)
  all_goals first
    | (exfalso; omega)
    | (refine f_r [] rfl trivial rfl ⟨?_, rfl⟩; rw [hw]; rfl)
end Go.Proofs.YtmekcbbieacioaaGreatDoorFn
namespace Go.Proofs.YtmekcbbieacioaaGreatDoorFn
open Go.Proofs.YtmekcbbieacioaaGreatDoorAl Go.Proofs.Tryz
/-! ### a character's bytes, read in two ways -/
def plainB (c : Nat) : Bool := decide (97 ≤ c ∧ c ≤ 122) || decide (48 ≤ c ∧ c ≤ 57) || decide (c = 95) || decide (c = 45) || decide (c = 46)
def okW (s : ByteArray) (p : Nat) : Bool := decide (1 < widthR s p) || (decide (widthR s p = 1) && plainB (s.get! p).toNat)
theorem mayR_hi {c : Nat} (h : 128 ≤ c) : mayR c = decide (c ≠ 65533) := by
  rw [Bool.eq_iff_iff]; simp only [mayR, Bool.or_eq_true, decide_eq_true_eq]; omega
theorem mayR_lo {c : Nat} (h : c < 128) : mayR c = plainB c := by
  rw [Bool.eq_iff_iff]; simp only [mayR, plainB, Bool.or_eq_true, decide_eq_true_eq]; omega
theorem dec_eq (s : ByteArray) (p : Nat) : Utf8.decode s p =
    if (s.get! p).toNat < 128 then ((s.get! p).toNat, 1)
    else if (s.get! p).toNat / 32 = 6 ∧ p + 1 < s.size ∧ (s.get! (p + 1)).toNat / 64 = 2 then
      if 128 ≤ ((s.get! p).toNat % 32) * 64 + (s.get! (p + 1)).toNat % 64 then (((s.get! p).toNat % 32) * 64 + (s.get! (p + 1)).toNat % 64, 2) else (65533, 1)
    else if (s.get! p).toNat / 16 = 14 ∧ (p + 1 < s.size ∧ (s.get! (p + 1)).toNat / 64 = 2) ∧ p + 2 < s.size ∧ (s.get! (p + 2)).toNat / 64 = 2 then
      if 2048 ≤ ((s.get! p).toNat % 16) * 4096 + ((s.get! (p + 1)).toNat % 64) * 64 + (s.get! (p + 2)).toNat % 64 ∧ Utf8.valid (((s.get! p).toNat % 16) * 4096 + ((s.get! (p + 1)).toNat % 64) * 64 + (s.get! (p + 2)).toNat % 64 : Nat) = true then (((s.get! p).toNat % 16) * 4096 + ((s.get! (p + 1)).toNat % 64) * 64 + (s.get! (p + 2)).toNat % 64, 3) else (65533, 1)
    else if (s.get! p).toNat / 8 = 30 ∧ (p + 1 < s.size ∧ (s.get! (p + 1)).toNat / 64 = 2) ∧ (p + 2 < s.size ∧ (s.get! (p + 2)).toNat / 64 = 2) ∧ p + 3 < s.size ∧ (s.get! (p + 3)).toNat / 64 = 2 then
      if 65536 ≤ ((s.get! p).toNat % 8) * 262144 + ((s.get! (p + 1)).toNat % 64) * 4096 + ((s.get! (p + 2)).toNat % 64) * 64 + (s.get! (p + 3)).toNat % 64 ∧ Utf8.valid (((s.get! p).toNat % 8) * 262144 + ((s.get! (p + 1)).toNat % 64) * 4096 + ((s.get! (p + 2)).toNat % 64) * 64 + (s.get! (p + 3)).toNat % 64 : Nat) = true then (((s.get! p).toNat % 8) * 262144 + ((s.get! (p + 1)).toNat % 64) * 4096 + ((s.get! (p + 2)).toNat % 64) * 64 + (s.get! (p + 3)).toNat % 64, 4) else (65533, 1)
    else (65533, 1) := by
  unfold Utf8.decode
  simp only [Bool.and_eq_true, decide_eq_true_eq, beq_iff_eq, Nat.add_zero, ge_iff_le, and_assoc]
  rfl
theorem valid_iff (c : Nat) : Utf8.valid (c : Int) = true ↔ c < 55296 ∨ (57344 ≤ c ∧ c ≤ 1114111) := by
  simp only [Utf8.valid, Bool.or_eq_true, Bool.and_eq_true, decide_eq_true_eq]; omega
theorem wid_law (s : ByteArray) (p : Nat) (hp : p < s.size) :
    (mayR (Utf8.decode s p).1 = true ∧ okW s p = true ∧ widthR s p = (Utf8.decode s p).2) ∨ (mayR (Utf8.decode s p).1 = false ∧ okW s p = false) := by
  have hd := dec_eq s p
  simp only [valid_iff] at hd
  have hw : widthR s p = if (s.get! p).toNat < 128 then 1
    else if 192 ≤ (s.get! p).toNat ∧ (s.get! p).toNat < 224 then wEnd s p 2 128 (((s.get! p).toNat : Int) - 192)
    else if 224 ≤ (s.get! p).toNat ∧ (s.get! p).toNat < 240 then wEnd s p 3 2048 (((s.get! p).toNat : Int) - 224)
    else if 240 ≤ (s.get! p).toNat ∧ (s.get! p).toNat < 248 then wEnd s p 4 65536 (((s.get! p).toNat : Int) - 240)
    else 0 := rfl
  have ho : okW s p = (decide (1 < widthR s p) || (decide (widthR s p = 1) && plainB (s.get! p).toNat)) := rfl
  have e2 : ∀ v, wEnd s p 2 128 v = if s.size < p + 2 then 0 else match wLoop s p 1 1 v with
    | none => 0
    | some v => if v < ((128 : Nat) : Int) ∨ 1114111 < v ∨ (55296 ≤ v ∧ v ≤ 57343) ∨ v = 65533 then 0 else 2 := fun v => rfl
  have e3 : ∀ v, wEnd s p 3 2048 v = if s.size < p + 3 then 0 else match wLoop s p 2 1 v with
    | none => 0
    | some v => if v < ((2048 : Nat) : Int) ∨ 1114111 < v ∨ (55296 ≤ v ∧ v ≤ 57343) ∨ v = 65533 then 0 else 3 := fun v => rfl
  have e4 : ∀ v, wEnd s p 4 65536 v = if s.size < p + 4 then 0 else match wLoop s p 3 1 v with
    | none => 0
    | some v => if v < ((65536 : Nat) : Int) ∨ 1114111 < v ∨ (55296 ≤ v ∧ v ≤ 57343) ∨ v = 65533 then 0 else 4 := fun v => rfl
  simp only [wLoop] at e2 e3 e4
  simp only [e2, e3, e4] at hw
  clear e2 e3 e4
  have b0 := (s.get! p).toNat_lt
  have b1 := (s.get! (p + 1)).toNat_lt
  have b2 := (s.get! (p + 2)).toNat_lt
  have b3 := (s.get! (p + 3)).toNat_lt
  simp only [show p + (1 + 1) = p + 2 from rfl, show p + (1 + 1 + 1) = p + 3 from rfl] at hw
  generalize (s.get! p).toNat = x0 at *
  generalize (s.get! (p + 1)).toNat = x1 at *
  generalize (s.get! (p + 2)).toNat = x2 at *
  generalize (s.get! (p + 3)).toNat = x3 at *
  generalize Utf8.decode s p = D at *
  generalize widthR s p = W at *
  generalize okW s p = O at *
  have hm : mayR 65533 = false := by decide
  by_cases h1 : x0 < 128
  · rw [if_pos h1] at hd hw
    subst hd; subst hw; subst ho
    simp only [mayR_lo h1]
    cases plainB x0 <;> simp
  rw [if_neg h1] at hd hw
  by_cases h2 : 192 ≤ x0 ∧ x0 < 224
  · rw [if_pos h2] at hw
    rw [if_neg (show ¬ (x0 / 16 = 14 ∧ _) by omega), if_neg (show ¬ (x0 / 8 = 30 ∧ _) by omega)] at hd
    by_cases hs : s.size < p + 2
    · rw [if_neg (by omega)] at hd
      rw [if_pos hs] at hw
      subst hd; subst hw; subst ho; right; exact ⟨hm, by simp⟩
    · rw [if_neg hs] at hw
      by_cases hx : x1 < 128 ∨ 191 < x1
      · rw [if_neg (by omega)] at hd
        rw [if_pos hx] at hw
        subst hd; subst hw; subst ho; right; exact ⟨hm, by simp⟩
      · rw [if_pos (by omega)] at hd
        rw [if_neg hx] at hw
        simp only at hw
        by_cases hv : 128 ≤ x0 % 32 * 64 + x1 % 64
        · rw [if_pos hv] at hd
          rw [if_neg (by omega)] at hw
          subst hd; subst hw; subst ho; left
          refine ⟨?_, by simp, rfl⟩
          rw [mayR_hi hv, decide_eq_true_eq]; omega
        · rw [if_neg hv] at hd
          rw [if_pos (by omega)] at hw
          subst hd; subst hw; subst ho; right; exact ⟨hm, by simp⟩
  rw [if_neg h2] at hw
  rw [if_neg (show ¬ (x0 / 32 = 6 ∧ _) by omega)] at hd
  by_cases h3 : 224 ≤ x0 ∧ x0 < 240
  · rw [if_pos h3] at hw
    rw [if_neg (show ¬ (x0 / 8 = 30 ∧ _) by omega)] at hd
    by_cases hs : s.size < p + 3
    · rw [if_neg (by omega)] at hd
      rw [if_pos hs] at hw
      subst hd; subst hw; subst ho; right; exact ⟨hm, by simp⟩
    · rw [if_neg hs] at hw
      by_cases hx : x1 < 128 ∨ 191 < x1
      · rw [if_neg (by omega)] at hd
        rw [if_pos hx] at hw
        subst hd; subst hw; subst ho; right; exact ⟨hm, by simp⟩
      rw [if_neg hx] at hw
      by_cases hy : x2 < 128 ∨ 191 < x2
      · rw [if_neg (by omega)] at hd
        rw [if_pos hy] at hw
        subst hd; subst hw; subst ho; right; exact ⟨hm, by simp⟩
      · rw [if_pos (by omega)] at hd
        rw [if_neg hy] at hw
        simp only at hw
        by_cases hv : 2048 ≤ x0 % 16 * 4096 + x1 % 64 * 64 + x2 % 64 ∧ (x0 % 16 * 4096 + x1 % 64 * 64 + x2 % 64 < 55296 ∨ 57344 ≤ x0 % 16 * 4096 + x1 % 64 * 64 + x2 % 64 ∧ x0 % 16 * 4096 + x1 % 64 * 64 + x2 % 64 ≤ 1114111)
        · rw [if_pos hv] at hd
          by_cases hf : x0 % 16 * 4096 + x1 % 64 * 64 + x2 % 64 = 65533
          · rw [if_pos (by omega)] at hw
            subst hd; subst hw; subst ho; right
            exact ⟨by rw [hf]; exact hm, by simp⟩
          · rw [if_neg (by omega)] at hw
            subst hd; subst hw; subst ho; left
            refine ⟨?_, by simp, rfl⟩
            rw [mayR_hi (by omega), decide_eq_true_eq]; exact hf
        · rw [if_neg hv] at hd
          rw [if_pos (by omega)] at hw
          subst hd; subst hw; subst ho; right; exact ⟨hm, by simp⟩
  rw [if_neg h3] at hw
  rw [if_neg (show ¬ (x0 / 16 = 14 ∧ _) by omega)] at hd
  by_cases h4 : 240 ≤ x0 ∧ x0 < 248
  · rw [if_pos h4] at hw
    by_cases hs : s.size < p + 4
    · rw [if_neg (by omega)] at hd
      rw [if_pos hs] at hw
      subst hd; subst hw; subst ho; right; exact ⟨hm, by simp⟩
    · rw [if_neg hs] at hw
      by_cases hx : x1 < 128 ∨ 191 < x1
      · rw [if_neg (by omega)] at hd
        rw [if_pos hx] at hw
        subst hd; subst hw; subst ho; right; exact ⟨hm, by simp⟩
      rw [if_neg hx] at hw
      by_cases hy : x2 < 128 ∨ 191 < x2
      · rw [if_neg (by omega)] at hd
        rw [if_pos hy] at hw
        subst hd; subst hw; subst ho; right; exact ⟨hm, by simp⟩
      rw [if_neg hy] at hw
      by_cases hz : x3 < 128 ∨ 191 < x3
      · rw [if_neg (by omega)] at hd
        rw [if_pos hz] at hw
        subst hd; subst hw; subst ho; right; exact ⟨hm, by simp⟩
      · rw [if_pos (by omega)] at hd
        rw [if_neg hz] at hw
        simp only at hw
        by_cases hv : 65536 ≤ x0 % 8 * 262144 + x1 % 64 * 4096 + x2 % 64 * 64 + x3 % 64 ∧ (x0 % 8 * 262144 + x1 % 64 * 4096 + x2 % 64 * 64 + x3 % 64 < 55296 ∨ 57344 ≤ x0 % 8 * 262144 + x1 % 64 * 4096 + x2 % 64 * 64 + x3 % 64 ∧ x0 % 8 * 262144 + x1 % 64 * 4096 + x2 % 64 * 64 + x3 % 64 ≤ 1114111)
        · rw [if_pos hv] at hd
          rw [if_neg (by omega)] at hw
          subst hd; subst hw; subst ho; left
          refine ⟨?_, by simp, rfl⟩
          rw [mayR_hi (by omega), decide_eq_true_eq]; omega
        · rw [if_neg hv] at hd
          rw [if_pos (by omega)] at hw
          subst hd; subst hw; subst ho; right; exact ⟨hm, by simp⟩
  · rw [if_neg h4] at hw
    rw [if_neg (by omega)] at hd
    subst hd; subst hw; subst ho; right; exact ⟨hm, by simp⟩
end Go.Proofs.YtmekcbbieacioaaGreatDoorFn
namespace Go.Proofs.YtmekcbbieacioaaGreatDoorFn
open Go.Proofs.YtmekcbbieacioaaGreatDoorAl Go.Proofs.Tryz
attribute [local irreducible] IntKind.wrap CodeOk OpsL OpG ACalls thn inBlk rndR cutR WkR Wk fnR DW ExtOk partsOf
theorem b62 : HasBody prog 62 := ⟨f62, func62, Option.some_ne_none _, by decide⟩
theorem b61 : HasBody prog 61 := ⟨f61, func61, Option.some_ne_none _, by decide⟩
theorem b36 : HasBody prog 36 := ⟨f36, func36, Option.some_ne_none _, by decide⟩
theorem b45 : HasBody prog 45 := ⟨f45, func45, Option.some_ne_none _, by decide⟩
set_option maxRecDepth 4000 in
theorem plain_ok (c : UInt8) : ACalls prog 105 0 [.st (.int .u8 (c.toNat : Int))] [] fun r h => r = B (plainB c.toNat) ∧ h = [] := by
  refine fnC lay_ok func105 rfl rfl rfl rfl rfl ?_
  repeat' first | refine wr (by omega) ?_ | refine ln ?_ | refine stp lay_ok rfl ?_ | refine fin ?_ | refine n_thn ?_ | refine n_blk ?_ | refine e_thn ?_ | refine e_hit ?_ | refine e_miss rfl ?_ | refine r_thn ?_ | refine r_blk ?_ | refine e_rr ?_ | refine r_rr ?_ | refine e_cr ?_ | refine r_cr ?_ | refine .seq ?_ | refine reg ?_ | refine .block ?_ | refine .skip ?_ | refine .ret ?_ | refine .exit ?_ | refine cndT rfl ?_ | refine cndF rfl ?_ | refine c_dec rfl (fun hc => ?_) (fun hc => ?_) | refine c_ndec rfl (fun hc => ?_) (fun hc => ?_) | refine cnd rfl (fun hc => ?_) (fun hc => ?_) | refine gd rfl rfl rfl (fun hg => ?_) (fun hg => ?_) | refine gn rfl rfl rfl (fun hg => ?_) (fun hg => ?_)
  all_goals
    refine f_r [] rfl trivial rfl ⟨?_, rfl⟩
    simp only [retOf, B, AV.st.injEq, SV.bool.injEq, plainB]
    first
      | (symm; simp; omega)
      | (rw [Bool.eq_iff_iff]; simp; omega)
set_option maxHeartbeats 4000000 in
set_option maxRecDepth 4000 in
theorem refPart_ok (s : ByteArray) (hs : s.size ≤ 4000000000) : ACalls prog 88 0 [Sx s] [] fun r h => r = B (partOk s) ∧ h = [] := by
  refine fnC lay_ok func88 rfl rfl rfl rfl rfl ?_
  repeat' first | refine wr (by omega) ?_ | refine ln ?_ | refine stp lay_ok rfl ?_ | refine fin ?_ | refine n_thn ?_ | refine n_blk ?_ | refine e_thn ?_ | refine e_hit ?_ | refine e_miss rfl ?_ | refine r_thn ?_ | refine r_blk ?_ | refine e_rr ?_ | refine r_rr ?_ | refine e_cr ?_ | refine r_cr ?_ | refine .seq ?_ | refine reg ?_ | refine .block ?_ | refine .skip ?_ | refine .ret ?_ | refine .exit ?_ | refine cndT rfl ?_ | refine cndF rfl ?_ | refine c_dec rfl (fun hc => ?_) (fun hc => ?_) | refine c_ndec rfl (fun hc => ?_) (fun hc => ?_) | refine cnd rfl (fun hc => ?_) (fun hc => ?_) | refine gd rfl rfl rfl (fun hg => ?_) (fun hg => ?_) | refine gn rfl rfl rfl (fun hg => ?_) (fun hg => ?_)
  refine lpR (fun (p, n, f) => n + f = s.size + 1 ∧ s.size + 1 ≤ p + f ∧ n ≤ p ∧ p ≤ s.size ∧ runs s (s.size + 1) 0 = (runs s f p).map (· + n)) (fun (p, n, f) => f) (fun (p, n, f) => [(3, I (n : Int)), (4, I (p : Int))]) (fun (p, n, f) => []) ((0, 0, s.size + 1)) [0] [] [] rfl rfl rfl (.of [] (by (repeat' first | exact trivial | refine And.intro ?_ ?_ | rfl); first | done | fail) (by (repeat' first | exact trivial | refine And.intro ?_ ?_ | rfl); first | done | fail) rfl) ?_ ?_
  · refine ⟨by omega, by omega, Nat.le_refl _, Nat.zero_le _, ?_⟩
    simp
  · rintro ⟨p, n, f⟩ ⟨hf, hpf, hnp, hps, hr⟩
    refine nrm rfl rfl ?_
    by_cases hp : p < s.size
    · obtain ⟨f', rfl⟩ : ∃ f', f = f' + 1 := ⟨f - 1, by omega⟩
      have hw := width_ok s p hs hp
      have hrun : runs s (f' + 1) p = if mayR (Utf8.decode s p).1 then (runs s f' (p + (Utf8.decode s p).2)).map (· + 1) else none := by rw [runs, if_pos hp]
      have hx := get_some hp
      have hpl := plain_ok (s.get! p)
      have hl := wid_law s p hp
      have hle : p + widthR s p ≤ s.size := by
        have : ∀ n l v, wEnd s p n l v = 0 ∨ p + wEnd s p n l v ≤ s.size := by
          intro n l v
          unfold wEnd
          split
          · exact .inl rfl
          · split
            · exact .inl rfl
            · split
              · exact .inl rfl
              · right; omega
        unfold widthR
        split
        · omega
        split
        · rcases this 2 128 (((s.get! p).toNat : Int) - 192) with h | h <;> omega
        split
        · rcases this 3 2048 (((s.get! p).toNat : Int) - 224) with h | h <;> omega
        split
        · rcases this 4 65536 (((s.get! p).toNat : Int) - 240) with h | h <;> omega
        · omega
      have ho : okW s p = (decide (1 < widthR s p) || (decide (widthR s p = 1) && plainB (s.get! p).toNat)) := rfl
      have hw1 := decode_pos s p
      generalize okW s p = O at *
      generalize widthR s p = w at *
      generalize s.get! p = x at *
      generalize (Utf8.decode s p).1 = c at *
      generalize (Utf8.decode s p).2 = w' at *
      rcases hl with ⟨h1, rfl, rfl⟩ | ⟨h1, rfl⟩
      · rw [h1, if_pos rfl] at hrun
        cases hb : plainB x.toNat <;> rw [hb] at hpl ho
        all_goals
          have ho2 : 1 < w ∨ (w = 1 ∧ plainB x.toNat = true) := by
            rw [hb]; simpa using ho
          repeat' first | refine wr (by omega) ?_ | refine ln ?_ | refine stp lay_ok rfl ?_ | refine fin ?_ | refine n_thn ?_ | refine n_blk ?_ | refine e_thn ?_ | refine e_hit ?_ | refine e_miss rfl ?_ | refine r_thn ?_ | refine r_blk ?_ | refine e_rr ?_ | refine r_rr ?_ | refine e_cr ?_ | refine r_cr ?_ | refine .seq ?_ | refine reg ?_ | refine .block ?_ | refine .skip ?_ | refine .ret ?_ | refine .exit ?_ | refine cndT rfl ?_ | refine cndF rfl ?_ | refine c_dec rfl (fun hc => ?_) (fun hc => ?_) | refine c_ndec rfl (fun hc => ?_) (fun hc => ?_) | refine cnd rfl (fun hc => ?_) (fun hc => ?_) | ((first | refine o_none rfl ?_ | refine o_none_ ?_ | refine o_yes rfl rfl rfl ?_ | refine o_yes_ rfl rfl ?_); first | refine st_pure (hw) b104 rfl rfl rfl rfl ?_ | refine st_indexStr x lay_ok rfl rfl rfl rfl (by omega) hx ?_ | refine st_pure (hpl) b105 rfl rfl rfl rfl ?_) | refine gd rfl rfl rfl (fun hg => ?_) (fun hg => ?_) | refine gn rfl rfl rfl (fun hg => ?_) (fun hg => ?_)
          all_goals first
            | (exfalso; omega)
            | (exfalso; rw [hb] at ho2; simp at ho2; omega)
            | (refine n_rr ((p + w, n + 1, f')) ?_ (.of [] (by (repeat' first | exact trivial | refine And.intro ?_ ?_ | rfl); first | done | fail) (by (repeat' first | exact trivial | refine And.intro ?_ ?_ | rfl); first | done | fail) rfl) ?_
               · exact Nat.lt_succ_self _
               · refine ⟨by omega, by omega, by omega, by omega, ?_⟩
                 rw [hr, hrun]
                 cases runs s f' (p + w) with
                 | none => rfl
                 | some k => simp only [Option.map_some]; congr 1; omega)
      · have hrun2 : runs s (f' + 1) p = none := by rw [hrun, h1, if_neg (by simp)]
        have hpo : partOk s = false := by unfold partOk; rw [hr, hrun2]; rfl
        cases hb : plainB x.toNat <;> rw [hb] at hpl ho
        all_goals
          have ho2 : ¬ 1 < w ∧ ¬ (w = 1 ∧ plainB x.toNat = true) := by
            rw [hb]
            have := ho.symm
            simp only [Bool.or_eq_false_iff, Bool.and_eq_false_iff, decide_eq_false_iff_not] at this
            refine ⟨this.1, fun h => ?_⟩
            rcases this.2 with h3 | h3
            · exact h3 h.1
            · first
              | (cases h3; done)
              | (exact absurd h.2 (by decide))
              | simp_all
          rw [hb] at ho2
          repeat' first | refine wr (by omega) ?_ | refine ln ?_ | refine stp lay_ok rfl ?_ | refine fin ?_ | refine n_thn ?_ | refine n_blk ?_ | refine e_thn ?_ | refine e_hit ?_ | refine e_miss rfl ?_ | refine r_thn ?_ | refine r_blk ?_ | refine e_rr ?_ | refine r_rr ?_ | refine e_cr ?_ | refine r_cr ?_ | refine .seq ?_ | refine reg ?_ | refine .block ?_ | refine .skip ?_ | refine .ret ?_ | refine .exit ?_ | refine cndT rfl ?_ | refine cndF rfl ?_ | refine c_dec rfl (fun hc => ?_) (fun hc => ?_) | refine c_ndec rfl (fun hc => ?_) (fun hc => ?_) | refine cnd rfl (fun hc => ?_) (fun hc => ?_) | ((first | refine o_none rfl ?_ | refine o_none_ ?_ | refine o_yes rfl rfl rfl ?_ | refine o_yes_ rfl rfl ?_); first | refine st_pure (hw) b104 rfl rfl rfl rfl ?_ | refine st_indexStr x lay_ok rfl rfl rfl rfl (by omega) hx ?_ | refine st_pure (hpl) b105 rfl rfl rfl rfl ?_) | refine gd rfl rfl rfl (fun hg => ?_) (fun hg => ?_) | refine gn rfl rfl rfl (fun hg => ?_) (fun hg => ?_)
          all_goals first
            | (exfalso; omega)
            | (refine f_r [] rfl trivial rfl ⟨?_, rfl⟩; rw [hpo]; rfl)
            | (exfalso; simp at ho2; omega)
    · have hpe : p = s.size := by omega
      have hend : partOk s = (decide (1 ≤ n ∧ n ≤ 16) && decide (s ≠ ⟨#[46]⟩) && decide (s ≠ ⟨#[46, 46]⟩)) := by
        have : runs s f p = some 0 := by
          cases f with
          | zero => rfl
          | succ f => rw [runs, if_neg hp]
        unfold partOk
        rw [hr, this]
        simp only [Option.map_some, Nat.zero_add]
      repeat' first | refine wr (by omega) ?_ | refine ln ?_ | refine stp lay_ok rfl ?_ | refine fin ?_ | refine n_thn ?_ | refine n_blk ?_ | refine e_thn ?_ | refine e_hit ?_ | refine e_miss rfl ?_ | refine r_thn ?_ | refine r_blk ?_ | refine e_rr ?_ | refine r_rr ?_ | refine e_cr ?_ | refine r_cr ?_ | refine .seq ?_ | refine reg ?_ | refine .block ?_ | refine .skip ?_ | refine .ret ?_ | refine .exit ?_ | refine cndT rfl ?_ | refine cndF rfl ?_ | refine c_dec rfl (fun hc => ?_) (fun hc => ?_) | refine c_ndec rfl (fun hc => ?_) (fun hc => ?_) | refine cnd rfl (fun hc => ?_) (fun hc => ?_) | refine gd rfl rfl rfl (fun hg => ?_) (fun hg => ?_) | refine gn rfl rfl rfl (fun hg => ?_) (fun hg => ?_)
      all_goals first
        | (exfalso; omega)
        | (refine f_r [] rfl trivial rfl ⟨?_, rfl⟩
           rw [hend]
           simp only [retOf, B, AV.st.injEq, SV.bool.injEq]
           first
             | (rw [decide_eq_true (p := 1 ≤ n ∧ n ≤ 16) (by omega), decide_eq_true (p := s ≠ ⟨#[46]⟩) (by assumption)]; rfl)
             | (rw [decide_eq_true (p := 1 ≤ n ∧ n ≤ 16) (by omega), decide_eq_false (p := s ≠ ⟨#[46]⟩) (by assumption)]; rfl)
             | (rw [decide_eq_false (p := 1 ≤ n ∧ n ≤ 16) (by omega)]; rfl))
end Go.Proofs.YtmekcbbieacioaaGreatDoorFn
namespace Go.Proofs.YtmekcbbieacioaaGreatDoorFn
open Go.Proofs.YtmekcbbieacioaaGreatDoorAl Go.Proofs.Tryz
attribute [local irreducible] IntKind.wrap CodeOk OpsL OpG ACalls thn inBlk rndR cutR WkR Wk fnR DW ExtOk partsOf
theorem spl_step : ∀ (l : List UInt8) (m : Nat), (∀ j, j < m → l[j]? ≠ some 47) → l[m]? = some 47 → spl l = l.take m :: spl (l.drop (m + 1))
  | [], m, _, h => by simp at h
  | b :: r, 0, _, h => by
    simp at h; subst h
    simp [spl]
  | b :: r, m + 1, h1, h => by
    have hb : b ≠ 47 := by
      have := h1 0 (by omega); simpa using this
    have ih := spl_step r m (fun j hj => by have := h1 (j + 1) (by omega); simpa using this) (by simpa using h)
    simp only [spl, hb, if_false, ih, List.take_succ_cons, List.drop_succ_cons]
theorem spl_end : ∀ (l : List UInt8), (∀ j : Nat, l[j]? ≠ some 47) → spl l = [l]
  | [], _ => rfl
  | b :: r, h => by
    have hb : b ≠ 47 := by have := h 0; simpa using this
    have ih := spl_end r (fun j => by have := h (j + 1); simpa using this)
    simp only [spl, hb, if_false, ih]
theorem data_get (s : ByteArray) (j : Nat) : s.data.toList[j]? = s[j]? := by
  by_cases h : j < s.size
  · rw [getElem?_pos s j h, List.getElem?_eq_getElem (by rw [Array.length_toList]; exact h)]
    simp; rfl
  · rw [getElem?_neg s j h, List.getElem?_eq_none (by rw [Array.length_toList]; show s.size ≤ j; omega)]
theorem ext_drop (s : ByteArray) (a : Nat) : (s.extract a s.size).data.toList = s.data.toList.drop a := by
  rw [ext_list, List.take_of_length_le (by rw [Array.length_toList]; exact Nat.le_refl _)]
theorem partsOf_step {s : ByteArray} {a i : Nat} (hai : a ≤ i) (hn : ∀ j, a ≤ j → j < i → s[j]? ≠ some 47) (h : s[i]? = some 47) :
    partsOf (s.extract a s.size) = s.extract a i :: partsOf (s.extract (i + 1) s.size) := by
  unfold partsOf
  rw [ext_drop, ext_drop]
  have h1 := spl_step (s.data.toList.drop a) (i - a) (fun j hj => by
    rw [List.getElem?_drop, data_get]; exact hn _ (by omega) (by omega)) (by
    rw [List.getElem?_drop, data_get, show a + (i - a) = i by omega]; exact h)
  rw [h1, List.map_cons, List.drop_drop, show a + (i - a + 1) = i + 1 by omega]
  congr 1
  have := ext_list s a i
  rw [List.drop_take] at this
  rw [← this, Array.toArray_toList]
theorem partsOf_end {s : ByteArray} {a : Nat} (hn : ∀ j, a ≤ j → j < s.size → s[j]? ≠ some 47) : partsOf (s.extract a s.size) = [s.extract a s.size] := by
  have h1 := spl_end (s.extract a s.size).data.toList (fun j => by
    rw [ext_drop, List.getElem?_drop, data_get]
    by_cases h : a + j < s.size
    · exact hn _ (by omega) h
    · rw [getElem?_neg s _ h]; simp)
  unfold partsOf
  rw [h1, List.map_cons, List.map_nil, Array.toArray_toList]
set_option maxHeartbeats 4000000 in
set_option maxRecDepth 4000 in
theorem refSplit_ok (s : ByteArray) (hs : s.size ≤ 4000000000 - 1) : ACalls prog 62 0 [Sx s] [] fun r h => r = .st (.sl 1 ((partsOf s).map rowS)) ∧ h = [] := by
  refine fnC lay_ok func62 rfl rfl rfl rfl rfl ?_
  repeat' first | refine wr (by omega) ?_ | refine ln ?_ | refine stp lay_ok rfl ?_ | refine fin ?_ | refine n_thn ?_ | refine n_blk ?_ | refine e_thn ?_ | refine e_hit ?_ | refine e_miss rfl ?_ | refine r_thn ?_ | refine r_blk ?_ | refine e_rr ?_ | refine r_rr ?_ | refine e_cr ?_ | refine r_cr ?_ | refine .seq ?_ | refine reg ?_ | refine .block ?_ | refine .skip ?_ | refine .ret ?_ | refine .exit ?_ | refine cndT rfl ?_ | refine cndF rfl ?_ | refine c_dec rfl (fun hc => ?_) (fun hc => ?_) | refine c_ndec rfl (fun hc => ?_) (fun hc => ?_) | refine cnd rfl (fun hc => ?_) (fun hc => ?_) | refine gd rfl rfl rfl (fun hg => ?_) (fun hg => ?_) | refine gn rfl rfl rfl (fun hg => ?_) (fun hg => ?_)
  refine CodeOk.wk (Wk.nilT 1 3 rfl rfl) (Nat.le_succ _) ?_
  refine nrm rfl rfl ?_
  refine lpR (fun (out, a, i) => (i ≤ s.size ∧ a ≤ i ∧ out.length ≤ a ∧ partsOf s = out ++ partsOf (s.extract a s.size) ∧ ∀ j, a ≤ j → j < i → s[j]? ≠ some 47) ∨ (i = s.size + 1 ∧ partsOf s = out)) (fun (out, a, i) => s.size + 1 - i) (fun (out, a, i) => [(3, .lsl 1 1 0 (out.map rowS).length), (4, I (a : Int)), (5, I (i : Int))]) (fun (out, a, i) => [(1, .arr 1 (out.map rowS))]) (([], 0, 0)) [0] [] [0] rfl rfl rfl (.of [0] (by (repeat' first | exact trivial | refine And.intro ?_ ?_ | rfl); first | done | fail) (by (repeat' first | exact trivial | refine And.intro ?_ ?_ | rfl); first | done | fail) rfl) ?_ ?_
  · left
    refine ⟨Nat.zero_le _, Nat.le_refl _, Nat.le_refl _, ?_, fun j h1 h2 => by omega⟩
    rw [List.nil_append, ByteArray.extract_zero_size]
  rintro ⟨out, a, i⟩ hinv
  refine nrm rfl rfl ?_
  have hm : (List.map rowS out).length = out.length := List.length_map _
  have hr : ∀ x : ByteArray, List.map rowS out ++ [[SV.str x]] = List.map rowS (out ++ [x]) := fun x => by rw [List.map_append]; rfl
  rcases hinv with ⟨h1, h2, h3, h4, h5⟩ | ⟨h1, h2⟩
  · by_cases hi : i < s.size
    · have hx := get_some hi
      generalize s.get! i = x at *
      by_cases h47 : x = 47
      · subst h47
        have hp := partsOf_step h2 h5 hx
        repeat' first | refine wr (by omega) ?_ | refine ln ?_ | refine stp lay_ok rfl ?_ | refine fin ?_ | refine n_thn ?_ | refine n_blk ?_ | refine e_thn ?_ | refine e_hit ?_ | refine e_miss rfl ?_ | refine r_thn ?_ | refine r_blk ?_ | refine e_rr ?_ | refine r_rr ?_ | refine e_cr ?_ | refine r_cr ?_ | refine .seq ?_ | refine reg ?_ | refine .block ?_ | refine .skip ?_ | refine .ret ?_ | refine .exit ?_ | refine cndT rfl ?_ | refine cndF rfl ?_ | refine c_dec rfl (fun hc => ?_) (fun hc => ?_) | refine c_ndec rfl (fun hc => ?_) (fun hc => ?_) | refine cnd rfl (fun hc => ?_) (fun hc => ?_) | ((first | refine o_none rfl ?_ | refine o_none_ ?_ | refine o_yes rfl rfl rfl ?_ | refine o_yes_ rfl rfl ?_); first | refine st_indexStr 47 lay_ok rfl rfl rfl rfl (by omega) hx ?_ | refine st_subS a i lay_ok rfl rfl rfl ⟨_, _, rfl, rfl⟩ ⟨_, _, rfl, rfl⟩ h2 (by omega) ?_ | refine st_append lay_ok rfl rfl rfl rfl rfl rfl rfl rfl (.lsl rfl rfl) .sl rfl (one_s (s.extract a i)) (by simp only [List.length_cons, List.length_nil]; omega) (by simp only [List.length_cons, List.length_nil]; omega) ?_) | refine gd rfl rfl rfl (fun hg => ?_) (fun hg => ?_) | refine gn rfl rfl rfl (fun hg => ?_) (fun hg => ?_)
        all_goals first
          | (exfalso; omega)
          | (exfalso; simp_all; done)
          | skip
        rw [hr]
        refine n_rr ((out ++ [s.extract a i], i + 1, i + 1)) ?_ (.of [2] (by (repeat' first | exact trivial | refine And.intro ?_ ?_ | rfl); first | done | fail) (by (repeat' first | exact trivial | refine And.intro ?_ ?_ | rfl); first | done | fail) rfl) ?_
        · show s.size + 1 - (i + 1) < s.size + 1 - i; omega
        · left
          exact ⟨hi, Nat.le_refl _, by simp; omega, by rw [h4, hp]; simp, fun j g1 g2 => by omega⟩
      · have hxn : x.toNat ≠ 47 := fun e => h47 (UInt8.toNat.inj (by rw [e]; rfl))
        repeat' first | refine wr (by omega) ?_ | refine ln ?_ | refine stp lay_ok rfl ?_ | refine fin ?_ | refine n_thn ?_ | refine n_blk ?_ | refine e_thn ?_ | refine e_hit ?_ | refine e_miss rfl ?_ | refine r_thn ?_ | refine r_blk ?_ | refine e_rr ?_ | refine r_rr ?_ | refine e_cr ?_ | refine r_cr ?_ | refine .seq ?_ | refine reg ?_ | refine .block ?_ | refine .skip ?_ | refine .ret ?_ | refine .exit ?_ | refine cndT rfl ?_ | refine cndF rfl ?_ | refine c_dec rfl (fun hc => ?_) (fun hc => ?_) | refine c_ndec rfl (fun hc => ?_) (fun hc => ?_) | refine cnd rfl (fun hc => ?_) (fun hc => ?_) | ((first | refine o_none rfl ?_ | refine o_none_ ?_ | refine o_yes rfl rfl rfl ?_ | refine o_yes_ rfl rfl ?_); first | refine st_indexStr x lay_ok rfl rfl rfl rfl (by omega) hx ?_) | refine gd rfl rfl rfl (fun hg => ?_) (fun hg => ?_) | refine gn rfl rfl rfl (fun hg => ?_) (fun hg => ?_)
        all_goals first
          | (exfalso; omega)
          | skip
        refine n_rr ((out, a, i + 1)) ?_ (.of [1] (by (repeat' first | exact trivial | refine And.intro ?_ ?_ | rfl); first | done | fail) (by (repeat' first | exact trivial | refine And.intro ?_ ?_ | rfl); first | done | fail) rfl) ?_
        · show s.size + 1 - (i + 1) < s.size + 1 - i; omega
        · left
          refine ⟨hi, by omega, h3, h4, fun j g1 g2 => ?_⟩
          by_cases hj : j = i
          · subst hj; rw [hx]; intro e; exact h47 (Option.some.inj e)
          · exact h5 j g1 (by omega)
    · have hie : i = s.size := by omega
      subst hie
      have hp := partsOf_end h5
      repeat' first | refine wr (by omega) ?_ | refine ln ?_ | refine stp lay_ok rfl ?_ | refine fin ?_ | refine n_thn ?_ | refine n_blk ?_ | refine e_thn ?_ | refine e_hit ?_ | refine e_miss rfl ?_ | refine r_thn ?_ | refine r_blk ?_ | refine e_rr ?_ | refine r_rr ?_ | refine e_cr ?_ | refine r_cr ?_ | refine .seq ?_ | refine reg ?_ | refine .block ?_ | refine .skip ?_ | refine .ret ?_ | refine .exit ?_ | refine cndT rfl ?_ | refine cndF rfl ?_ | refine c_dec rfl (fun hc => ?_) (fun hc => ?_) | refine c_ndec rfl (fun hc => ?_) (fun hc => ?_) | refine cnd rfl (fun hc => ?_) (fun hc => ?_) | ((first | refine o_none rfl ?_ | refine o_none_ ?_ | refine o_yes rfl rfl rfl ?_ | refine o_yes_ rfl rfl ?_); first | refine st_subS a s.size lay_ok rfl rfl rfl ⟨_, _, rfl, rfl⟩ ⟨_, _, rfl, rfl⟩ h2 (Nat.le_refl _) ?_ | refine st_append lay_ok rfl rfl rfl rfl rfl rfl rfl rfl (.lsl rfl rfl) .sl rfl (one_s (s.extract a s.size)) (by simp only [List.length_cons, List.length_nil]; omega) (by simp only [List.length_cons, List.length_nil]; omega) ?_) | refine gd rfl rfl rfl (fun hg => ?_) (fun hg => ?_) | refine gn rfl rfl rfl (fun hg => ?_) (fun hg => ?_)
      all_goals first
        | (exfalso; omega)
        | skip
      rw [hr]
      refine n_rr ((out ++ [s.extract a s.size], s.size + 1, s.size + 1)) ?_ (.of [2] (by (repeat' first | exact trivial | refine And.intro ?_ ?_ | rfl); first | done | fail) (by (repeat' first | exact trivial | refine And.intro ?_ ?_ | rfl); first | done | fail) rfl) ?_
      · show s.size + 1 - (s.size + 1) < s.size + 1 - s.size; omega
      · right
        exact ⟨rfl, by rw [h4, hp]⟩
  · subst h1
    repeat' first | refine wr (by omega) ?_ | refine ln ?_ | refine stp lay_ok rfl ?_ | refine fin ?_ | refine n_thn ?_ | refine n_blk ?_ | refine e_thn ?_ | refine e_hit ?_ | refine e_miss rfl ?_ | refine r_thn ?_ | refine r_blk ?_ | refine e_rr ?_ | refine r_rr ?_ | refine e_cr ?_ | refine r_cr ?_ | refine .seq ?_ | refine reg ?_ | refine .block ?_ | refine .skip ?_ | refine .ret ?_ | refine .exit ?_ | refine cndT rfl ?_ | refine cndF rfl ?_ | refine c_dec rfl (fun hc => ?_) (fun hc => ?_) | refine c_ndec rfl (fun hc => ?_) (fun hc => ?_) | refine cnd rfl (fun hc => ?_) (fun hc => ?_) | refine gd rfl rfl rfl (fun hg => ?_) (fun hg => ?_) | refine gn rfl rfl rfl (fun hg => ?_) (fun hg => ?_)
    all_goals first
      | (exfalso; omega)
      | skip
    refine f_end (n0 := 0) (t'' := [(2, .st (.sl 1 (out.map rowS)))]) (h'' := []) (Wk.then (Wk.frz 1 [2] rfl rfl rfl (by (repeat' first | exact trivial | refine And.intro ?_ ?_ | rfl); first | done | fail) (by (repeat' first | exact trivial | refine And.intro ?_ ?_ | rfl); first | done | fail) rfl rfl) (WkR.of [] (by (repeat' first | exact trivial | refine And.intro ?_ ?_ | rfl); first | done | fail) (by (repeat' first | exact trivial | refine And.intro ?_ ?_ | rfl); first | done | fail) rfl)) rfl rfl ⟨?_, rfl⟩
    rw [h2]; rfl
end Go.Proofs.YtmekcbbieacioaaGreatDoorFn
namespace Go.Proofs.YtmekcbbieacioaaGreatDoorFn
open Go.Proofs.YtmekcbbieacioaaGreatDoorAl Go.Proofs.Tryz
attribute [local irreducible] IntKind.wrap CodeOk OpsL OpG ACalls thn inBlk rndR cutR WkR Wk fnR DW ExtOk partsOf
def partsB (l : List ByteArray) : Bool := decide (1 ≤ l.length ∧ l.length ≤ 8) && l.all partOk
theorem refParts_ok (l : List ByteArray) (hl : l.length ≤ 4000000000) (hs : ∀ s ∈ l, s.size ≤ 4000000000) : ACalls prog 61 0 [.st (.sl 1 (l.map rowS))] [] fun r h => r = B (partsB l) ∧ h = [] := by
  have hm : (List.map rowS l).length = l.length := List.length_map _
  have hpb : partsB l = (decide (1 ≤ l.length ∧ l.length ≤ 8) && l.all partOk) := rfl
  generalize partsB l = W at *
  refine fnC lay_ok func61 rfl rfl rfl rfl rfl ?_
  repeat' first | refine wr (by omega) ?_ | refine ln ?_ | refine stp lay_ok rfl ?_ | refine fin ?_ | refine n_thn ?_ | refine n_blk ?_ | refine e_thn ?_ | refine e_hit ?_ | refine e_miss rfl ?_ | refine r_thn ?_ | refine r_blk ?_ | refine e_rr ?_ | refine r_rr ?_ | refine e_cr ?_ | refine r_cr ?_ | refine .seq ?_ | refine reg ?_ | refine .block ?_ | refine .skip ?_ | refine .ret ?_ | refine .exit ?_ | refine cndT rfl ?_ | refine cndF rfl ?_ | refine c_dec rfl (fun hc => ?_) (fun hc => ?_) | refine c_ndec rfl (fun hc => ?_) (fun hc => ?_) | refine cnd rfl (fun hc => ?_) (fun hc => ?_) | refine gd rfl rfl rfl (fun hg => ?_) (fun hg => ?_) | refine gn rfl rfl rfl (fun hg => ?_) (fun hg => ?_) | refine dwr (by omega) ?_ | refine dwl ?_ | refine dws lay_ok rfl rfl rfl rfl rfl rfl rfl ?_ | refine dwu lay_ok rfl rfl rfl rfl rfl rfl rfl rfl rfl ?_ | refine dw_end ?_ | refine dw_skip rfl rfl rfl ?_ | refine dwn lay_ok rfl rfl rfl rfl rfl ?_ | refine dw_dec rfl rfl rfl (fun hg => ?_) (fun hg => ?_) | refine dw_ndec rfl rfl rfl (fun hg => ?_) (fun hg => ?_)
  · refine f_r [] rfl trivial rfl ⟨?_, rfl⟩
    rw [hpb, decide_eq_false (by omega)]; rfl
  · refine f_r [] rfl trivial rfl ⟨?_, rfl⟩
    rw [hpb, decide_eq_false (by omega)]; rfl
  · rw [decide_eq_true (by omega), Bool.true_and] at hpb
    refine lpR (fun k => k ≤ l.length ∧ (l.take k).all partOk = true) (fun k => l.length - k) (fun k => [(3, I k)]) (fun k => []) (0) [0] [] [] rfl rfl rfl (.of [] (by (repeat' first | exact trivial | refine And.intro ?_ ?_ | rfl); first | done | fail) (by (repeat' first | exact trivial | refine And.intro ?_ ?_ | rfl); first | done | fail) rfl) ?_ ?_
    · exact ⟨Nat.zero_le _, rfl⟩
    rintro k ⟨h1, h2⟩
    refine nrm rfl rfl ?_
    repeat' first | refine wr (by omega) ?_ | refine ln ?_ | refine stp lay_ok rfl ?_ | refine fin ?_ | refine n_thn ?_ | refine n_blk ?_ | refine e_thn ?_ | refine e_hit ?_ | refine e_miss rfl ?_ | refine r_thn ?_ | refine r_blk ?_ | refine e_rr ?_ | refine r_rr ?_ | refine e_cr ?_ | refine r_cr ?_ | refine .seq ?_ | refine reg ?_ | refine .block ?_ | refine .skip ?_ | refine .ret ?_ | refine .exit ?_ | refine cndT rfl ?_ | refine cndF rfl ?_ | refine c_dec rfl (fun hc => ?_) (fun hc => ?_) | refine c_ndec rfl (fun hc => ?_) (fun hc => ?_) | refine cnd rfl (fun hc => ?_) (fun hc => ?_) | refine gd rfl rfl rfl (fun hg => ?_) (fun hg => ?_) | refine gn rfl rfl rfl (fun hg => ?_) (fun hg => ?_) | refine dwr (by omega) ?_ | refine dwl ?_ | refine dws lay_ok rfl rfl rfl rfl rfl rfl rfl ?_ | refine dwu lay_ok rfl rfl rfl rfl rfl rfl rfl rfl rfl ?_ | refine dw_end ?_ | refine dw_skip rfl rfl rfl ?_ | refine dwn lay_ok rfl rfl rfl rfl rfl ?_ | refine dw_dec rfl rfl rfl (fun hg => ?_) (fun hg => ?_) | refine dw_ndec rfl rfl rfl (fun hg => ?_) (fun hg => ?_)
    · have hk : k < l.length := by omega
      have hat := at_rowS hk
      have hp := refPart_ok l[k] (hs _ (List.getElem_mem hk))
      have ha := all_take (p := partOk) hk
      have hna := all_not (p := partOk) hk
      generalize l[k] = x at *
      cases hb : partOk x <;> rw [hb] at hp ha hna
      · repeat' first | refine wr (by omega) ?_ | refine ln ?_ | refine stp lay_ok rfl ?_ | refine fin ?_ | refine n_thn ?_ | refine n_blk ?_ | refine e_thn ?_ | refine e_hit ?_ | refine e_miss rfl ?_ | refine r_thn ?_ | refine r_blk ?_ | refine e_rr ?_ | refine r_rr ?_ | refine e_cr ?_ | refine r_cr ?_ | refine .seq ?_ | refine reg ?_ | refine .block ?_ | refine .skip ?_ | refine .ret ?_ | refine .exit ?_ | refine cndT rfl ?_ | refine cndF rfl ?_ | refine c_dec rfl (fun hc => ?_) (fun hc => ?_) | refine c_ndec rfl (fun hc => ?_) (fun hc => ?_) | refine cnd rfl (fun hc => ?_) (fun hc => ?_) | ((first | refine o_none rfl ?_ | refine o_none_ ?_ | refine o_yes rfl rfl rfl ?_ | refine o_yes_ rfl rfl ?_); first | refine st_index (rowS x) lay_ok rfl rfl rfl rfl (by omega) hat ?_ | refine st_pure (hp) b88 rfl rfl rfl rfl ?_) | refine gd rfl rfl rfl (fun hg => ?_) (fun hg => ?_) | refine gn rfl rfl rfl (fun hg => ?_) (fun hg => ?_) | refine dwr (by omega) ?_ | refine dwl ?_ | refine dws lay_ok rfl rfl rfl rfl rfl rfl rfl ?_ | refine dwu lay_ok rfl rfl rfl rfl rfl rfl rfl rfl rfl ?_ | refine dw_end ?_ | refine dw_skip rfl rfl rfl ?_ | refine dwn lay_ok rfl rfl rfl rfl rfl ?_ | refine dwb rfl rfl rfl rfl rfl (by (first | refine st_index (rowS x) lay_ok rfl rfl rfl rfl (by omega) hat ?_ | refine st_pure (hp) b88 rfl rfl rfl rfl ?_); exact fin rfl) rfl rfl ?_ | refine dwg rfl rfl rfl rfl rfl (by (first | refine st_index (rowS x) lay_ok rfl rfl rfl rfl (by omega) hat ?_ | refine st_pure (hp) b88 rfl rfl rfl rfl ?_); exact fin rfl) rfl rfl rfl rfl rfl ?_ | refine dw_dec rfl rfl rfl (fun hg => ?_) (fun hg => ?_) | refine dw_ndec rfl rfl rfl (fun hg => ?_) (fun hg => ?_)
        refine f_r [] rfl trivial rfl ⟨?_, rfl⟩
        rw [hpb, hna rfl]; rfl
      · repeat' first | refine wr (by omega) ?_ | refine ln ?_ | refine stp lay_ok rfl ?_ | refine fin ?_ | refine n_thn ?_ | refine n_blk ?_ | refine e_thn ?_ | refine e_hit ?_ | refine e_miss rfl ?_ | refine r_thn ?_ | refine r_blk ?_ | refine e_rr ?_ | refine r_rr ?_ | refine e_cr ?_ | refine r_cr ?_ | refine .seq ?_ | refine reg ?_ | refine .block ?_ | refine .skip ?_ | refine .ret ?_ | refine .exit ?_ | refine cndT rfl ?_ | refine cndF rfl ?_ | refine c_dec rfl (fun hc => ?_) (fun hc => ?_) | refine c_ndec rfl (fun hc => ?_) (fun hc => ?_) | refine cnd rfl (fun hc => ?_) (fun hc => ?_) | ((first | refine o_none rfl ?_ | refine o_none_ ?_ | refine o_yes rfl rfl rfl ?_ | refine o_yes_ rfl rfl ?_); first | refine st_index (rowS x) lay_ok rfl rfl rfl rfl (by omega) hat ?_ | refine st_pure (hp) b88 rfl rfl rfl rfl ?_) | refine gd rfl rfl rfl (fun hg => ?_) (fun hg => ?_) | refine gn rfl rfl rfl (fun hg => ?_) (fun hg => ?_) | refine dwr (by omega) ?_ | refine dwl ?_ | refine dws lay_ok rfl rfl rfl rfl rfl rfl rfl ?_ | refine dwu lay_ok rfl rfl rfl rfl rfl rfl rfl rfl rfl ?_ | refine dw_end ?_ | refine dw_skip rfl rfl rfl ?_ | refine dwn lay_ok rfl rfl rfl rfl rfl ?_ | refine dwb rfl rfl rfl rfl rfl (by (first | refine st_index (rowS x) lay_ok rfl rfl rfl rfl (by omega) hat ?_ | refine st_pure (hp) b88 rfl rfl rfl rfl ?_); exact fin rfl) rfl rfl ?_ | refine dwg rfl rfl rfl rfl rfl (by (first | refine st_index (rowS x) lay_ok rfl rfl rfl rfl (by omega) hat ?_ | refine st_pure (hp) b88 rfl rfl rfl rfl ?_); exact fin rfl) rfl rfl rfl rfl rfl ?_ | refine dw_dec rfl rfl rfl (fun hg => ?_) (fun hg => ?_) | refine dw_ndec rfl rfl rfl (fun hg => ?_) (fun hg => ?_)
        refine n_rr (k + 1) ?_ (.of [] (by (repeat' first | exact trivial | refine And.intro ?_ ?_ | rfl); first | done | fail) (by (repeat' first | exact trivial | refine And.intro ?_ ?_ | rfl); first | done | fail) rfl) ?_
        · omega
        · exact ⟨hk, by rw [ha, h2]; rfl⟩
    · have hk : k = l.length := by omega
      subst hk
      rw [List.take_length] at h2
      refine f_r [] rfl trivial rfl ⟨?_, rfl⟩
      rw [hpb, h2]; rfl
theorem parts_le (s : ByteArray) : (partsOf s).length ≤ s.size + 1 := by
  rw [parts_len]
  have := List.count_le_length (a := (47 : UInt8)) (l := s.data.toList)
  rw [Array.length_toList] at this
  have e : s.data.size = s.size := rfl
  omega
theorem parts_pos1 (s : ByteArray) : 1 ≤ (partsOf s).length := by rw [parts_len]; omega
theorem partsB_path (s : ByteArray) : partsB (partsOf s) = pathOk s := by
  have := parts_pos1 s
  unfold partsB pathOk
  congr 1
  rw [Bool.eq_iff_iff, decide_eq_true_eq, decide_eq_true_eq]; omega
theorem refPartsOf_ok (s : ByteArray) (hs : s.size ≤ 4000000000 - 1) : ACalls prog 61 0 [.st (.sl 1 ((partsOf s).map rowS))] [] fun r h => r = B (pathOk s) ∧ h = [] := by
  have := parts_le s
  have h2 := refParts_ok (partsOf s) (by omega) (fun x hx => by have := parts_size s x hx; omega)
  rw [partsB_path] at h2
  exact h2
theorem refPath_ok (s : ByteArray) (hs : s.size ≤ 4000000000 - 1) : ACalls prog 36 0 [Sx s] [] fun r h => r = B (pathOk s) ∧ h = [] := by
  have h1 := refSplit_ok s hs
  have h2 := refPartsOf_ok s hs
  refine fnC lay_ok func36 rfl rfl rfl rfl rfl ?_
  repeat' first | refine wr (by omega) ?_ | refine ln ?_ | refine stp lay_ok rfl ?_ | refine fin ?_ | refine n_thn ?_ | refine n_blk ?_ | refine e_thn ?_ | refine e_hit ?_ | refine e_miss rfl ?_ | refine r_thn ?_ | refine r_blk ?_ | refine e_rr ?_ | refine r_rr ?_ | refine e_cr ?_ | refine r_cr ?_ | refine .seq ?_ | refine reg ?_ | refine .block ?_ | refine .skip ?_ | refine .ret ?_ | refine .exit ?_ | refine cndT rfl ?_ | refine cndF rfl ?_ | refine c_dec rfl (fun hc => ?_) (fun hc => ?_) | refine c_ndec rfl (fun hc => ?_) (fun hc => ?_) | refine cnd rfl (fun hc => ?_) (fun hc => ?_) | ((first | refine o_none rfl ?_ | refine o_none_ ?_ | refine o_yes rfl rfl rfl ?_ | refine o_yes_ rfl rfl ?_); first | refine st_pure (h1) b62 rfl rfl rfl rfl ?_ | refine st_pure (h2) b61 rfl rfl rfl rfl ?_) | refine gd rfl rfl rfl (fun hg => ?_) (fun hg => ?_) | refine gn rfl rfl rfl (fun hg => ?_) (fun hg => ?_) | refine dwr (by omega) ?_ | refine dwl ?_ | refine dws lay_ok rfl rfl rfl rfl rfl rfl rfl ?_ | refine dwu lay_ok rfl rfl rfl rfl rfl rfl rfl rfl rfl ?_ | refine dw_end ?_ | refine dw_skip rfl rfl rfl ?_ | refine dwn lay_ok rfl rfl rfl rfl rfl ?_ | refine dwb rfl rfl rfl rfl rfl (by (first | refine st_pure (h1) b62 rfl rfl rfl rfl ?_ | refine st_pure (h2) b61 rfl rfl rfl rfl ?_); exact fin rfl) rfl rfl ?_ | refine dwg rfl rfl rfl rfl rfl (by (first | refine st_pure (h1) b62 rfl rfl rfl rfl ?_ | refine st_pure (h2) b61 rfl rfl rfl rfl ?_); exact fin rfl) rfl rfl rfl rfl rfl ?_ | refine dw_dec rfl rfl rfl (fun hg => ?_) (fun hg => ?_) | refine dw_ndec rfl rfl rfl (fun hg => ?_) (fun hg => ?_)
  refine f_r [] rfl trivial rfl ⟨?_, rfl⟩; rfl
/-! ### under: by parts, and by the text ahead -/
def joi : List (List UInt8) → List UInt8
  | [] => []
  | [x] => x
  | x :: y :: r => x ++ 47 :: joi (y :: r)
theorem joi_spl : ∀ l : List UInt8, joi (spl l) = l
  | [] => rfl
  | b :: r => by
    have ih := joi_spl r
    have hne := spl_ne r
    by_cases hb : b = 47
    · subst hb
      simp only [spl, if_true]
      cases h : spl r with
      | nil => exact absurd h hne
      | cons x xs =>
        rw [h] at ih
        simp only [joi, List.nil_append, ih]
    · simp only [spl, hb, if_false]
      cases h : spl r with
      | nil => exact absurd h hne
      | cons x xs =>
        rw [h] at ih
        cases xs with
        | nil => simp only [joi] at ih ⊢; rw [ih]
        | cons y ys => simp only [joi, List.cons_append] at ih ⊢; rw [ih]
theorem spl_app : ∀ (a b : List UInt8), spl (a ++ 47 :: b) = spl a ++ spl b
  | [], b => by simp [spl]
  | x :: a, b => by
    have ih := spl_app a b
    have hne := spl_ne a
    by_cases hx : x = 47
    · subst hx; simp only [List.cons_append, spl, if_true, ih]
    · simp only [List.cons_append, spl, hx, if_false, ih]
      cases h : spl a with
      | nil => exact absurd h hne
      | cons y ys => rfl
theorem joi_app : ∀ (a b : List (List UInt8)), a ≠ [] → b ≠ [] → joi (a ++ b) = joi a ++ 47 :: joi b
  | [], b, h, _ => absurd rfl h
  | [x], b, _, hb => by
    cases b with
    | nil => exact absurd rfl hb
    | cons y r => rfl
  | x :: y :: r, b, _, hb => by
    have ih := joi_app (y :: r) b (by simp) hb
    simp only [List.cons_append, joi] at ih ⊢
    rw [ih, List.append_assoc]; rfl
theorem pre_list (d s : ByteArray) : ((d ++ slash).size ≤ s.size ∧ s.extract 0 (d ++ slash).size = d ++ slash) ↔ ∃ t, s.data.toList = d.data.toList ++ 47 :: t := by
  have hds : (d ++ slash).data.toList = d.data.toList ++ [47] := by simp [ByteArray.data_append]
  have hsz : (d ++ slash).size = d.data.toList.length + 1 := by
    rw [ByteArray.size_append, Array.length_toList]; rfl
  have hss : s.size = s.data.toList.length := by rw [Array.length_toList]; rfl
  constructor
  · rintro ⟨h1, h2⟩
    have h3 := congrArg (fun b : ByteArray => b.data.toList) h2
    rw [ext_list, List.drop_zero, hds] at h3
    refine ⟨s.data.toList.drop (d ++ slash).size, ?_⟩
    conv => lhs; rw [← List.take_append_drop (d ++ slash).size s.data.toList, h3]
    simp
  · rintro ⟨t, h⟩
    refine ⟨by rw [hsz, hss, h]; simp, ?_⟩
    apply ByteArray.ext
    apply Array.toList_inj.1
    rw [ext_list, List.drop_zero, hds, h, hsz, show d.data.toList ++ 47 :: t = (d.data.toList ++ [47]) ++ t by simp]
    exact List.take_left' (by simp)
theorem under_law (d s : ByteArray) : (∃ t, s.data.toList = d.data.toList ++ 47 :: t) ↔ (partsOf d).length < (partsOf s).length ∧ partsOf d = (partsOf s).take (partsOf d).length := by
  unfold partsOf
  rw [List.length_map, List.length_map, ← List.map_take]
  have hinj : ∀ a b : List (List UInt8), a.map (fun l => (⟨l.toArray⟩ : ByteArray)) = b.map (fun l => (⟨l.toArray⟩ : ByteArray)) → a = b := by
    intro a b h
    have := congrArg (List.map fun b : ByteArray => b.data.toList) h
    simpa [List.map_map, Function.comp_def] using this
  constructor
  · rintro ⟨t, h⟩
    rw [h, spl_app]
    have hne := spl_ne t
    have hpos : 0 < (spl t).length := List.length_pos_iff.2 hne
    refine ⟨by rw [List.length_append]; omega, ?_⟩
    rw [List.take_left']; rfl
  · rintro ⟨h1, h2⟩
    have h3 := hinj _ _ h2
    have h4 : spl s.data.toList = spl d.data.toList ++ (spl s.data.toList).drop (spl d.data.toList).length := by
      conv => lhs; rw [← List.take_append_drop (spl d.data.toList).length (spl s.data.toList), ← h3]
    have h5 : (spl s.data.toList).drop (spl d.data.toList).length ≠ [] := by
      intro e
      have := List.drop_eq_nil_iff.1 e; omega
    refine ⟨joi ((spl s.data.toList).drop (spl d.data.toList).length), ?_⟩
    conv => lhs; rw [← joi_spl s.data.toList, h4]
    rw [joi_app _ _ (spl_ne _) h5, joi_spl]
def underP (d s : ByteArray) : Bool := pathOk d && pathOk s && decide ((partsOf d).length < (partsOf s).length) && decide (partsOf d = (partsOf s).take (partsOf d).length)
theorem underP_eq (d s : ByteArray) : underP d s = under d s := by
  unfold underP under
  rw [Bool.and_assoc]
  congr 1
  rw [Bool.eq_iff_iff, Bool.and_eq_true, decide_eq_true_eq, decide_eq_true_eq, decide_eq_true_eq, pre_list, under_law]
set_option maxRecDepth 4000 in
theorem refUnder_ok (d s : ByteArray) (hd : d.size ≤ 4000000000 - 1) (hs : s.size ≤ 4000000000 - 1) : ACalls prog 45 0 [Sx d, Sx s] [] fun r h => r = B (under d s) ∧ h = [] := by
  rw [← underP_eq]
  have h1 := refSplit_ok d hd
  have h2 := refSplit_ok s hs
  have h3 := refPartsOf_ok d hd
  have h4 := refPartsOf_ok s hs
  have l1 := parts_le d
  have l2 := parts_le s
  have hu : underP d s = (pathOk d && pathOk s && decide ((partsOf d).length < (partsOf s).length) && decide (partsOf d = (partsOf s).take (partsOf d).length)) := rfl
  generalize underP d s = W at *
  generalize partsOf d = a at *
  generalize partsOf s = b at *
  have hma : (List.map rowS a).length = a.length := List.length_map _
  have hmb : (List.map rowS b).length = b.length := List.length_map _
  refine fnC lay_ok func45 rfl rfl rfl rfl rfl ?_
  cases hpd : pathOk d <;> rw [hpd] at h3 hu
  · repeat' first | refine wr (by omega) ?_ | refine ln ?_ | refine stp lay_ok rfl ?_ | refine fin ?_ | refine n_thn ?_ | refine n_blk ?_ | refine e_thn ?_ | refine e_hit ?_ | refine e_miss rfl ?_ | refine r_thn ?_ | refine r_blk ?_ | refine e_rr ?_ | refine r_rr ?_ | refine e_cr ?_ | refine r_cr ?_ | refine .seq ?_ | refine reg ?_ | refine .block ?_ | refine .skip ?_ | refine .ret ?_ | refine .exit ?_ | refine cndT rfl ?_ | refine cndF rfl ?_ | refine c_dec rfl (fun hc => ?_) (fun hc => ?_) | refine c_ndec rfl (fun hc => ?_) (fun hc => ?_) | refine cnd rfl (fun hc => ?_) (fun hc => ?_) | ((first | refine o_none rfl ?_ | refine o_none_ ?_ | refine o_yes rfl rfl rfl ?_ | refine o_yes_ rfl rfl ?_); first | refine st_pure (h1) b62 rfl rfl rfl rfl ?_ | refine st_pure (h2) b62 rfl rfl rfl rfl ?_ | refine st_pure (h3) b61 rfl rfl rfl rfl ?_) | refine gd rfl rfl rfl (fun hg => ?_) (fun hg => ?_) | refine gn rfl rfl rfl (fun hg => ?_) (fun hg => ?_) | refine dwr (by omega) ?_ | refine dwl ?_ | refine dws lay_ok rfl rfl rfl rfl rfl rfl rfl ?_ | refine dwu lay_ok rfl rfl rfl rfl rfl rfl rfl rfl rfl ?_ | refine dw_end ?_ | refine dw_skip rfl rfl rfl ?_ | refine dwn lay_ok rfl rfl rfl rfl rfl ?_ | refine dwb rfl rfl rfl rfl rfl (by (first | refine st_pure (h1) b62 rfl rfl rfl rfl ?_ | refine st_pure (h2) b62 rfl rfl rfl rfl ?_ | refine st_pure (h3) b61 rfl rfl rfl rfl ?_); exact fin rfl) rfl rfl ?_ | refine dwg rfl rfl rfl rfl rfl (by (first | refine st_pure (h1) b62 rfl rfl rfl rfl ?_ | refine st_pure (h2) b62 rfl rfl rfl rfl ?_ | refine st_pure (h3) b61 rfl rfl rfl rfl ?_); exact fin rfl) rfl rfl rfl rfl rfl ?_ | refine dw_dec rfl rfl rfl (fun hg => ?_) (fun hg => ?_) | refine dw_ndec rfl rfl rfl (fun hg => ?_) (fun hg => ?_)
    refine f_r [] rfl trivial rfl ⟨?_, rfl⟩; rw [hu]; rfl
  cases hps : pathOk s <;> rw [hps] at h4 hu
  · repeat' first | refine wr (by omega) ?_ | refine ln ?_ | refine stp lay_ok rfl ?_ | refine fin ?_ | refine n_thn ?_ | refine n_blk ?_ | refine e_thn ?_ | refine e_hit ?_ | refine e_miss rfl ?_ | refine r_thn ?_ | refine r_blk ?_ | refine e_rr ?_ | refine r_rr ?_ | refine e_cr ?_ | refine r_cr ?_ | refine .seq ?_ | refine reg ?_ | refine .block ?_ | refine .skip ?_ | refine .ret ?_ | refine .exit ?_ | refine cndT rfl ?_ | refine cndF rfl ?_ | refine c_dec rfl (fun hc => ?_) (fun hc => ?_) | refine c_ndec rfl (fun hc => ?_) (fun hc => ?_) | refine cnd rfl (fun hc => ?_) (fun hc => ?_) | ((first | refine o_none rfl ?_ | refine o_none_ ?_ | refine o_yes rfl rfl rfl ?_ | refine o_yes_ rfl rfl ?_); first | refine st_pure (h1) b62 rfl rfl rfl rfl ?_ | refine st_pure (h2) b62 rfl rfl rfl rfl ?_ | refine st_pure (h3) b61 rfl rfl rfl rfl ?_ | refine st_pure (h4) b61 rfl rfl rfl rfl ?_) | refine gd rfl rfl rfl (fun hg => ?_) (fun hg => ?_) | refine gn rfl rfl rfl (fun hg => ?_) (fun hg => ?_) | refine dwr (by omega) ?_ | refine dwl ?_ | refine dws lay_ok rfl rfl rfl rfl rfl rfl rfl ?_ | refine dwu lay_ok rfl rfl rfl rfl rfl rfl rfl rfl rfl ?_ | refine dw_end ?_ | refine dw_skip rfl rfl rfl ?_ | refine dwn lay_ok rfl rfl rfl rfl rfl ?_ | refine dwb rfl rfl rfl rfl rfl (by (first | refine st_pure (h1) b62 rfl rfl rfl rfl ?_ | refine st_pure (h2) b62 rfl rfl rfl rfl ?_ | refine st_pure (h3) b61 rfl rfl rfl rfl ?_ | refine st_pure (h4) b61 rfl rfl rfl rfl ?_); exact fin rfl) rfl rfl ?_ | refine dwg rfl rfl rfl rfl rfl (by (first | refine st_pure (h1) b62 rfl rfl rfl rfl ?_ | refine st_pure (h2) b62 rfl rfl rfl rfl ?_ | refine st_pure (h3) b61 rfl rfl rfl rfl ?_ | refine st_pure (h4) b61 rfl rfl rfl rfl ?_); exact fin rfl) rfl rfl rfl rfl rfl ?_ | refine dw_dec rfl rfl rfl (fun hg => ?_) (fun hg => ?_) | refine dw_ndec rfl rfl rfl (fun hg => ?_) (fun hg => ?_)
    refine f_r [] rfl trivial rfl ⟨?_, rfl⟩; rw [hu]; rfl
  simp only [Bool.true_and] at hu
  repeat' first | refine wr (by omega) ?_ | refine ln ?_ | refine stp lay_ok rfl ?_ | refine fin ?_ | refine n_thn ?_ | refine n_blk ?_ | refine e_thn ?_ | refine e_hit ?_ | refine e_miss rfl ?_ | refine r_thn ?_ | refine r_blk ?_ | refine e_rr ?_ | refine r_rr ?_ | refine e_cr ?_ | refine r_cr ?_ | refine .seq ?_ | refine reg ?_ | refine .block ?_ | refine .skip ?_ | refine .ret ?_ | refine .exit ?_ | refine cndT rfl ?_ | refine cndF rfl ?_ | refine c_dec rfl (fun hc => ?_) (fun hc => ?_) | refine c_ndec rfl (fun hc => ?_) (fun hc => ?_) | refine cnd rfl (fun hc => ?_) (fun hc => ?_) | ((first | refine o_none rfl ?_ | refine o_none_ ?_ | refine o_yes rfl rfl rfl ?_ | refine o_yes_ rfl rfl ?_); first | refine st_pure (h1) b62 rfl rfl rfl rfl ?_ | refine st_pure (h2) b62 rfl rfl rfl rfl ?_ | refine st_pure (h3) b61 rfl rfl rfl rfl ?_ | refine st_pure (h4) b61 rfl rfl rfl rfl ?_) | refine gd rfl rfl rfl (fun hg => ?_) (fun hg => ?_) | refine gn rfl rfl rfl (fun hg => ?_) (fun hg => ?_) | refine dwr (by omega) ?_ | refine dwl ?_ | refine dws lay_ok rfl rfl rfl rfl rfl rfl rfl ?_ | refine dwu lay_ok rfl rfl rfl rfl rfl rfl rfl rfl rfl ?_ | refine dw_end ?_ | refine dw_skip rfl rfl rfl ?_ | refine dwn lay_ok rfl rfl rfl rfl rfl ?_ | refine dwb rfl rfl rfl rfl rfl (by (first | refine st_pure (h1) b62 rfl rfl rfl rfl ?_ | refine st_pure (h2) b62 rfl rfl rfl rfl ?_ | refine st_pure (h3) b61 rfl rfl rfl rfl ?_ | refine st_pure (h4) b61 rfl rfl rfl rfl ?_); exact fin rfl) rfl rfl ?_ | refine dwg rfl rfl rfl rfl rfl (by (first | refine st_pure (h1) b62 rfl rfl rfl rfl ?_ | refine st_pure (h2) b62 rfl rfl rfl rfl ?_ | refine st_pure (h3) b61 rfl rfl rfl rfl ?_ | refine st_pure (h4) b61 rfl rfl rfl rfl ?_); exact fin rfl) rfl rfl rfl rfl rfl ?_ | refine dw_dec rfl rfl rfl (fun hg => ?_) (fun hg => ?_) | refine dw_ndec rfl rfl rfl (fun hg => ?_) (fun hg => ?_)
  · refine f_r [] rfl trivial rfl ⟨?_, rfl⟩; rw [hu, decide_eq_false (by omega)]; rfl
  · rw [decide_eq_true (by omega), Bool.true_and] at hu
    refine lpR (fun k => k ≤ a.length ∧ ∀ j (h1 : j < a.length) (h2 : j < b.length), j < k → a[j] = b[j]) (fun k => a.length - k) (fun k => [(7, I k)]) (fun k => []) (0) [5, 6] [] [] rfl rfl rfl (.of [] (by (repeat' first | exact trivial | refine And.intro ?_ ?_ | rfl); first | done | fail) (by (repeat' first | exact trivial | refine And.intro ?_ ?_ | rfl); first | done | fail) rfl) ?_ ?_
    · exact ⟨Nat.zero_le _, fun j h1 h2 h3 => by omega⟩
    rintro k ⟨hk, hall⟩
    refine nrm rfl rfl ?_
    repeat' first | refine wr (by omega) ?_ | refine ln ?_ | refine stp lay_ok rfl ?_ | refine fin ?_ | refine n_thn ?_ | refine n_blk ?_ | refine e_thn ?_ | refine e_hit ?_ | refine e_miss rfl ?_ | refine r_thn ?_ | refine r_blk ?_ | refine e_rr ?_ | refine r_rr ?_ | refine e_cr ?_ | refine r_cr ?_ | refine .seq ?_ | refine reg ?_ | refine .block ?_ | refine .skip ?_ | refine .ret ?_ | refine .exit ?_ | refine cndT rfl ?_ | refine cndF rfl ?_ | refine c_dec rfl (fun hc => ?_) (fun hc => ?_) | refine c_ndec rfl (fun hc => ?_) (fun hc => ?_) | refine cnd rfl (fun hc => ?_) (fun hc => ?_) | refine gd rfl rfl rfl (fun hg => ?_) (fun hg => ?_) | refine gn rfl rfl rfl (fun hg => ?_) (fun hg => ?_) | refine dwr (by omega) ?_ | refine dwl ?_ | refine dws lay_ok rfl rfl rfl rfl rfl rfl rfl ?_ | refine dwu lay_ok rfl rfl rfl rfl rfl rfl rfl rfl rfl ?_ | refine dw_end ?_ | refine dw_skip rfl rfl rfl ?_ | refine dwn lay_ok rfl rfl rfl rfl rfl ?_ | refine dw_dec rfl rfl rfl (fun hg => ?_) (fun hg => ?_) | refine dw_ndec rfl rfl rfl (fun hg => ?_) (fun hg => ?_)
    · have hka : k < a.length := by omega
      have hkb : k < b.length := by omega
      have hat := at_rowS hka
      have hbt := at_rowS hkb
      refine dreg [(0, [], [34, 37, 38, 39, 40]), (1, [], [33, 37, 38, 39, 40]), (2, [0, 1], [37, 38, 39, 40]), (3, [0, 1, 2], [37, 38, 39, 40]), (4, [], [33, 34, 35, 36, 38]), (5, [], [33, 34, 35, 36, 37]), (6, [4, 5], [33, 34, 35, 36]), (7, [4, 5, 6], [33, 34, 35, 36]), (8, [0, 1, 2, 3, 4, 5, 6, 7], [])] mixed (by kernel_rfl) ?_
      repeat' first | refine wr (by omega) ?_ | refine ln ?_ | refine stp lay_ok rfl ?_ | refine fin ?_ | refine n_thn ?_ | refine n_blk ?_ | refine e_thn ?_ | refine e_hit ?_ | refine e_miss rfl ?_ | refine r_thn ?_ | refine r_blk ?_ | refine e_rr ?_ | refine r_rr ?_ | refine e_cr ?_ | refine r_cr ?_ | refine .seq ?_ | refine reg ?_ | refine .block ?_ | refine .skip ?_ | refine .ret ?_ | refine .exit ?_ | refine cndT rfl ?_ | refine cndF rfl ?_ | refine c_dec rfl (fun hc => ?_) (fun hc => ?_) | refine c_ndec rfl (fun hc => ?_) (fun hc => ?_) | refine cnd rfl (fun hc => ?_) (fun hc => ?_) | ((first | refine o_none rfl ?_ | refine o_none_ ?_ | refine o_yes rfl rfl rfl ?_ | refine o_yes_ rfl rfl ?_); first | refine st_index (rowS a[k]) lay_ok rfl rfl rfl rfl (by omega) hat ?_ | refine st_index (rowS b[k]) lay_ok rfl rfl rfl rfl (by omega) hbt ?_) | refine gd rfl rfl rfl (fun hg => ?_) (fun hg => ?_) | refine gn rfl rfl rfl (fun hg => ?_) (fun hg => ?_) | refine dwr (by omega) ?_ | refine dwl ?_ | refine dws lay_ok rfl rfl rfl rfl rfl rfl rfl ?_ | refine dwu lay_ok rfl rfl rfl rfl rfl rfl rfl rfl rfl ?_ | refine dw_end ?_ | refine dw_skip rfl rfl rfl ?_ | refine dwn lay_ok rfl rfl rfl rfl rfl ?_ | refine dwb rfl rfl rfl rfl rfl (by (first | refine st_index (rowS a[k]) lay_ok rfl rfl rfl rfl (by omega) hat ?_ | refine st_index (rowS b[k]) lay_ok rfl rfl rfl rfl (by omega) hbt ?_); exact fin rfl) rfl rfl ?_ | refine dwg rfl rfl rfl rfl rfl (by (first | refine st_index (rowS a[k]) lay_ok rfl rfl rfl rfl (by omega) hat ?_ | refine st_index (rowS b[k]) lay_ok rfl rfl rfl rfl (by omega) hbt ?_); exact fin rfl) rfl rfl rfl rfl rfl ?_ | refine dw_dec rfl rfl rfl (fun hg => ?_) (fun hg => ?_) | refine dw_ndec rfl rfl rfl (fun hg => ?_) (fun hg => ?_)
      · refine f_r [] rfl trivial rfl ⟨?_, rfl⟩
        rw [hu, decide_eq_false (fun e => hc (by
          have e2 := congrArg (fun l => l[k]?) e
          simp only [List.getElem?_take, hka, if_true] at e2
          rw [List.getElem?_eq_getElem hka, List.getElem?_eq_getElem hkb] at e2
          exact Option.some.inj e2))]; rfl
      · refine n_rr (k + 1) ?_ (.of [] (by (repeat' first | exact trivial | refine And.intro ?_ ?_ | rfl); first | done | fail) (by (repeat' first | exact trivial | refine And.intro ?_ ?_ | rfl); first | done | fail) rfl) ?_
        · omega
        · refine ⟨hka, fun j h1 h2 h3 => ?_⟩
          by_cases hj : j = k
          · subst hj; exact Decidable.not_not.1 hc
          · exact hall j h1 h2 (by omega)
    · refine f_r [] rfl trivial rfl ⟨?_, rfl⟩
      rw [hu, decide_eq_true (List.ext_getElem (by rw [List.length_take]; omega) fun j h1 h2 => by
        rw [List.getElem_take]; exact hall j h1 (by rw [List.length_take] at h2; omega) (by omega))]; rfl
end Go.Proofs.YtmekcbbieacioaaGreatDoorFn
namespace Go.Proofs.YtmekcbbieacioaaGreatDoorFn
open Go.Proofs.YtmekcbbieacioaaGreatDoorAl Go.Proofs.Tryz
theorem remI {m k : Nat} (hk : 1 < k) (hm : m ≤ 4000000000000) (hk2 : k ≤ 4000000000) : divI .rem .i64 (m : Int) (k : Int) = some (.int .i64 ((m % k : Nat) : Int)) := by
  have h := Nat.mod_lt m (show 0 < k by omega)
  simp [divI, i64wrap, show ¬ (k : Int) = 0 by omega]
  exact Int.tmod_eq_emod_of_nonneg (by omega)
attribute [local irreducible] IntKind.wrap CodeOk OpsL OpG ACalls thn inBlk rndR cutR WkR Wk fnR DW ExtOk partsOf
theorem b37 : HasBody prog 37 := ⟨f37, func37, Option.some_ne_none _, by decide⟩
theorem b63 : HasBody prog 63 := ⟨f63, func63, Option.some_ne_none _, by decide⟩
theorem refClash_ok (a b : ByteArray) (ha : a.size ≤ 4000000000 - 1) (hb : b.size ≤ 4000000000 - 1) : ACalls prog 37 0 [Sx a, Sx b] [] fun r h => r = B (clashB a b) ∧ h = [] := by
  have h1 := refUnder_ok a b ha hb
  have h2 := refUnder_ok b a hb ha
  unfold clashB
  refine fnC lay_ok func37 rfl rfl rfl rfl rfl ?_
  by_cases he : a = b
  · subst he
    repeat' first | refine wr (by omega) ?_ | refine ln ?_ | refine stp lay_ok rfl ?_ | refine fin ?_ | refine n_thn ?_ | refine n_blk ?_ | refine e_thn ?_ | refine e_hit ?_ | refine e_miss rfl ?_ | refine r_thn ?_ | refine r_blk ?_ | refine e_rr ?_ | refine r_rr ?_ | refine e_cr ?_ | refine r_cr ?_ | refine .seq ?_ | refine reg ?_ | refine .block ?_ | refine .skip ?_ | refine .ret ?_ | refine .exit ?_ | refine cndT rfl ?_ | refine cndF rfl ?_ | refine c_dec rfl (fun hc => ?_) (fun hc => ?_) | refine c_ndec rfl (fun hc => ?_) (fun hc => ?_) | refine cnd rfl (fun hc => ?_) (fun hc => ?_) | ((first | refine o_none rfl ?_ | refine o_none_ ?_ | refine o_yes rfl rfl rfl ?_ | refine o_yes_ rfl rfl ?_); first | refine st_pure (h1) b45 rfl rfl rfl rfl ?_ | refine st_pure (h2) b45 rfl rfl rfl rfl ?_) | refine gd rfl rfl rfl (fun hg => ?_) (fun hg => ?_) | refine gn rfl rfl rfl (fun hg => ?_) (fun hg => ?_)
    all_goals first
      | (exfalso; simp_all; done)
      | skip
    refine f_r [] rfl trivial rfl ⟨?_, rfl⟩
    simp [retOf]
  · cases hu1 : under a b <;> rw [hu1] at h1
    all_goals
      repeat' first | refine wr (by omega) ?_ | refine ln ?_ | refine stp lay_ok rfl ?_ | refine fin ?_ | refine n_thn ?_ | refine n_blk ?_ | refine e_thn ?_ | refine e_hit ?_ | refine e_miss rfl ?_ | refine r_thn ?_ | refine r_blk ?_ | refine e_rr ?_ | refine r_rr ?_ | refine e_cr ?_ | refine r_cr ?_ | refine .seq ?_ | refine reg ?_ | refine .block ?_ | refine .skip ?_ | refine .ret ?_ | refine .exit ?_ | refine cndT rfl ?_ | refine cndF rfl ?_ | refine c_dec rfl (fun hc => ?_) (fun hc => ?_) | refine c_ndec rfl (fun hc => ?_) (fun hc => ?_) | refine cnd rfl (fun hc => ?_) (fun hc => ?_) | ((first | refine o_none rfl ?_ | refine o_none_ ?_ | refine o_yes rfl rfl rfl ?_ | refine o_yes_ rfl rfl ?_); first | refine st_pure (h1) b45 rfl rfl rfl rfl ?_ | refine st_pure (h2) b45 rfl rfl rfl rfl ?_) | refine gd rfl rfl rfl (fun hg => ?_) (fun hg => ?_) | refine gn rfl rfl rfl (fun hg => ?_) (fun hg => ?_)
      all_goals first
        | (exfalso; simp_all; done)
        | skip
      refine f_r [] rfl trivial rfl ⟨?_, rfl⟩
      simp [retOf, he]
def allB : Nat → Nat → Nat → Bool
  | 0, _, _ => true
  | f + 1, n, m => if m % 2 = 1 ∧ n % 2 = 0 then false else allB f (n / 2) (m / 2)
theorem allB_eq : ∀ (f n m : Nat), m < 2 ^ f → allB f n m = decide (n &&& m = m) := by
  intro f
  induction f with
  | zero =>
    intro n m h
    have : m = 0 := by omega
    subst this
    simp [allB]
  | succ f ih =>
    intro n m h
    rw [allB]
    have hd : (n &&& m) / 2 = n / 2 &&& m / 2 := Nat.and_div_two
    have hmod : (n &&& m) % 2 = (n % 2) * (m % 2) := by
      rcases Nat.mod_two_eq_zero_or_one n with h1 | h1 <;> rcases Nat.mod_two_eq_zero_or_one m with h2 | h2 <;> simp [Nat.and_mod_two_pow (n := 1), h1, h2]
    have hi := ih (n / 2) (m / 2) (by omega)
    split
    · rename_i hx
      rw [hx.1, hx.2] at hmod
      symm
      rw [decide_eq_false_iff_not]
      intro e
      rw [e, hx.1] at hmod
      omega
    · rename_i hx
      rw [hi, decide_eq_decide, ← hd]
      constructor
      · intro e
        have : (n &&& m) % 2 = m % 2 := by
          rw [hmod]
          rcases Nat.mod_two_eq_zero_or_one n with h1 | h1 <;> rcases Nat.mod_two_eq_zero_or_one m with h2 | h2 <;> simp [h1, h2] at hx ⊢
        omega
      · intro e; rw [e]
theorem all_ok (n m : Nat) (hn : n ≤ 4000000000) (hm : m < 256) : ACalls prog 63 0 [I n, I m] [] fun r h => r = B (decide (n &&& m = m)) ∧ h = [] := by
  rw [← allB_eq 8 n m (by omega)]
  generalize hK : allB 8 n m = K
  refine fnC lay_ok func63 rfl rfl rfl rfl rfl ?_
  repeat' first | refine wr (by omega) ?_ | refine ln ?_ | refine stp lay_ok rfl ?_ | refine fin ?_ | refine n_thn ?_ | refine n_blk ?_ | refine e_thn ?_ | refine e_hit ?_ | refine e_miss rfl ?_ | refine r_thn ?_ | refine r_blk ?_ | refine e_rr ?_ | refine r_rr ?_ | refine e_cr ?_ | refine r_cr ?_ | refine .seq ?_ | refine reg ?_ | refine .block ?_ | refine .skip ?_ | refine .ret ?_ | refine .exit ?_ | refine cndT rfl ?_ | refine cndF rfl ?_ | refine c_dec rfl (fun hc => ?_) (fun hc => ?_) | refine c_ndec rfl (fun hc => ?_) (fun hc => ?_) | refine cnd rfl (fun hc => ?_) (fun hc => ?_) | refine gd rfl rfl rfl (fun hg => ?_) (fun hg => ?_) | refine gn rfl rfl rfl (fun hg => ?_) (fun hg => ?_)
  refine lpR (fun (f, a, b, i) => f + i = 8 ∧ a ≤ 4000000000 ∧ b ≤ 4000000000 ∧ K = allB f a b) (fun (f, a, b, i) => f) (fun (f, a, b, i) => [(5, I i), (0, I a), (1, I b)]) (fun (f, a, b, i) => []) ((8, n, m, 0)) [] [] [] rfl rfl rfl (.of [] (by (repeat' first | exact trivial | refine And.intro ?_ ?_ | rfl); first | done | fail) (by (repeat' first | exact trivial | refine And.intro ?_ ?_ | rfl); first | done | fail) rfl) ?_ ?_
  · exact ⟨rfl, hn, by omega, hK.symm⟩
  rintro ⟨f, a, b, i⟩ ⟨g1, g2, g3, g4⟩
  refine nrm rfl rfl ?_
  have ra := remI (m := a) (k := 2) (by decide) (by omega) (by decide)
  have rb := remI (m := b) (k := 2) (by decide) (by omega) (by decide)
  have qa := quoI (z := (a : Int)) (m := a) (k := 2) (.inl rfl) (by decide) (by omega)
  have qb := quoI (z := (b : Int)) (m := b) (k := 2) (.inl rfl) (by decide) (by omega)
  cases f with
  | zero =>
    rw [allB] at g4
    subst g4
    repeat' first | refine wr (by omega) ?_ | refine ln ?_ | refine stp lay_ok rfl ?_ | refine fin ?_ | refine n_thn ?_ | refine n_blk ?_ | refine e_thn ?_ | refine e_hit ?_ | refine e_miss rfl ?_ | refine r_thn ?_ | refine r_blk ?_ | refine e_rr ?_ | refine r_rr ?_ | refine e_cr ?_ | refine r_cr ?_ | refine .seq ?_ | refine reg ?_ | refine .block ?_ | refine .skip ?_ | refine .ret ?_ | refine .exit ?_ | refine cndT rfl ?_ | refine cndF rfl ?_ | refine c_dec rfl (fun hc => ?_) (fun hc => ?_) | refine c_ndec rfl (fun hc => ?_) (fun hc => ?_) | refine cnd rfl (fun hc => ?_) (fun hc => ?_) | refine gd rfl rfl rfl (fun hg => ?_) (fun hg => ?_) | refine gn rfl rfl rfl (fun hg => ?_) (fun hg => ?_)
    all_goals first
      | (exfalso; omega)
      | skip
    refine f_r [] rfl trivial rfl ⟨?_, rfl⟩
    rfl
  | succ f =>
    rw [allB] at g4
    repeat' first | refine wr (by omega) ?_ | refine ln ?_ | refine stp lay_ok rfl ?_ | refine fin ?_ | refine n_thn ?_ | refine n_blk ?_ | refine e_thn ?_ | refine e_hit ?_ | refine e_miss rfl ?_ | refine r_thn ?_ | refine r_blk ?_ | refine e_rr ?_ | refine r_rr ?_ | refine e_cr ?_ | refine r_cr ?_ | refine .seq ?_ | refine reg ?_ | refine .block ?_ | refine .skip ?_ | refine .ret ?_ | refine .exit ?_ | refine cndT rfl ?_ | refine cndF rfl ?_ | refine c_dec rfl (fun hc => ?_) (fun hc => ?_) | refine c_ndec rfl (fun hc => ?_) (fun hc => ?_) | refine cnd rfl (fun hc => ?_) (fun hc => ?_) | ((first | refine o_none rfl ?_ | refine o_none_ ?_ | refine o_yes rfl rfl rfl ?_ | refine o_yes_ rfl rfl ?_); first | refine st_div rfl rfl rb (by decide) ?_ | refine st_div rfl rfl ra (by decide) ?_ | refine st_div rfl rfl qb (by decide) ?_ | refine st_div rfl rfl qa (by decide) ?_) | refine gd rfl rfl rfl (fun hg => ?_) (fun hg => ?_) | refine gn rfl rfl rfl (fun hg => ?_) (fun hg => ?_)
    all_goals first
      | (exfalso; omega)
      | skip
    · rw [if_pos (by omega)] at g4
      subst g4
      refine f_r [] rfl trivial rfl ⟨?_, rfl⟩
      rfl
    all_goals
      rw [if_neg (by omega)] at g4
      refine n_rr ((f, a / 2, b / 2, i + 1)) ?_ (.of [] (by (repeat' first | exact trivial | refine And.intro ?_ ?_ | rfl | exact congrArg (fun z : Int => some (AV.st (.int .i64 z))) (show (i : Int) + 1 = ((i + 1 : Nat) : Int) by omega)); first | done | fail) (by (repeat' first | exact trivial | refine And.intro ?_ ?_ | rfl | exact congrArg (fun z : Int => some (AV.st (.int .i64 z))) (show (i : Int) + 1 = ((i + 1 : Nat) : Int) by omega)); first | done | fail) rfl) ?_
      · exact Nat.lt_succ_self _
      · exact ⟨by omega, by omega, by omega, g4⟩
end Go.Proofs.YtmekcbbieacioaaGreatDoorFn
namespace Go.Proofs.YtmekcbbieacioaaGreatDoorFn
open Go.Proofs.YtmekcbbieacioaaGreatDoorAl Go.Proofs.Tryz
attribute [local irreducible] IntKind.wrap CodeOk OpsL OpG ACalls thn inBlk rndR cutR WkR Wk fnR DW ExtOk partsOf
theorem b38 : HasBody prog 38 := ⟨f38, func38, Option.some_ne_none _, by decide⟩
/-! ### the document's chunks -/
def cutAt (s : ByteArray) (mn mx ms i from_ : Nat) : Bool :=
  decide (i + 1 - from_ = mx) || (decide (mn ≤ i + 1 - from_) && decide ((31 * (if 1 < i + 1 - from_ then byteAt s (i - 1) else 0) + byteAt s i) &&& ms = ms)) || decide (i + 1 = s.size)
def rsp (s : ByteArray) (mn mx ms : Nat) : Nat → Nat → Nat → List ByteArray
  | 0, _, _ => []
  | f + 1, i, a => if cutAt s mn mx ms i a = true then s.extract a (i + 1) :: rsp s mn mx ms f (i + 1) (i + 1) else rsp s mn mx ms f (i + 1) a
set_option maxHeartbeats 8000000 in
set_option maxRecDepth 4000 in
theorem refSplit3_ok (s : ByteArray) (mn mx ms : Nat) (h1 : 1 ≤ mn) (h2 : mx ≤ 64) (h0 : mn ≤ 64) (h3 : ms ≤ 255) (hs : s.size ≤ 4000000) :
    ACalls prog 38 0 [Sx s, .st (.agg [.int .i64 mn, .int .i64 mx, .int .i64 ms])] [] fun r h => r = .st (.sl 1 ((rsp s mn mx ms s.size 0 0).map rowS)) ∧ h = [] := by
  generalize hK : rsp s mn mx ms s.size 0 0 = K
  refine fnC lay_ok func38 rfl rfl rfl rfl rfl ?_
  repeat' first | refine wr (by omega) ?_ | refine ln ?_ | refine stp lay_ok rfl ?_ | refine fin ?_ | refine n_thn ?_ | refine n_blk ?_ | refine e_thn ?_ | refine e_hit ?_ | refine e_miss rfl ?_ | refine r_thn ?_ | refine r_blk ?_ | refine e_rr ?_ | refine r_rr ?_ | refine e_cr ?_ | refine r_cr ?_ | refine .seq ?_ | refine reg ?_ | refine .block ?_ | refine .skip ?_ | refine .ret ?_ | refine .exit ?_ | refine cndT rfl ?_ | refine cndF rfl ?_ | refine c_dec rfl (fun hc => ?_) (fun hc => ?_) | refine c_ndec rfl (fun hc => ?_) (fun hc => ?_) | refine cnd rfl (fun hc => ?_) (fun hc => ?_) | refine gd rfl rfl rfl (fun hg => ?_) (fun hg => ?_) | refine gn rfl rfl rfl (fun hg => ?_) (fun hg => ?_) | refine dwr (by omega) ?_ | refine dwl ?_ | refine dws lay_ok rfl rfl rfl rfl rfl rfl rfl ?_ | refine dwu lay_ok rfl rfl rfl rfl rfl rfl rfl rfl rfl ?_ | refine dw_end ?_ | refine dw_skip rfl rfl rfl ?_ | refine dwn lay_ok rfl rfl rfl rfl rfl ?_ | refine dw_dec rfl rfl rfl (fun hg => ?_) (fun hg => ?_) | refine dw_ndec rfl rfl rfl (fun hg => ?_) (fun hg => ?_)
  refine CodeOk.wk (Wk.nilT 1 5 rfl rfl) (Nat.le_succ _) ?_
  refine nrm rfl rfl ?_
  refine lpR (fun (f, out, i, a) => i + f = s.size ∧ a ≤ i ∧ out.length ≤ a ∧ K = out ++ rsp s mn mx ms f i a) (fun (f, out, i, a) => f) (fun (f, out, i, a) => [(5, .lsl 2 1 0 (out.map rowS).length), (6, I a), (7, I i)]) (fun (f, out, i, a) => [(2, .arr 1 (out.map rowS))]) ((s.size, [], 0, 0)) [0, 3] [] [1] rfl rfl rfl (.of [1] (by (repeat' first | exact trivial | refine And.intro ?_ ?_ | rfl); first | done | fail) (by (repeat' first | exact trivial | refine And.intro ?_ ?_ | rfl); first | done | fail) rfl) ?_ ?_
  · exact ⟨by omega, Nat.le_refl _, Nat.le_refl _, hK.symm⟩
  rintro ⟨f, out, i, a⟩ ⟨g1, g2, g3, g4⟩
  refine nrm rfl rfl ?_
  clear hK
  have hm : (List.map rowS out).length = out.length := List.length_map _
  cases f with
  | zero =>
    rw [rsp, List.append_nil] at g4
    subst g4
    repeat' first | refine wr (by omega) ?_ | refine ln ?_ | refine stp lay_ok rfl ?_ | refine fin ?_ | refine n_thn ?_ | refine n_blk ?_ | refine e_thn ?_ | refine e_hit ?_ | refine e_miss rfl ?_ | refine r_thn ?_ | refine r_blk ?_ | refine e_rr ?_ | refine r_rr ?_ | refine e_cr ?_ | refine r_cr ?_ | refine .seq ?_ | refine reg ?_ | refine .block ?_ | refine .skip ?_ | refine .ret ?_ | refine .exit ?_ | refine cndT rfl ?_ | refine cndF rfl ?_ | refine c_dec rfl (fun hc => ?_) (fun hc => ?_) | refine c_ndec rfl (fun hc => ?_) (fun hc => ?_) | refine cnd rfl (fun hc => ?_) (fun hc => ?_) | refine gd rfl rfl rfl (fun hg => ?_) (fun hg => ?_) | refine gn rfl rfl rfl (fun hg => ?_) (fun hg => ?_) | refine dwr (by omega) ?_ | refine dwl ?_ | refine dws lay_ok rfl rfl rfl rfl rfl rfl rfl ?_ | refine dwu lay_ok rfl rfl rfl rfl rfl rfl rfl rfl rfl ?_ | refine dw_end ?_ | refine dw_skip rfl rfl rfl ?_ | refine dwn lay_ok rfl rfl rfl rfl rfl ?_ | refine dw_dec rfl rfl rfl (fun hg => ?_) (fun hg => ?_) | refine dw_ndec rfl rfl rfl (fun hg => ?_) (fun hg => ?_)
    all_goals first
      | (exfalso; omega)
      | skip
    refine f_end (n0 := 0) (t'' := [(4, .st (.sl 1 (K.map rowS)))]) (h'' := []) (Wk.then (Wk.frz 2 [4] rfl rfl rfl (by (repeat' first | exact trivial | refine And.intro ?_ ?_ | rfl); first | done | fail) (by (repeat' first | exact trivial | refine And.intro ?_ ?_ | rfl); first | done | fail) rfl rfl) (WkR.of [] (by (repeat' first | exact trivial | refine And.intro ?_ ?_ | rfl); first | done | fail) (by (repeat' first | exact trivial | refine And.intro ?_ ?_ | rfl); first | done | fail) rfl)) rfl rfl ⟨?_, rfl⟩
    rfl
  | succ f =>
    have bat : ∀ (j : Nat) (z : Int), z = j → j < s.size → s.data.toList[z.toNat]? = some s.data[j]! := fun j z hz hj => by
      rw [hz, Int.toNat_natCast, Array.getElem?_toList, getElem!_pos s.data j hj]
      exact Array.getElem?_eq_getElem _
    have hb := bat i (i : Int) rfl (by omega)
    have hbl : (s.data[i]!).toNat < 256 := UInt8.toNat_lt _
    have hr : ∀ x : ByteArray, List.map rowS out ++ [[SV.str x]] = List.map rowS (out ++ [x]) := fun x => by rw [List.map_append]; rfl
    rw [rsp] at g4
    by_cases hn : 1 < i + 1 - a
    · have hcut : cutAt s mn mx ms i a = (decide (i + 1 - a = mx) || (decide (mn ≤ i + 1 - a) && decide ((31 * ((s.data[i - 1]!).toNat) + (s.data[i]!).toNat) &&& ms = ms)) || decide (i + 1 = s.size)) := by
        unfold cutAt
        first | rw [if_pos hn] | rw [if_neg hn]
        rfl
      have hbq : ((s.data[i - 1]!).toNat) < 256 := by first | exact UInt8.toNat_lt _ | omega
      have hall := all_ok (31 * ((s.data[i - 1]!).toNat) + (s.data[i]!).toNat) ms (by omega) (by omega)
      rw [show ((31 * ((s.data[i - 1]!).toNat) + (s.data[i]!).toNat : Nat) : Int) = 31 * ((((s.data[i - 1]!).toNat) : Nat) : Int) + ((s.data[i]!).toNat : Int) by omega] at hall
      have hbp : 1 < i + 1 - a → s.data.toList[((i : Int) - 1).toNat]? = some s.data[i - 1]! := fun h => bat (i - 1) _ (by omega) (by omega)
      first | (have hbp2 := hbp hn) | (have hbp2 := hn)
      rw [hcut] at g4
      generalize decide ((31 * ((s.data[i - 1]!).toNat) + (s.data[i]!).toNat) &&& ms = ms) = w at *
      generalize s.data[i]! = b0 at *
      generalize s.data[i - 1]! = b1 at *
      repeat' first | refine wr (by omega) ?_ | refine ln ?_ | refine stp lay_ok rfl ?_ | refine fin ?_ | refine n_thn ?_ | refine n_blk ?_ | refine e_thn ?_ | refine e_hit ?_ | refine e_miss rfl ?_ | refine r_thn ?_ | refine r_blk ?_ | refine e_rr ?_ | refine r_rr ?_ | refine e_cr ?_ | refine r_cr ?_ | refine .seq ?_ | refine reg ?_ | refine .block ?_ | refine .skip ?_ | refine .ret ?_ | refine .exit ?_ | refine cndT rfl ?_ | refine cndF rfl ?_ | refine c_dec rfl (fun hc => ?_) (fun hc => ?_) | refine c_ndec rfl (fun hc => ?_) (fun hc => ?_) | refine cnd rfl (fun hc => ?_) (fun hc => ?_) | ((first | refine o_none rfl ?_ | refine o_none_ ?_ | refine o_yes rfl rfl rfl ?_ | refine o_yes_ rfl rfl ?_); first | refine st_byte b1 lay_ok rfl rfl rfl rfl (by omega) (hbp hn) ?_) | refine gd rfl rfl rfl (fun hg => ?_) (fun hg => ?_) | refine gn rfl rfl rfl (fun hg => ?_) (fun hg => ?_) | refine dwr (by omega) ?_ | refine dwl ?_ | refine dws lay_ok rfl rfl rfl rfl rfl rfl rfl ?_ | refine dwu lay_ok rfl rfl rfl rfl rfl rfl rfl rfl rfl ?_ | refine dw_end ?_ | refine dw_skip rfl rfl rfl ?_ | refine dwn lay_ok rfl rfl rfl rfl rfl ?_ | refine dwb rfl rfl rfl rfl rfl (by (first | refine st_byte b1 lay_ok rfl rfl rfl rfl (by omega) (hbp hn) ?_); exact fin rfl) rfl rfl ?_ | refine dwg rfl rfl rfl rfl rfl (by (first | refine st_byte b1 lay_ok rfl rfl rfl rfl (by omega) (hbp hn) ?_); exact fin rfl) rfl rfl rfl rfl rfl ?_ | refine dw_dec rfl rfl rfl (fun hg => ?_) (fun hg => ?_) | refine dw_ndec rfl rfl rfl (fun hg => ?_) (fun hg => ?_)
      all_goals first
        | (exfalso; omega)
        | skip
      refine dreg [(0, [], [30, 31, 32, 33, 35, 36]), (1, [0], [30, 31, 32, 33, 35, 36]), (2, [], [28, 29, 31, 35, 36]), (3, [], [28, 29, 30, 35, 36]), (4, [2, 3], [28, 29, 35, 36]), (5, [2, 3, 4], [28, 29, 35, 36]), (6, [0, 1, 2, 3, 4, 5], [35, 36]), (7, [], [28, 29, 30, 31, 32, 33, 34]), (8, [7], [28, 29, 30, 31, 32, 33, 34]), (9, [0, 1, 2, 3, 4, 5, 6, 7, 8], []), (10, [0, 1, 2, 3, 4, 5, 6, 7, 8, 9], [])] mixed (by kernel_rfl) ?_
      repeat' first | refine wr (by omega) ?_ | refine ln ?_ | refine stp lay_ok rfl ?_ | refine fin ?_ | refine n_thn ?_ | refine n_blk ?_ | refine e_thn ?_ | refine e_hit ?_ | refine e_miss rfl ?_ | refine r_thn ?_ | refine r_blk ?_ | refine e_rr ?_ | refine r_rr ?_ | refine e_cr ?_ | refine r_cr ?_ | refine .seq ?_ | refine reg ?_ | refine .block ?_ | refine .skip ?_ | refine .ret ?_ | refine .exit ?_ | refine cndT rfl ?_ | refine cndF rfl ?_ | refine c_dec rfl (fun hc => ?_) (fun hc => ?_) | refine c_ndec rfl (fun hc => ?_) (fun hc => ?_) | refine cnd rfl (fun hc => ?_) (fun hc => ?_) | ((first | refine o_none rfl ?_ | refine o_none_ ?_ | refine o_yes rfl rfl rfl ?_ | refine o_yes_ rfl rfl ?_); first | refine st_byte b0 lay_ok rfl rfl rfl rfl (by omega) hb ?_ | refine st_pure (hall) b63 rfl rfl rfl rfl ?_ | refine st_subS a (i + 1) lay_ok rfl rfl rfl ⟨_, _, rfl, rfl⟩ ⟨_, _, rfl, rfl⟩ (by omega) (by omega) ?_ | refine st_append lay_ok rfl rfl rfl rfl rfl rfl rfl rfl (.lsl rfl rfl) .sl rfl (one_s (s.extract a (i + 1))) (by simp only [List.length_cons, List.length_nil]; omega) (by simp only [List.length_cons, List.length_nil]; omega) ?_) | refine gb (b := w) rfl rfl rfl (fun hg => ?_) (fun hg => ?_) | refine gd rfl rfl rfl (fun hg => ?_) (fun hg => ?_) | refine gn rfl rfl rfl (fun hg => ?_) (fun hg => ?_) | refine dwr (by omega) ?_ | refine dwl ?_ | refine dws lay_ok rfl rfl rfl rfl rfl rfl rfl ?_ | refine dwu lay_ok rfl rfl rfl rfl rfl rfl rfl rfl rfl ?_ | refine dw_end ?_ | refine dw_skip rfl rfl rfl ?_ | refine dwn lay_ok rfl rfl rfl rfl rfl ?_ | refine dwb rfl rfl rfl rfl rfl (by (first | refine st_byte b0 lay_ok rfl rfl rfl rfl (by omega) hb ?_ | refine st_pure (hall) b63 rfl rfl rfl rfl ?_ | refine st_subS a (i + 1) lay_ok rfl rfl rfl ⟨_, _, rfl, rfl⟩ ⟨_, _, rfl, rfl⟩ (by omega) (by omega) ?_ | refine st_append lay_ok rfl rfl rfl rfl rfl rfl rfl rfl (.lsl rfl rfl) .sl rfl (one_s (s.extract a (i + 1))) (by simp only [List.length_cons, List.length_nil]; omega) (by simp only [List.length_cons, List.length_nil]; omega) ?_); exact fin rfl) rfl rfl ?_ | refine dwg rfl rfl rfl rfl rfl (by (first | refine st_byte b0 lay_ok rfl rfl rfl rfl (by omega) hb ?_ | refine st_pure (hall) b63 rfl rfl rfl rfl ?_ | refine st_subS a (i + 1) lay_ok rfl rfl rfl ⟨_, _, rfl, rfl⟩ ⟨_, _, rfl, rfl⟩ (by omega) (by omega) ?_ | refine st_append lay_ok rfl rfl rfl rfl rfl rfl rfl rfl (.lsl rfl rfl) .sl rfl (one_s (s.extract a (i + 1))) (by simp only [List.length_cons, List.length_nil]; omega) (by simp only [List.length_cons, List.length_nil]; omega) ?_); exact fin rfl) rfl rfl rfl rfl rfl ?_ | refine dw_dec rfl rfl rfl (fun hg => ?_) (fun hg => ?_) | refine dw_ndec rfl rfl rfl (fun hg => ?_) (fun hg => ?_)
      all_goals first
        | (exfalso; omega)
        | skip
      all_goals first
        | (rw [if_pos (by simp only [Bool.or_eq_true, Bool.and_eq_true, decide_eq_true_eq]; first | (left; left; omega) | (left; right; exact ⟨by omega, by assumption⟩) | (right; omega))] at g4
           rw [hr]
           refine n_rr ((f, out ++ [s.extract a (i + 1)], i + 1, i + 1)) ?_ (.of [3] (by (repeat' first | exact trivial | refine And.intro ?_ ?_ | rfl); first | done | fail) (by (repeat' first | exact trivial | refine And.intro ?_ ?_ | rfl); first | done | fail) rfl) ?_
           · exact Nat.lt_succ_self _
           · exact ⟨by omega, Nat.le_refl _, by simp; omega, by rw [g4]; simp⟩)
        | (rw [if_neg (by simp only [Bool.or_eq_true, Bool.and_eq_true, decide_eq_true_eq]; intro h; rcases h with (h | ⟨h, hw⟩) | h <;> first | omega | (subst hw; contradiction))] at g4
           refine n_rr ((f, out, i + 1, a)) ?_ (.of [2] (by (repeat' first | exact trivial | refine And.intro ?_ ?_ | rfl); first | done | fail) (by (repeat' first | exact trivial | refine And.intro ?_ ?_ | rfl); first | done | fail) rfl) ?_
           · exact Nat.lt_succ_self _
           · exact ⟨by omega, by omega, g3, g4⟩)
    · have hcut : cutAt s mn mx ms i a = (decide (i + 1 - a = mx) || (decide (mn ≤ i + 1 - a) && decide ((31 * (0) + (s.data[i]!).toNat) &&& ms = ms)) || decide (i + 1 = s.size)) := by
        unfold cutAt
        first | rw [if_pos hn] | rw [if_neg hn]
        rfl
      have hbq : (0) < 256 := by first | exact UInt8.toNat_lt _ | omega
      have hall := all_ok (31 * (0) + (s.data[i]!).toNat) ms (by omega) (by omega)
      rw [show ((31 * (0) + (s.data[i]!).toNat : Nat) : Int) = 31 * (((0) : Nat) : Int) + ((s.data[i]!).toNat : Int) by omega] at hall
      have hbp : 1 < i + 1 - a → s.data.toList[((i : Int) - 1).toNat]? = some s.data[i - 1]! := fun h => bat (i - 1) _ (by omega) (by omega)
      first | (have hbp2 := hbp hn) | (have hbp2 := hn)
      rw [hcut] at g4
      generalize decide ((31 * (0) + (s.data[i]!).toNat) &&& ms = ms) = w at *
      generalize s.data[i]! = b0 at *
      generalize s.data[i - 1]! = b1 at *
      repeat' first | refine wr (by omega) ?_ | refine ln ?_ | refine stp lay_ok rfl ?_ | refine fin ?_ | refine n_thn ?_ | refine n_blk ?_ | refine e_thn ?_ | refine e_hit ?_ | refine e_miss rfl ?_ | refine r_thn ?_ | refine r_blk ?_ | refine e_rr ?_ | refine r_rr ?_ | refine e_cr ?_ | refine r_cr ?_ | refine .seq ?_ | refine reg ?_ | refine .block ?_ | refine .skip ?_ | refine .ret ?_ | refine .exit ?_ | refine cndT rfl ?_ | refine cndF rfl ?_ | refine c_dec rfl (fun hc => ?_) (fun hc => ?_) | refine c_ndec rfl (fun hc => ?_) (fun hc => ?_) | refine cnd rfl (fun hc => ?_) (fun hc => ?_) | ((first | refine o_none rfl ?_ | refine o_none_ ?_ | refine o_yes rfl rfl rfl ?_ | refine o_yes_ rfl rfl ?_); first | refine st_byte b1 lay_ok rfl rfl rfl rfl (by omega) (hbp hn) ?_) | refine gd rfl rfl rfl (fun hg => ?_) (fun hg => ?_) | refine gn rfl rfl rfl (fun hg => ?_) (fun hg => ?_) | refine dwr (by omega) ?_ | refine dwl ?_ | refine dws lay_ok rfl rfl rfl rfl rfl rfl rfl ?_ | refine dwu lay_ok rfl rfl rfl rfl rfl rfl rfl rfl rfl ?_ | refine dw_end ?_ | refine dw_skip rfl rfl rfl ?_ | refine dwn lay_ok rfl rfl rfl rfl rfl ?_ | refine dwb rfl rfl rfl rfl rfl (by (first | refine st_byte b1 lay_ok rfl rfl rfl rfl (by omega) (hbp hn) ?_); exact fin rfl) rfl rfl ?_ | refine dwg rfl rfl rfl rfl rfl (by (first | refine st_byte b1 lay_ok rfl rfl rfl rfl (by omega) (hbp hn) ?_); exact fin rfl) rfl rfl rfl rfl rfl ?_ | refine dw_dec rfl rfl rfl (fun hg => ?_) (fun hg => ?_) | refine dw_ndec rfl rfl rfl (fun hg => ?_) (fun hg => ?_)
      all_goals first
        | (exfalso; omega)
        | skip
      refine dreg [(0, [], [30, 31, 32, 33, 35, 36]), (1, [0], [30, 31, 32, 33, 35, 36]), (2, [], [28, 29, 31, 35, 36]), (3, [], [28, 29, 30, 35, 36]), (4, [2, 3], [28, 29, 35, 36]), (5, [2, 3, 4], [28, 29, 35, 36]), (6, [0, 1, 2, 3, 4, 5], [35, 36]), (7, [], [28, 29, 30, 31, 32, 33, 34]), (8, [7], [28, 29, 30, 31, 32, 33, 34]), (9, [0, 1, 2, 3, 4, 5, 6, 7, 8], []), (10, [0, 1, 2, 3, 4, 5, 6, 7, 8, 9], [])] mixed (by kernel_rfl) ?_
      repeat' first | refine wr (by omega) ?_ | refine ln ?_ | refine stp lay_ok rfl ?_ | refine fin ?_ | refine n_thn ?_ | refine n_blk ?_ | refine e_thn ?_ | refine e_hit ?_ | refine e_miss rfl ?_ | refine r_thn ?_ | refine r_blk ?_ | refine e_rr ?_ | refine r_rr ?_ | refine e_cr ?_ | refine r_cr ?_ | refine .seq ?_ | refine reg ?_ | refine .block ?_ | refine .skip ?_ | refine .ret ?_ | refine .exit ?_ | refine cndT rfl ?_ | refine cndF rfl ?_ | refine c_dec rfl (fun hc => ?_) (fun hc => ?_) | refine c_ndec rfl (fun hc => ?_) (fun hc => ?_) | refine cnd rfl (fun hc => ?_) (fun hc => ?_) | ((first | refine o_none rfl ?_ | refine o_none_ ?_ | refine o_yes rfl rfl rfl ?_ | refine o_yes_ rfl rfl ?_); first | refine st_byte b0 lay_ok rfl rfl rfl rfl (by omega) hb ?_ | refine st_pure (hall) b63 rfl rfl rfl rfl ?_ | refine st_subS a (i + 1) lay_ok rfl rfl rfl ⟨_, _, rfl, rfl⟩ ⟨_, _, rfl, rfl⟩ (by omega) (by omega) ?_ | refine st_append lay_ok rfl rfl rfl rfl rfl rfl rfl rfl (.lsl rfl rfl) .sl rfl (one_s (s.extract a (i + 1))) (by simp only [List.length_cons, List.length_nil]; omega) (by simp only [List.length_cons, List.length_nil]; omega) ?_) | refine gb (b := w) rfl rfl rfl (fun hg => ?_) (fun hg => ?_) | refine gd rfl rfl rfl (fun hg => ?_) (fun hg => ?_) | refine gn rfl rfl rfl (fun hg => ?_) (fun hg => ?_) | refine dwr (by omega) ?_ | refine dwl ?_ | refine dws lay_ok rfl rfl rfl rfl rfl rfl rfl ?_ | refine dwu lay_ok rfl rfl rfl rfl rfl rfl rfl rfl rfl ?_ | refine dw_end ?_ | refine dw_skip rfl rfl rfl ?_ | refine dwn lay_ok rfl rfl rfl rfl rfl ?_ | refine dwb rfl rfl rfl rfl rfl (by (first | refine st_byte b0 lay_ok rfl rfl rfl rfl (by omega) hb ?_ | refine st_pure (hall) b63 rfl rfl rfl rfl ?_ | refine st_subS a (i + 1) lay_ok rfl rfl rfl ⟨_, _, rfl, rfl⟩ ⟨_, _, rfl, rfl⟩ (by omega) (by omega) ?_ | refine st_append lay_ok rfl rfl rfl rfl rfl rfl rfl rfl (.lsl rfl rfl) .sl rfl (one_s (s.extract a (i + 1))) (by simp only [List.length_cons, List.length_nil]; omega) (by simp only [List.length_cons, List.length_nil]; omega) ?_); exact fin rfl) rfl rfl ?_ | refine dwg rfl rfl rfl rfl rfl (by (first | refine st_byte b0 lay_ok rfl rfl rfl rfl (by omega) hb ?_ | refine st_pure (hall) b63 rfl rfl rfl rfl ?_ | refine st_subS a (i + 1) lay_ok rfl rfl rfl ⟨_, _, rfl, rfl⟩ ⟨_, _, rfl, rfl⟩ (by omega) (by omega) ?_ | refine st_append lay_ok rfl rfl rfl rfl rfl rfl rfl rfl (.lsl rfl rfl) .sl rfl (one_s (s.extract a (i + 1))) (by simp only [List.length_cons, List.length_nil]; omega) (by simp only [List.length_cons, List.length_nil]; omega) ?_); exact fin rfl) rfl rfl rfl rfl rfl ?_ | refine dw_dec rfl rfl rfl (fun hg => ?_) (fun hg => ?_) | refine dw_ndec rfl rfl rfl (fun hg => ?_) (fun hg => ?_)
      all_goals first
        | (exfalso; omega)
        | skip
      all_goals first
        | (rw [if_pos (by simp only [Bool.or_eq_true, Bool.and_eq_true, decide_eq_true_eq]; first | (left; left; omega) | (left; right; exact ⟨by omega, by assumption⟩) | (right; omega))] at g4
           rw [hr]
           refine n_rr ((f, out ++ [s.extract a (i + 1)], i + 1, i + 1)) ?_ (.of [3] (by (repeat' first | exact trivial | refine And.intro ?_ ?_ | rfl); first | done | fail) (by (repeat' first | exact trivial | refine And.intro ?_ ?_ | rfl); first | done | fail) rfl) ?_
           · exact Nat.lt_succ_self _
           · exact ⟨by omega, Nat.le_refl _, by simp; omega, by rw [g4]; simp⟩)
        | (rw [if_neg (by simp only [Bool.or_eq_true, Bool.and_eq_true, decide_eq_true_eq]; intro h; rcases h with (h | ⟨h, hw⟩) | h <;> first | omega | (subst hw; contradiction))] at g4
           refine n_rr ((f, out, i + 1, a)) ?_ (.of [2] (by (repeat' first | exact trivial | refine And.intro ?_ ?_ | rfl); first | done | fail) (by (repeat' first | exact trivial | refine And.intro ?_ ?_ | rfl); first | done | fail) rfl) ?_
           · exact Nat.lt_succ_self _
           · exact ⟨by omega, by omega, g3, g4⟩)
end Go.Proofs.YtmekcbbieacioaaGreatDoorFn
namespace Go.Proofs.YtmekcbbieacioaaGreatDoorFn
open Go.Proofs.YtmekcbbieacioaaGreatDoorAl Go.Proofs.Tryz
/-! ### the program's chunks are the document's -/
theorem byteAt_ext {s : ByteArray} {a j : Nat} (h : a + j < s.size) : byteAt (s.extract a s.size) j = byteAt s (a + j) := by
  unfold byteAt
  have h1 : j < (s.extract a s.size).data.size := by
    show j < (s.extract a s.size).size
    rw [ByteArray.size_extract]; omega
  have h2 : a + j < s.data.size := h
  rw [getElem!_pos (s.extract a s.size).data j h1, getElem!_pos s.data (a + j) h2]
  have h3 := ext_drop (s := s) (a := a)
  have h4 : (s.extract a s.size).data.toList[j]? = s.data.toList[a + j]? := by rw [h3, List.getElem?_drop]
  rw [Array.getElem?_toList, Array.getElem?_toList, Array.getElem?_eq_getElem h1, Array.getElem?_eq_getElem h2] at h4
  rw [Option.some.inj h4]
theorem rsp_len (s : ByteArray) (mn mx ms a n : Nat) (h1 : 1 ≤ mn) (hmm : mn ≤ mx) (hn : n = min (s.size - a) mx) (ha : a < s.size) : ∀ k, 1 ≤ k → k ≤ n →
    rsp s mn mx ms (s.size - (a + (n - k))) (a + (n - k)) a = s.extract a (a + lenG (s.extract a s.size) mn ms n k) :: rsp s mn mx ms (s.size - (a + lenG (s.extract a s.size) mn ms n k)) (a + lenG (s.extract a s.size) mn ms n k) (a + lenG (s.extract a s.size) mn ms n k) := by
  intro k
  induction k with
  | zero => intro h; omega
  | succ k ih =>
    intro _ hk
    obtain ⟨j, hj⟩ : ∃ j, j = n - (k + 1) := ⟨_, rfl⟩
    have hjn : n - k = j + 1 := by omega
    have hsz : s.size - (a + j) = (s.size - (a + j + 1)) + 1 := by omega
    rw [← hj, hsz, rsp, lenG, ← hj, hjn]
    have hb := byteAt_ext (s := s) (a := a) (j := j) (by omega)
    have hp : (if 1 < a + j + 1 - a then byteAt s (a + j - 1) else 0) = prevAt (s.extract a s.size) j := by
      unfold prevAt
      by_cases h0 : j = 0
      · rw [if_neg (by omega), if_pos h0]
      · rw [if_pos (by omega), if_neg h0, byteAt_ext (by omega)]
        congr 1; omega
    have hcut : cutAt s mn mx ms (a + j) a = (decide (j + 1 = mx) || hitC (s.extract a s.size) mn ms j || decide (a + j + 1 = s.size)) := by
      unfold cutAt hitC
      rw [hp, hb, show a + j + 1 - a = j + 1 by omega]
    rw [hcut]
    cases hh : hitC (s.extract a s.size) mn ms j with
    | true =>
      rw [if_pos (by simp), if_pos rfl]
      rfl
    | false =>
      rw [if_neg (c := (false = true)) (by simp)]
      cases k with
      | zero =>
        have hx : (decide (j + 1 = mx) || false || decide (a + j + 1 = s.size)) = true := by
          simp only [Bool.or_false, Bool.or_eq_true, decide_eq_true_eq]; omega
        rw [if_pos hx, lenG, show n = j + 1 by omega]
        rfl
      | succ k =>
        have hx : ¬ (decide (j + 1 = mx) || false || decide (a + j + 1 = s.size)) = true := by
          simp only [Bool.or_false, Bool.or_eq_true, decide_eq_true_eq]; omega
        rw [if_neg hx]
        have := ih (by omega) (by omega)
        rw [hjn] at this
        exact this
theorem rsp_split (c : CV) (hc : c.ok = true) (s : ByteArray) : ∀ (f a : Nat), a ≤ s.size → s.size - a ≤ f → rsp s c.mn.toNat c.mx.toNat c.ms.toNat (s.size - a) a a = c.split f (s.extract a s.size) := by
  have hc' := hc
  simp only [CV.ok, Bool.and_eq_true, decide_eq_true_eq] at hc'
  intro f
  induction f with
  | zero =>
    intro a h1 h2
    rw [show s.size - a = 0 by omega]; rfl
  | succ f ih =>
    intro a h1 h2
    have hz : (s.extract a s.size).size = s.size - a := by rw [ByteArray.size_extract]; omega
    rw [CV.split, hz]
    by_cases h0 : s.size - a = 0
    · rw [if_pos h0, h0]; rfl
    rw [if_neg h0]
    have hl := c.len_le (s.extract a s.size) hc (by omega)
    have hr := rsp_len s c.mn.toNat c.mx.toNat c.ms.toNat a (min (s.size - a) c.mx.toNat) (by omega) (by omega) rfl (by omega) (min (s.size - a) c.mx.toNat) (by omega) (Nat.le_refl _)
    rw [Nat.sub_self, Nat.add_zero] at hr
    have hL : lenG (s.extract a s.size) c.mn.toNat c.ms.toNat (min (s.size - a) c.mx.toNat) (min (s.size - a) c.mx.toNat) = c.len (s.extract a s.size) := by unfold CV.len; rw [hz]
    rw [hL] at hr
    generalize c.len (s.extract a s.size) = L at *
    rw [hr, ih (a + L) (by omega) (by omega)]
    have e1 : (s.extract a s.size).extract 0 L = s.extract a (a + L) := by
      rw [ByteArray.extract_extract]; congr 1; omega
    have e2 : (s.extract a s.size).extract L (s.size - a) = s.extract (a + L) s.size := by
      rw [ByteArray.extract_extract]; congr 1; omega
    rw [e1, e2]
end Go.Proofs.YtmekcbbieacioaaGreatDoorFn
namespace Go.Proofs.YtmekcbbieacioaaGreatDoorFn
open Go.Proofs.YtmekcbbieacioaaGreatDoorAl Go.Proofs.Tryz
attribute [local irreducible] IntKind.wrap CodeOk OpsL OpG ACalls thn inBlk rndR cutR WkR Wk fnR DW ExtOk partsOf
theorem b13 : HasBody prog 13 := ⟨f13, func13, Option.some_ne_none _, by decide⟩
theorem refSplitC_ok (c : CV) (hc : c.ok = true) (s : ByteArray) (hs : s.size ≤ 4000000) : ACalls prog 38 0 [Sx s, cutE c] [] fun r h => r = .st (.sl 1 ((c.split s.size s).map rowS)) ∧ h = [] := by
  have hc' := hc
  simp only [CV.ok, Bool.and_eq_true, decide_eq_true_eq] at hc'
  have h := refSplit3_ok s c.mn.toNat c.mx.toNat c.ms.toNat (by omega) (by omega) (by omega) (by omega) hs
  have e := rsp_split c hc s s.size 0 (Nat.zero_le _) (by omega)
  rw [Nat.sub_zero] at e
  rw [e, ByteArray.extract_zero_size] at h
  rw [show ((c.mn.toNat : Nat) : Int) = c.mn by omega, show ((c.mx.toNat : Nat) : Int) = c.mx by omega, show ((c.ms.toNat : Nat) : Int) = c.ms by omega] at h
  exact h
theorem cmE_str (x y : EV) : ltC cmE x y = strLt x.path y.path := by
  rw [cmE_lt]
  show decide (x.path.data.toList < y.path.data.toList) = _
  rw [← Go.Proofs.bytesLess_eq]; rfl
def buildR (l : List FV) (c : CV) : AV := if c.ok = false then .tuple [.st .nilsl, I 1, I (-1)] else if 32 < l.length then .tuple [.st .nilsl, I 7, I (-1)] else match badFile l l.length 0 with
  | none => .tuple [.st (.sl 3 (((l.map (fileE c)).foldl insE #[]).toList.map rowE)), I 0, I (-1)]
  | some (i, n) => .tuple [.st .nilsl, I n, I i]
set_option maxHeartbeats 8000000 in
set_option maxRecDepth 4000 in
theorem refBuild_ok (l : List FV) (c : CV) (hl : l.length ≤ 4000000000) (hp : ∀ e ∈ l, e.path.size ≤ 4000000000 - 1) :
    ACalls prog 13 0 [.st (.sl 2 (l.map rowF)), cutE c] [] fun r h => r = buildR l c ∧ h = [] := by
  have hmay := mayR3_ok c
  have hm : (List.map rowF l).length = l.length := List.length_map _
  unfold buildR
  refine fnC lay_ok func13 rfl rfl rfl rfl rfl ?_
  cases hok : c.ok with
  | false =>
    rw [hok] at hmay
    repeat' first | refine wr (by omega) ?_ | refine ln ?_ | refine stp lay_ok rfl ?_ | refine fin ?_ | refine n_thn ?_ | refine n_blk ?_ | refine e_thn ?_ | refine e_hit ?_ | refine e_miss rfl ?_ | refine r_thn ?_ | refine r_blk ?_ | refine e_rr ?_ | refine r_rr ?_ | refine e_cr ?_ | refine r_cr ?_ | refine .seq ?_ | refine reg ?_ | refine .block ?_ | refine .skip ?_ | refine .ret ?_ | refine .exit ?_ | refine cndT rfl ?_ | refine cndF rfl ?_ | refine c_dec rfl (fun hc => ?_) (fun hc => ?_) | refine c_ndec rfl (fun hc => ?_) (fun hc => ?_) | refine cnd rfl (fun hc => ?_) (fun hc => ?_) | ((first | refine o_none rfl ?_ | refine o_none_ ?_ | refine o_yes rfl rfl rfl ?_ | refine o_yes_ rfl rfl ?_); first | refine st_pure (hmay) b35 rfl rfl rfl rfl ?_) | refine gd rfl rfl rfl (fun hg => ?_) (fun hg => ?_) | refine gn rfl rfl rfl (fun hg => ?_) (fun hg => ?_) | refine dwr (by omega) ?_ | refine dwl ?_ | refine dws lay_ok rfl rfl rfl rfl rfl rfl rfl ?_ | refine dwu lay_ok rfl rfl rfl rfl rfl rfl rfl rfl rfl ?_ | refine dw_end ?_ | refine dw_skip rfl rfl rfl ?_ | refine dwn lay_ok rfl rfl rfl rfl rfl ?_ | refine dwb rfl rfl rfl rfl rfl (by (first | refine st_pure (hmay) b35 rfl rfl rfl rfl ?_); exact fin rfl) rfl rfl ?_ | refine dwg rfl rfl rfl rfl rfl (by (first | refine st_pure (hmay) b35 rfl rfl rfl rfl ?_); exact fin rfl) rfl rfl rfl rfl rfl ?_ | refine dw_dec rfl rfl rfl (fun hg => ?_) (fun hg => ?_) | refine dw_ndec rfl rfl rfl (fun hg => ?_) (fun hg => ?_)
    all_goals first
      | (exfalso; omega)
      | skip
    refine f_r [] rfl trivial rfl ⟨?_, rfl⟩
    rfl
  | true =>
    rw [hok] at hmay
    rw [if_neg (by simp)]
    by_cases h32 : 32 < l.length
    · rw [if_pos h32]
      repeat' first | refine wr (by omega) ?_ | refine ln ?_ | refine stp lay_ok rfl ?_ | refine fin ?_ | refine n_thn ?_ | refine n_blk ?_ | refine e_thn ?_ | refine e_hit ?_ | refine e_miss rfl ?_ | refine r_thn ?_ | refine r_blk ?_ | refine e_rr ?_ | refine r_rr ?_ | refine e_cr ?_ | refine r_cr ?_ | refine .seq ?_ | refine reg ?_ | refine .block ?_ | refine .skip ?_ | refine .ret ?_ | refine .exit ?_ | refine cndT rfl ?_ | refine cndF rfl ?_ | refine c_dec rfl (fun hc => ?_) (fun hc => ?_) | refine c_ndec rfl (fun hc => ?_) (fun hc => ?_) | refine cnd rfl (fun hc => ?_) (fun hc => ?_) | ((first | refine o_none rfl ?_ | refine o_none_ ?_ | refine o_yes rfl rfl rfl ?_ | refine o_yes_ rfl rfl ?_); first | refine st_pure (hmay) b35 rfl rfl rfl rfl ?_) | refine gd rfl rfl rfl (fun hg => ?_) (fun hg => ?_) | refine gn rfl rfl rfl (fun hg => ?_) (fun hg => ?_) | refine dwr (by omega) ?_ | refine dwl ?_ | refine dws lay_ok rfl rfl rfl rfl rfl rfl rfl ?_ | refine dwu lay_ok rfl rfl rfl rfl rfl rfl rfl rfl rfl ?_ | refine dw_end ?_ | refine dw_skip rfl rfl rfl ?_ | refine dwn lay_ok rfl rfl rfl rfl rfl ?_ | refine dwb rfl rfl rfl rfl rfl (by (first | refine st_pure (hmay) b35 rfl rfl rfl rfl ?_); exact fin rfl) rfl rfl ?_ | refine dwg rfl rfl rfl rfl rfl (by (first | refine st_pure (hmay) b35 rfl rfl rfl rfl ?_); exact fin rfl) rfl rfl rfl rfl rfl ?_ | refine dw_dec rfl rfl rfl (fun hg => ?_) (fun hg => ?_) | refine dw_ndec rfl rfl rfl (fun hg => ?_) (fun hg => ?_)
      all_goals first
        | (exfalso; omega)
        | skip
      refine f_r [] rfl trivial rfl ⟨?_, rfl⟩
      rfl
    rw [if_neg h32]
    repeat' first | refine wr (by omega) ?_ | refine ln ?_ | refine stp lay_ok rfl ?_ | refine fin ?_ | refine n_thn ?_ | refine n_blk ?_ | refine e_thn ?_ | refine e_hit ?_ | refine e_miss rfl ?_ | refine r_thn ?_ | refine r_blk ?_ | refine e_rr ?_ | refine r_rr ?_ | refine e_cr ?_ | refine r_cr ?_ | refine .seq ?_ | refine reg ?_ | refine .block ?_ | refine .skip ?_ | refine .ret ?_ | refine .exit ?_ | refine cndT rfl ?_ | refine cndF rfl ?_ | refine c_dec rfl (fun hc => ?_) (fun hc => ?_) | refine c_ndec rfl (fun hc => ?_) (fun hc => ?_) | refine cnd rfl (fun hc => ?_) (fun hc => ?_) | ((first | refine o_none rfl ?_ | refine o_none_ ?_ | refine o_yes rfl rfl rfl ?_ | refine o_yes_ rfl rfl ?_); first | refine st_pure (hmay) b35 rfl rfl rfl rfl ?_) | refine gd rfl rfl rfl (fun hg => ?_) (fun hg => ?_) | refine gn rfl rfl rfl (fun hg => ?_) (fun hg => ?_) | refine dwr (by omega) ?_ | refine dwl ?_ | refine dws lay_ok rfl rfl rfl rfl rfl rfl rfl ?_ | refine dwu lay_ok rfl rfl rfl rfl rfl rfl rfl rfl rfl ?_ | refine dw_end ?_ | refine dw_skip rfl rfl rfl ?_ | refine dwn lay_ok rfl rfl rfl rfl rfl ?_ | refine dwb rfl rfl rfl rfl rfl (by (first | refine st_pure (hmay) b35 rfl rfl rfl rfl ?_); exact fin rfl) rfl rfl ?_ | refine dwg rfl rfl rfl rfl rfl (by (first | refine st_pure (hmay) b35 rfl rfl rfl rfl ?_); exact fin rfl) rfl rfl rfl rfl rfl ?_ | refine dw_dec rfl rfl rfl (fun hg => ?_) (fun hg => ?_) | refine dw_ndec rfl rfl rfl (fun hg => ?_) (fun hg => ?_)
    all_goals first
      | (exfalso; omega)
      | skip
    refine CodeOk.wk (Wk.nilT 3 8 rfl rfl) (Nat.le_succ _) ?_
    refine nrm rfl rfl ?_
    refine lpR (fun (k, d) => k ≤ l.length ∧ badFile l l.length 0 = badFile l (l.length - k) k ∧ d = ((l.take k).map (fileE c)).foldl insE #[] ∧ d.size = k ∧ Sort.SortedIn (ltC cmE) 0 d.size d) (fun (k, d) => l.length - k) (fun (k, d) => [(9, I k), (8, .lsl 2 3 0 (rA d).length)]) (fun (k, d) => [(2, .arr 3 (rA d))]) ((0, #[])) [0, 3] [] [1] rfl rfl rfl (.of [1] (by (repeat' first | exact trivial | refine And.intro ?_ ?_ | rfl); first | done | fail) (by (repeat' first | exact trivial | refine And.intro ?_ ?_ | rfl); first | done | fail) rfl) ?_ ?_
    · exact ⟨Nat.zero_le _, rfl, rfl, rfl, fun i j h1 h2 h3 => by simp at h3⟩
    rintro ⟨k, d⟩ ⟨g1, g2, g3, g4, g5⟩
    refine nrm rfl rfl ?_
    have hmd : (rA d).length = d.size := rA_len d
    by_cases hk : k < l.length
    case neg =>
      have hke : k = l.length := by omega
      subst hke
      rw [List.take_length] at g3
      rw [Nat.sub_self] at g2
      rw [g2, badFile, ← g3]
      repeat' first | refine wr (by omega) ?_ | refine ln ?_ | refine stp lay_ok rfl ?_ | refine fin ?_ | refine n_thn ?_ | refine n_blk ?_ | refine e_thn ?_ | refine e_hit ?_ | refine e_miss rfl ?_ | refine r_thn ?_ | refine r_blk ?_ | refine e_rr ?_ | refine r_rr ?_ | refine e_cr ?_ | refine r_cr ?_ | refine .seq ?_ | refine reg ?_ | refine .block ?_ | refine .skip ?_ | refine .ret ?_ | refine .exit ?_ | refine cndT rfl ?_ | refine cndF rfl ?_ | refine c_dec rfl (fun hc => ?_) (fun hc => ?_) | refine c_ndec rfl (fun hc => ?_) (fun hc => ?_) | refine cnd rfl (fun hc => ?_) (fun hc => ?_) | refine gd rfl rfl rfl (fun hg => ?_) (fun hg => ?_) | refine gn rfl rfl rfl (fun hg => ?_) (fun hg => ?_) | refine dwr (by omega) ?_ | refine dwl ?_ | refine dws lay_ok rfl rfl rfl rfl rfl rfl rfl ?_ | refine dwu lay_ok rfl rfl rfl rfl rfl rfl rfl rfl rfl ?_ | refine dw_end ?_ | refine dw_skip rfl rfl rfl ?_ | refine dwn lay_ok rfl rfl rfl rfl rfl ?_ | refine dw_dec rfl rfl rfl (fun hg => ?_) (fun hg => ?_) | refine dw_ndec rfl rfl rfl (fun hg => ?_) (fun hg => ?_)
      all_goals first
        | (exfalso; omega)
        | skip
      refine f_end (n0 := 0) (t'' := [(4, .st (.sl 3 (rA d))), (5, I 0), (6, I (-1))]) (h'' := []) (Wk.then (Wk.frz 2 [4, 5, 6] rfl rfl rfl (by (repeat' first | exact trivial | refine And.intro ?_ ?_ | rfl); first | done | fail) (by (repeat' first | exact trivial | refine And.intro ?_ ?_ | rfl); first | done | fail) rfl rfl) (WkR.of [] (by (repeat' first | exact trivial | refine And.intro ?_ ?_ | rfl); first | done | fail) (by (repeat' first | exact trivial | refine And.intro ?_ ?_ | rfl); first | done | fail) rfl)) rfl rfl ⟨?_, rfl⟩
      rfl
    have hat := at_rowF hk
    have hst := badFile_step l k hk
    have hpe := hp _ (List.getElem_mem hk)
    have htk : (l.take (k + 1)).map (fileE c) = (l.take k).map (fileE c) ++ [fileE c l[k]] := by
      rw [List.take_succ_eq_append_getElem hk, List.map_append]; rfl
    generalize he : l[k] = e at *
    have hpa := refPath_ok e.path hpe
    obtain ⟨p, z⟩ := e
    simp only at hpa hpe
    cases hpo : pathOk p with
    | false =>
      rw [hpo] at hpa
      rw [show fileC l k ⟨p, z⟩ = some 2 by simp [fileC, hpo]] at hst
      rw [g2, hst]
      repeat' first | refine wr (by omega) ?_ | refine ln ?_ | refine stp lay_ok rfl ?_ | refine fin ?_ | refine n_thn ?_ | refine n_blk ?_ | refine e_thn ?_ | refine e_hit ?_ | refine e_miss rfl ?_ | refine r_thn ?_ | refine r_blk ?_ | refine e_rr ?_ | refine r_rr ?_ | refine e_cr ?_ | refine r_cr ?_ | refine .seq ?_ | refine reg ?_ | refine .block ?_ | refine .skip ?_ | refine .ret ?_ | refine .exit ?_ | refine cndT rfl ?_ | refine cndF rfl ?_ | refine c_dec rfl (fun hc => ?_) (fun hc => ?_) | refine c_ndec rfl (fun hc => ?_) (fun hc => ?_) | refine cnd rfl (fun hc => ?_) (fun hc => ?_) | ((first | refine o_none rfl ?_ | refine o_none_ ?_ | refine o_yes rfl rfl rfl ?_ | refine o_yes_ rfl rfl ?_); first | refine st_index (rowF ⟨p, z⟩) lay_ok rfl rfl rfl rfl (by omega) hat ?_ | refine st_pure (hpa) b36 rfl rfl rfl rfl ?_) | refine gd rfl rfl rfl (fun hg => ?_) (fun hg => ?_) | refine gn rfl rfl rfl (fun hg => ?_) (fun hg => ?_) | refine dwr (by omega) ?_ | refine dwl ?_ | refine dws lay_ok rfl rfl rfl rfl rfl rfl rfl ?_ | refine dwu lay_ok rfl rfl rfl rfl rfl rfl rfl rfl rfl ?_ | refine dw_end ?_ | refine dw_skip rfl rfl rfl ?_ | refine dwn lay_ok rfl rfl rfl rfl rfl ?_ | refine dwb rfl rfl rfl rfl rfl (by (first | refine st_index (rowF ⟨p, z⟩) lay_ok rfl rfl rfl rfl (by omega) hat ?_ | refine st_pure (hpa) b36 rfl rfl rfl rfl ?_); exact fin rfl) rfl rfl ?_ | refine dwg rfl rfl rfl rfl rfl (by (first | refine st_index (rowF ⟨p, z⟩) lay_ok rfl rfl rfl rfl (by omega) hat ?_ | refine st_pure (hpa) b36 rfl rfl rfl rfl ?_); exact fin rfl) rfl rfl rfl rfl rfl ?_ | refine dw_dec rfl rfl rfl (fun hg => ?_) (fun hg => ?_) | refine dw_ndec rfl rfl rfl (fun hg => ?_) (fun hg => ?_)
      all_goals first
        | (exfalso; omega)
        | skip
      refine f_r [] rfl trivial rfl ⟨?_, rfl⟩
      rfl
    | true =>
      rw [hpo] at hpa
      by_cases hz : 1024 < z.size
      · rw [show fileC l k ⟨p, z⟩ = some 7 by simp [fileC, hpo, hz]] at hst
        rw [g2, hst]
        repeat' first | refine wr (by omega) ?_ | refine ln ?_ | refine stp lay_ok rfl ?_ | refine fin ?_ | refine n_thn ?_ | refine n_blk ?_ | refine e_thn ?_ | refine e_hit ?_ | refine e_miss rfl ?_ | refine r_thn ?_ | refine r_blk ?_ | refine e_rr ?_ | refine r_rr ?_ | refine e_cr ?_ | refine r_cr ?_ | refine .seq ?_ | refine reg ?_ | refine .block ?_ | refine .skip ?_ | refine .ret ?_ | refine .exit ?_ | refine cndT rfl ?_ | refine cndF rfl ?_ | refine c_dec rfl (fun hc => ?_) (fun hc => ?_) | refine c_ndec rfl (fun hc => ?_) (fun hc => ?_) | refine cnd rfl (fun hc => ?_) (fun hc => ?_) | ((first | refine o_none rfl ?_ | refine o_none_ ?_ | refine o_yes rfl rfl rfl ?_ | refine o_yes_ rfl rfl ?_); first | refine st_index (rowF ⟨p, z⟩) lay_ok rfl rfl rfl rfl (by omega) hat ?_ | refine st_pure (hpa) b36 rfl rfl rfl rfl ?_) | refine gd rfl rfl rfl (fun hg => ?_) (fun hg => ?_) | refine gn rfl rfl rfl (fun hg => ?_) (fun hg => ?_) | refine dwr (by omega) ?_ | refine dwl ?_ | refine dws lay_ok rfl rfl rfl rfl rfl rfl rfl ?_ | refine dwu lay_ok rfl rfl rfl rfl rfl rfl rfl rfl rfl ?_ | refine dw_end ?_ | refine dw_skip rfl rfl rfl ?_ | refine dwn lay_ok rfl rfl rfl rfl rfl ?_ | refine dwb rfl rfl rfl rfl rfl (by (first | refine st_index (rowF ⟨p, z⟩) lay_ok rfl rfl rfl rfl (by omega) hat ?_ | refine st_pure (hpa) b36 rfl rfl rfl rfl ?_); exact fin rfl) rfl rfl ?_ | refine dwg rfl rfl rfl rfl rfl (by (first | refine st_index (rowF ⟨p, z⟩) lay_ok rfl rfl rfl rfl (by omega) hat ?_ | refine st_pure (hpa) b36 rfl rfl rfl rfl ?_); exact fin rfl) rfl rfl rfl rfl rfl ?_ | refine dw_dec rfl rfl rfl (fun hg => ?_) (fun hg => ?_) | refine dw_ndec rfl rfl rfl (fun hg => ?_) (fun hg => ?_)
        all_goals first
          | (exfalso; omega)
          | (exfalso; simp only at *; omega)
          | skip
        refine f_r [] rfl trivial rfl ⟨?_, rfl⟩
        rfl
      repeat' first | refine wr (by omega) ?_ | refine ln ?_ | refine stp lay_ok rfl ?_ | refine fin ?_ | refine n_thn ?_ | refine n_blk ?_ | refine e_thn ?_ | refine e_hit ?_ | refine e_miss rfl ?_ | refine r_thn ?_ | refine r_blk ?_ | refine e_rr ?_ | refine r_rr ?_ | refine e_cr ?_ | refine r_cr ?_ | refine .seq ?_ | refine reg ?_ | refine .block ?_ | refine .skip ?_ | refine .ret ?_ | refine .exit ?_ | refine cndT rfl ?_ | refine cndF rfl ?_ | refine c_dec rfl (fun hc => ?_) (fun hc => ?_) | refine c_ndec rfl (fun hc => ?_) (fun hc => ?_) | refine cnd rfl (fun hc => ?_) (fun hc => ?_) | ((first | refine o_none rfl ?_ | refine o_none_ ?_ | refine o_yes rfl rfl rfl ?_ | refine o_yes_ rfl rfl ?_); first | refine st_index (rowF ⟨p, z⟩) lay_ok rfl rfl rfl rfl (by omega) hat ?_ | refine st_pure (hpa) b36 rfl rfl rfl rfl ?_) | refine gd rfl rfl rfl (fun hg => ?_) (fun hg => ?_) | refine gn rfl rfl rfl (fun hg => ?_) (fun hg => ?_) | refine dwr (by omega) ?_ | refine dwl ?_ | refine dws lay_ok rfl rfl rfl rfl rfl rfl rfl ?_ | refine dwu lay_ok rfl rfl rfl rfl rfl rfl rfl rfl rfl ?_ | refine dw_end ?_ | refine dw_skip rfl rfl rfl ?_ | refine dwn lay_ok rfl rfl rfl rfl rfl ?_ | refine dwb rfl rfl rfl rfl rfl (by (first | refine st_index (rowF ⟨p, z⟩) lay_ok rfl rfl rfl rfl (by omega) hat ?_ | refine st_pure (hpa) b36 rfl rfl rfl rfl ?_); exact fin rfl) rfl rfl ?_ | refine dwg rfl rfl rfl rfl rfl (by (first | refine st_index (rowF ⟨p, z⟩) lay_ok rfl rfl rfl rfl (by omega) hat ?_ | refine st_pure (hpa) b36 rfl rfl rfl rfl ?_); exact fin rfl) rfl rfl rfl rfl rfl ?_ | refine dw_dec rfl rfl rfl (fun hg => ?_) (fun hg => ?_) | refine dw_ndec rfl rfl rfl (fun hg => ?_) (fun hg => ?_)
      all_goals first
        | (exfalso; omega)
        | (exfalso; simp only at *; omega)
        | skip
      refine lpR (fun j => j ≤ k ∧ (l.take j).any (fun x => clashB x.path p) = false) (fun j => k - j) (fun j => [(11, I j)]) (fun j => []) (0) [0, 3, 8, 9] [] [] rfl rfl rfl (.of [] (by (repeat' first | exact trivial | refine And.intro ?_ ?_ | rfl); first | done | fail) (by (repeat' first | exact trivial | refine And.intro ?_ ?_ | rfl); first | done | fail) rfl) ?_ ?_
      · exact ⟨Nat.zero_le _, rfl⟩
      rintro j ⟨q1, q2⟩
      refine nrm rfl rfl ?_
      by_cases hj : j < k
      · have hjl : j < l.length := by omega
        have hatj := at_rowF hjl
        have hcl := refClash_ok l[j].path p (hp _ (List.getElem_mem hjl)) hpe
        have hany : (l.take (j + 1)).any (fun x => clashB x.path p) = ((l.take j).any (fun x => clashB x.path p) || clashB l[j].path p) := by
          rw [List.take_succ_eq_append_getElem hjl, List.any_append]; simp
        have hmem : clashB l[j].path p = true → (l.take k).any (fun x => clashB x.path p) = true := fun h => by
          rw [List.any_eq_true]
          exact ⟨l[j], List.mem_take_iff_getElem.2 ⟨j, by omega, rfl⟩, h⟩
        generalize l[j] = x at *
        obtain ⟨p', z'⟩ := x
        simp only at hcl hany hmem
        cases hcb : clashB p' p <;> rw [hcb] at hcl
        · repeat' first | refine wr (by omega) ?_ | refine ln ?_ | refine stp lay_ok rfl ?_ | refine fin ?_ | refine n_thn ?_ | refine n_blk ?_ | refine e_thn ?_ | refine e_hit ?_ | refine e_miss rfl ?_ | refine r_thn ?_ | refine r_blk ?_ | refine e_rr ?_ | refine r_rr ?_ | refine e_cr ?_ | refine r_cr ?_ | refine .seq ?_ | refine reg ?_ | refine .block ?_ | refine .skip ?_ | refine .ret ?_ | refine .exit ?_ | refine cndT rfl ?_ | refine cndF rfl ?_ | refine c_dec rfl (fun hc => ?_) (fun hc => ?_) | refine c_ndec rfl (fun hc => ?_) (fun hc => ?_) | refine cnd rfl (fun hc => ?_) (fun hc => ?_) | refine gd rfl rfl rfl (fun hg => ?_) (fun hg => ?_) | refine gn rfl rfl rfl (fun hg => ?_) (fun hg => ?_) | refine dwr (by omega) ?_ | refine dwl ?_ | refine dws lay_ok rfl rfl rfl rfl rfl rfl rfl ?_ | refine dwu lay_ok rfl rfl rfl rfl rfl rfl rfl rfl rfl ?_ | refine dw_end ?_ | refine dw_skip rfl rfl rfl ?_ | refine dwn lay_ok rfl rfl rfl rfl rfl ?_ | refine dw_dec rfl rfl rfl (fun hg => ?_) (fun hg => ?_) | refine dw_ndec rfl rfl rfl (fun hg => ?_) (fun hg => ?_)
          all_goals first
            | (exfalso; omega)
            | skip
          refine dreg [(0, [], [52, 56, 57, 58, 59, 60]), (1, [], [51, 56, 57, 58, 59, 60]), (2, [0, 1], [56, 57, 58, 59, 60]), (3, [0, 1, 2], [56, 57, 58, 59, 60]), (4, [0, 1, 2, 3], [56, 57, 58, 59, 60]), (5, [], [51, 52, 53, 54, 55, 57]), (6, [], [51, 52, 53, 54, 55, 56]), (7, [5, 6], [51, 52, 53, 54, 55]), (8, [5, 6, 7], [51, 52, 53, 54, 55]), (9, [5, 6, 7, 8], [51, 52, 53, 54, 55]), (10, [0, 1, 2, 3, 4, 5, 6, 7, 8, 9], []), (11, [0, 1, 2, 3, 4, 5, 6, 7, 8, 9, 10], [])] mixed (by kernel_rfl) ?_
          repeat' first | refine wr (by omega) ?_ | refine ln ?_ | refine stp lay_ok rfl ?_ | refine fin ?_ | refine n_thn ?_ | refine n_blk ?_ | refine e_thn ?_ | refine e_hit ?_ | refine e_miss rfl ?_ | refine r_thn ?_ | refine r_blk ?_ | refine e_rr ?_ | refine r_rr ?_ | refine e_cr ?_ | refine r_cr ?_ | refine .seq ?_ | refine reg ?_ | refine .block ?_ | refine .skip ?_ | refine .ret ?_ | refine .exit ?_ | refine cndT rfl ?_ | refine cndF rfl ?_ | refine c_dec rfl (fun hc => ?_) (fun hc => ?_) | refine c_ndec rfl (fun hc => ?_) (fun hc => ?_) | refine cnd rfl (fun hc => ?_) (fun hc => ?_) | ((first | refine o_none rfl ?_ | refine o_none_ ?_ | refine o_yes rfl rfl rfl ?_ | refine o_yes_ rfl rfl ?_); first | refine st_index (rowF ⟨p, z⟩) lay_ok rfl rfl rfl rfl (by omega) hat ?_ | refine st_index (rowF ⟨p', z'⟩) lay_ok rfl rfl rfl rfl (by omega) hatj ?_ | refine st_pure (hcl) b37 rfl rfl rfl rfl ?_) | refine gd rfl rfl rfl (fun hg => ?_) (fun hg => ?_) | refine gn rfl rfl rfl (fun hg => ?_) (fun hg => ?_) | refine dwr (by omega) ?_ | refine dwl ?_ | refine dws lay_ok rfl rfl rfl rfl rfl rfl rfl ?_ | refine dwu lay_ok rfl rfl rfl rfl rfl rfl rfl rfl rfl ?_ | refine dw_end ?_ | refine dw_skip rfl rfl rfl ?_ | refine dwn lay_ok rfl rfl rfl rfl rfl ?_ | refine dwb rfl rfl rfl rfl rfl (by (first | refine st_index (rowF ⟨p, z⟩) lay_ok rfl rfl rfl rfl (by omega) hat ?_ | refine st_index (rowF ⟨p', z'⟩) lay_ok rfl rfl rfl rfl (by omega) hatj ?_ | refine st_pure (hcl) b37 rfl rfl rfl rfl ?_); exact fin rfl) rfl rfl ?_ | refine dwg rfl rfl rfl rfl rfl (by (first | refine st_index (rowF ⟨p, z⟩) lay_ok rfl rfl rfl rfl (by omega) hat ?_ | refine st_index (rowF ⟨p', z'⟩) lay_ok rfl rfl rfl rfl (by omega) hatj ?_ | refine st_pure (hcl) b37 rfl rfl rfl rfl ?_); exact fin rfl) rfl rfl rfl rfl rfl ?_ | refine dw_dec rfl rfl rfl (fun hg => ?_) (fun hg => ?_) | refine dw_ndec rfl rfl rfl (fun hg => ?_) (fun hg => ?_)
          refine n_rr (j + 1) ?_ (.of [] (by (repeat' first | exact trivial | refine And.intro ?_ ?_ | rfl | exact congrArg (fun z : Int => some (AV.st (.int .i64 z))) (show (j : Int) + 1 = ((j + 1 : Nat) : Int) by omega)); first | done | fail) (by (repeat' first | exact trivial | refine And.intro ?_ ?_ | rfl | exact congrArg (fun z : Int => some (AV.st (.int .i64 z))) (show (j : Int) + 1 = ((j + 1 : Nat) : Int) by omega)); first | done | fail) rfl) ?_
          · omega
          · exact ⟨hj, by rw [hany, q2, hcb]; rfl⟩
        · rw [show fileC l k ⟨p, z⟩ = some 4 by simp only [fileC, hpo, if_true, if_neg hz, hmem hcb]] at hst
          rw [g2, hst]
          repeat' first | refine wr (by omega) ?_ | refine ln ?_ | refine stp lay_ok rfl ?_ | refine fin ?_ | refine n_thn ?_ | refine n_blk ?_ | refine e_thn ?_ | refine e_hit ?_ | refine e_miss rfl ?_ | refine r_thn ?_ | refine r_blk ?_ | refine e_rr ?_ | refine r_rr ?_ | refine e_cr ?_ | refine r_cr ?_ | refine .seq ?_ | refine reg ?_ | refine .block ?_ | refine .skip ?_ | refine .ret ?_ | refine .exit ?_ | refine cndT rfl ?_ | refine cndF rfl ?_ | refine c_dec rfl (fun hc => ?_) (fun hc => ?_) | refine c_ndec rfl (fun hc => ?_) (fun hc => ?_) | refine cnd rfl (fun hc => ?_) (fun hc => ?_) | refine gd rfl rfl rfl (fun hg => ?_) (fun hg => ?_) | refine gn rfl rfl rfl (fun hg => ?_) (fun hg => ?_) | refine dwr (by omega) ?_ | refine dwl ?_ | refine dws lay_ok rfl rfl rfl rfl rfl rfl rfl ?_ | refine dwu lay_ok rfl rfl rfl rfl rfl rfl rfl rfl rfl ?_ | refine dw_end ?_ | refine dw_skip rfl rfl rfl ?_ | refine dwn lay_ok rfl rfl rfl rfl rfl ?_ | refine dw_dec rfl rfl rfl (fun hg => ?_) (fun hg => ?_) | refine dw_ndec rfl rfl rfl (fun hg => ?_) (fun hg => ?_)
          all_goals first
            | (exfalso; omega)
            | skip
          refine dreg [(0, [], [52, 56, 57, 58, 59, 60]), (1, [], [51, 56, 57, 58, 59, 60]), (2, [0, 1], [56, 57, 58, 59, 60]), (3, [0, 1, 2], [56, 57, 58, 59, 60]), (4, [0, 1, 2, 3], [56, 57, 58, 59, 60]), (5, [], [51, 52, 53, 54, 55, 57]), (6, [], [51, 52, 53, 54, 55, 56]), (7, [5, 6], [51, 52, 53, 54, 55]), (8, [5, 6, 7], [51, 52, 53, 54, 55]), (9, [5, 6, 7, 8], [51, 52, 53, 54, 55]), (10, [0, 1, 2, 3, 4, 5, 6, 7, 8, 9], []), (11, [0, 1, 2, 3, 4, 5, 6, 7, 8, 9, 10], [])] mixed (by kernel_rfl) ?_
          repeat' first | refine wr (by omega) ?_ | refine ln ?_ | refine stp lay_ok rfl ?_ | refine fin ?_ | refine n_thn ?_ | refine n_blk ?_ | refine e_thn ?_ | refine e_hit ?_ | refine e_miss rfl ?_ | refine r_thn ?_ | refine r_blk ?_ | refine e_rr ?_ | refine r_rr ?_ | refine e_cr ?_ | refine r_cr ?_ | refine .seq ?_ | refine reg ?_ | refine .block ?_ | refine .skip ?_ | refine .ret ?_ | refine .exit ?_ | refine cndT rfl ?_ | refine cndF rfl ?_ | refine c_dec rfl (fun hc => ?_) (fun hc => ?_) | refine c_ndec rfl (fun hc => ?_) (fun hc => ?_) | refine cnd rfl (fun hc => ?_) (fun hc => ?_) | ((first | refine o_none rfl ?_ | refine o_none_ ?_ | refine o_yes rfl rfl rfl ?_ | refine o_yes_ rfl rfl ?_); first | refine st_index (rowF ⟨p, z⟩) lay_ok rfl rfl rfl rfl (by omega) hat ?_ | refine st_index (rowF ⟨p', z'⟩) lay_ok rfl rfl rfl rfl (by omega) hatj ?_ | refine st_pure (hcl) b37 rfl rfl rfl rfl ?_) | refine gd rfl rfl rfl (fun hg => ?_) (fun hg => ?_) | refine gn rfl rfl rfl (fun hg => ?_) (fun hg => ?_) | refine dwr (by omega) ?_ | refine dwl ?_ | refine dws lay_ok rfl rfl rfl rfl rfl rfl rfl ?_ | refine dwu lay_ok rfl rfl rfl rfl rfl rfl rfl rfl rfl ?_ | refine dw_end ?_ | refine dw_skip rfl rfl rfl ?_ | refine dwn lay_ok rfl rfl rfl rfl rfl ?_ | refine dwb rfl rfl rfl rfl rfl (by (first | refine st_index (rowF ⟨p, z⟩) lay_ok rfl rfl rfl rfl (by omega) hat ?_ | refine st_index (rowF ⟨p', z'⟩) lay_ok rfl rfl rfl rfl (by omega) hatj ?_ | refine st_pure (hcl) b37 rfl rfl rfl rfl ?_); exact fin rfl) rfl rfl ?_ | refine dwg rfl rfl rfl rfl rfl (by (first | refine st_index (rowF ⟨p, z⟩) lay_ok rfl rfl rfl rfl (by omega) hat ?_ | refine st_index (rowF ⟨p', z'⟩) lay_ok rfl rfl rfl rfl (by omega) hatj ?_ | refine st_pure (hcl) b37 rfl rfl rfl rfl ?_); exact fin rfl) rfl rfl rfl rfl rfl ?_ | refine dw_dec rfl rfl rfl (fun hg => ?_) (fun hg => ?_) | refine dw_ndec rfl rfl rfl (fun hg => ?_) (fun hg => ?_)
          refine f_r [] rfl trivial rfl ⟨?_, rfl⟩
          rfl
      have hjk : j = k := by omega
      subst hjk
      rw [show fileC l j ⟨p, z⟩ = none by simp only [fileC, hpo, if_true, if_neg hz, q2]; rfl] at hst
      have hsp := refSplitC_ok c hok z (by omega)
      clear hpa hmay
      repeat' first | refine wr (by omega) ?_ | refine ln ?_ | refine stp lay_ok rfl ?_ | refine fin ?_ | refine n_thn ?_ | refine n_blk ?_ | refine e_thn ?_ | refine e_hit ?_ | refine e_miss rfl ?_ | refine r_thn ?_ | refine r_blk ?_ | refine e_rr ?_ | refine r_rr ?_ | refine e_cr ?_ | refine r_cr ?_ | refine .seq ?_ | refine reg ?_ | refine .block ?_ | refine .skip ?_ | refine .ret ?_ | refine .exit ?_ | refine cndT rfl ?_ | refine cndF rfl ?_ | refine c_dec rfl (fun hc => ?_) (fun hc => ?_) | refine c_ndec rfl (fun hc => ?_) (fun hc => ?_) | refine cnd rfl (fun hc => ?_) (fun hc => ?_) | refine gd rfl rfl rfl (fun hg => ?_) (fun hg => ?_) | refine gn rfl rfl rfl (fun hg => ?_) (fun hg => ?_) | refine dwr (by omega) ?_ | refine dwl ?_ | refine dws lay_ok rfl rfl rfl rfl rfl rfl rfl ?_ | refine dwu lay_ok rfl rfl rfl rfl rfl rfl rfl rfl rfl ?_ | refine dw_end ?_ | refine dw_skip rfl rfl rfl ?_ | refine dwn lay_ok rfl rfl rfl rfl rfl ?_ | refine dw_dec rfl rfl rfl (fun hg => ?_) (fun hg => ?_) | refine dw_ndec rfl rfl rfl (fun hg => ?_) (fun hg => ?_)
      all_goals first
        | (exfalso; omega)
        | skip
      have hap : rA d ++ [rowE (fileE c ⟨p, z⟩)] = rA (d.push (fileE c ⟨p, z⟩)) := by
        show _ = (d.push (fileE c ⟨p, z⟩)).toList.map rowE
        rw [Array.toList_push, List.map_append]; rfl
      have hal : (rA d ++ [rowE (fileE c ⟨p, z⟩)]).length = d.size + 1 := by rw [List.length_append, hmd]; rfl
      refine dreg [(0, [], [65, 69, 70, 71, 72, 73, 74, 75, 76, 77, 78, 79, 80, 81, 13]), (1, [], [64, 69, 70, 71, 72, 73, 74, 75, 76, 77, 78, 79, 80, 81, 13]), (2, [0, 1], [69, 70, 71, 72, 73, 74, 75, 76, 77, 78, 79, 80, 81, 13]), (3, [0, 1, 2], [69, 70, 71, 72, 73, 74, 75, 76, 77, 78, 79, 80, 81, 13]), (4, [0, 1, 2, 3], [69, 70, 71, 72, 73, 74, 75, 76, 77, 78, 79, 80, 81, 13]), (5, [], [64, 65, 66, 67, 68, 70, 75, 76, 77, 78, 79, 80, 81, 13]), (6, [], [64, 65, 66, 67, 68, 69, 75, 76, 77, 78, 79, 80, 81, 13]), (7, [5, 6], [64, 65, 66, 67, 68, 75, 76, 77, 78, 79, 80, 81, 13]), (8, [5, 6, 7], [64, 65, 66, 67, 68, 75, 76, 77, 78, 79, 80, 81, 13]), (9, [5, 6, 7, 8], [64, 65, 66, 67, 68, 75, 76, 77, 78, 79, 80, 81, 13]), (10, [5, 6, 7, 8, 9], [64, 65, 66, 67, 68, 75, 76, 77, 78, 79, 80, 81, 13]), (11, [], [64, 65, 66, 67, 68, 69, 70, 71, 72, 73, 74, 76, 80, 13]), (12, [], [64, 65, 66, 67, 68, 69, 70, 71, 72, 73, 74, 75, 80, 13]), (13, [11, 12], [64, 65, 66, 67, 68, 69, 70, 71, 72, 73, 74, 80, 13]), (14, [11, 12, 13], [64, 65, 66, 67, 68, 69, 70, 71, 72, 73, 74, 80, 13]), (15, [11, 12, 13, 14], [64, 65, 66, 67, 68, 69, 70, 71, 72, 73, 74, 80, 13]), (16, [], [64, 65, 66, 67, 68, 69, 70, 71, 72, 73, 74, 75, 76, 77, 78, 79, 13]), (17, [11, 12, 13, 14, 15, 16], [64, 65, 66, 67, 68, 69, 70, 71, 72, 73, 74, 13]), (18, [0, 1, 2, 3, 4, 5, 6, 7, 8, 9, 10, 11, 12, 13, 14, 15, 16, 17], [13]), (19, [], [64, 65, 66, 67, 68, 69, 70, 71, 72, 73, 74, 75, 76, 77, 78, 79, 80, 81, 82]), (20, [0, 1, 2, 3, 4, 5, 6, 7, 8, 9, 10, 11, 12, 13, 14, 15, 16, 17, 18, 19], [])] mixed (by kernel_rfl) ?_
      repeat' first | refine wr (by omega) ?_ | refine ln ?_ | refine stp lay_ok rfl ?_ | refine fin ?_ | refine n_thn ?_ | refine n_blk ?_ | refine e_thn ?_ | refine e_hit ?_ | refine e_miss rfl ?_ | refine r_thn ?_ | refine r_blk ?_ | refine e_rr ?_ | refine r_rr ?_ | refine e_cr ?_ | refine r_cr ?_ | refine .seq ?_ | refine reg ?_ | refine .block ?_ | refine .skip ?_ | refine .ret ?_ | refine .exit ?_ | refine cndT rfl ?_ | refine cndF rfl ?_ | refine c_dec rfl (fun hc => ?_) (fun hc => ?_) | refine c_ndec rfl (fun hc => ?_) (fun hc => ?_) | refine cnd rfl (fun hc => ?_) (fun hc => ?_) | ((first | refine o_none rfl ?_ | refine o_none_ ?_ | refine o_yes rfl rfl rfl ?_ | refine o_yes_ rfl rfl ?_); first | refine st_index (rowF ⟨p, z⟩) lay_ok rfl rfl rfl rfl (by omega) hat ?_ | refine st_pure (hsp) b38 rfl rfl rfl rfl ?_ | refine st_append lay_ok rfl rfl rfl rfl rfl rfl rfl rfl (.lsl rfl rfl) (.sl (rows := [rowE (fileE c ⟨p, z⟩)])) rfl (rowE1_one (fileE c ⟨p, z⟩)) (by simp only [List.length_cons, List.length_nil]; omega) (by simp only [List.length_cons, List.length_nil]; omega) ?_) | refine gd rfl rfl rfl (fun hg => ?_) (fun hg => ?_) | refine gn rfl rfl rfl (fun hg => ?_) (fun hg => ?_) | refine dwr (by omega) ?_ | refine dwl ?_ | refine dws lay_ok rfl rfl rfl rfl rfl rfl rfl ?_ | refine dwu lay_ok rfl rfl rfl rfl rfl rfl rfl rfl rfl ?_ | refine dw_end ?_ | refine dw_skip rfl rfl rfl ?_ | refine dwn lay_ok rfl rfl rfl rfl rfl ?_ | refine dwb rfl rfl rfl rfl rfl (by (first | refine st_index (rowF ⟨p, z⟩) lay_ok rfl rfl rfl rfl (by omega) hat ?_ | refine st_pure (hsp) b38 rfl rfl rfl rfl ?_ | refine st_append lay_ok rfl rfl rfl rfl rfl rfl rfl rfl (.lsl rfl rfl) (.sl (rows := [rowE (fileE c ⟨p, z⟩)])) rfl (rowE1_one (fileE c ⟨p, z⟩)) (by simp only [List.length_cons, List.length_nil]; omega) (by simp only [List.length_cons, List.length_nil]; omega) ?_); exact fin rfl) rfl rfl ?_ | refine dwg rfl rfl rfl rfl rfl (by (first | refine st_index (rowF ⟨p, z⟩) lay_ok rfl rfl rfl rfl (by omega) hat ?_ | refine st_pure (hsp) b38 rfl rfl rfl rfl ?_ | refine st_append lay_ok rfl rfl rfl rfl rfl rfl rfl rfl (.lsl rfl rfl) (.sl (rows := [rowE (fileE c ⟨p, z⟩)])) rfl (rowE1_one (fileE c ⟨p, z⟩)) (by simp only [List.length_cons, List.length_nil]; omega) (by simp only [List.length_cons, List.length_nil]; omega) ?_); exact fin rfl) rfl rfl rfl rfl rfl ?_ | refine dw_dec rfl rfl rfl (fun hg => ?_) (fun hg => ?_) | refine dw_ndec rfl rfl rfl (fun hg => ?_) (fun hg => ?_)
      rw [hal, hap]
      generalize hx : d.push (fileE c ⟨p, z⟩) = d1 at *
      have hd1 : d1.size = d.size + 1 := by rw [← hx]; simp
      generalize hKK : insE d (fileE c ⟨p, z⟩) = KK
      refine lpR (fun (m, d2) => d2.size = d1.size ∧ m ≤ d.size ∧ KK = Sort.insInner (ltC cmE) 0 m d2) (fun (m, d2) => m) (fun (m, d2) => [(14, I m)]) (fun (m, d2) => [(4, .arr 3 (rA d2))]) ((d.size, d1)) [0, 3, 8, 9] [4] [] rfl rfl rfl (.of [] (by (repeat' first | exact trivial | refine And.intro ?_ ?_ | rfl | exact congrArg (fun z : Int => some (AV.st (.int .i64 z))) (show ((d.size + 1 : Nat) : Int) - 1 = ((d.size : Nat) : Int) by omega)); first | done | fail) (by (repeat' first | exact trivial | refine And.intro ?_ ?_ | rfl | exact congrArg (fun z : Int => some (AV.st (.int .i64 z))) (show ((d.size + 1 : Nat) : Int) - 1 = ((d.size : Nat) : Int) by omega)); first | done | fail) rfl) ?_ ?_
      · exact ⟨rfl, Nat.le_refl _, by rw [← hKK, ← hx]; rfl⟩
      rintro ⟨m, d2⟩ ⟨w1, w2, w3⟩
      refine nrm rfl rfl ?_
      have hmd2 : (rA d2).length = d2.size := rA_len d2
      have hif := ins_facts d (fileE c ⟨p, z⟩) g5
      rw [hKK] at hif
      by_cases hm0 : 0 < m
      case neg =>
        have hm00 : m = 0 := by omega
        subst hm00
        rw [Sort.insInner] at w3
        subst w3
        repeat' first | refine wr (by omega) ?_ | refine ln ?_ | refine stp lay_ok rfl ?_ | refine fin ?_ | refine n_thn ?_ | refine n_blk ?_ | refine e_thn ?_ | refine e_hit ?_ | refine e_miss rfl ?_ | refine r_thn ?_ | refine r_blk ?_ | refine e_rr ?_ | refine r_rr ?_ | refine e_cr ?_ | refine r_cr ?_ | refine .seq ?_ | refine reg ?_ | refine .block ?_ | refine .skip ?_ | refine .ret ?_ | refine .exit ?_ | refine cndT rfl ?_ | refine cndF rfl ?_ | refine c_dec rfl (fun hc => ?_) (fun hc => ?_) | refine c_ndec rfl (fun hc => ?_) (fun hc => ?_) | refine cnd rfl (fun hc => ?_) (fun hc => ?_) | refine gd rfl rfl rfl (fun hg => ?_) (fun hg => ?_) | refine gn rfl rfl rfl (fun hg => ?_) (fun hg => ?_) | refine dwr (by omega) ?_ | refine dwl ?_ | refine dws lay_ok rfl rfl rfl rfl rfl rfl rfl ?_ | refine dwu lay_ok rfl rfl rfl rfl rfl rfl rfl rfl rfl ?_ | refine dw_end ?_ | refine dw_skip rfl rfl rfl ?_ | refine dwn lay_ok rfl rfl rfl rfl rfl ?_ | refine dw_dec rfl rfl rfl (fun hg => ?_) (fun hg => ?_) | refine dw_ndec rfl rfl rfl (fun hg => ?_) (fun hg => ?_)
        all_goals first
          | (exfalso; omega)
          | skip
        refine dreg [(0, [], []), (1, [0], []), (2, [0, 1], []), (3, [0, 1, 2], [94, 98, 99, 100, 101, 102, 103]), (4, [0, 1, 2], [93, 98, 99, 100, 101, 102, 103]), (5, [0, 1, 2, 3, 4], [98, 99, 100, 101, 102, 103]), (6, [0, 1, 2, 3, 4, 5], [98, 99, 100, 101, 102, 103]), (7, [0, 1, 2, 3, 4, 5, 6], [98, 99, 100, 101, 102, 103]), (8, [0, 1, 2], [93, 94, 95, 96, 97, 99, 100]), (9, [0, 1, 2], [93, 94, 95, 96, 97, 98]), (10, [0, 1, 2, 9], [93, 94, 95, 96, 97, 98]), (11, [0, 1, 2, 8, 9, 10], [93, 94, 95, 96, 97]), (12, [0, 1, 2, 8, 9, 10, 11], [93, 94, 95, 96, 97]), (13, [0, 1, 2, 8, 9, 10, 11, 12], [93, 94, 95, 96, 97]), (14, [0, 1, 2, 3, 4, 5, 6, 7, 8, 9, 10, 11, 12, 13], []), (15, [0, 1, 2, 3, 4, 5, 6, 7, 8, 9, 10, 11, 12, 13, 14], [])] mixed (by kernel_rfl) ?_
        repeat' first | refine wr (by omega) ?_ | refine ln ?_ | refine stp lay_ok rfl ?_ | refine fin ?_ | refine n_thn ?_ | refine n_blk ?_ | refine e_thn ?_ | refine e_hit ?_ | refine e_miss rfl ?_ | refine r_thn ?_ | refine r_blk ?_ | refine e_rr ?_ | refine r_rr ?_ | refine e_cr ?_ | refine r_cr ?_ | refine .seq ?_ | refine reg ?_ | refine .block ?_ | refine .skip ?_ | refine .ret ?_ | refine .exit ?_ | refine cndT rfl ?_ | refine cndF rfl ?_ | refine c_dec rfl (fun hc => ?_) (fun hc => ?_) | refine c_ndec rfl (fun hc => ?_) (fun hc => ?_) | refine cnd rfl (fun hc => ?_) (fun hc => ?_) | refine gd rfl rfl rfl (fun hg => ?_) (fun hg => ?_) | refine gn rfl rfl rfl (fun hg => ?_) (fun hg => ?_) | refine dwr (by omega) ?_ | refine dwl ?_ | refine dws lay_ok rfl rfl rfl rfl rfl rfl rfl ?_ | refine dwu lay_ok rfl rfl rfl rfl rfl rfl rfl rfl rfl ?_ | refine dw_end ?_ | refine dw_skip rfl rfl rfl ?_ | refine dwn lay_ok rfl rfl rfl rfl rfl ?_ | refine dw_dec rfl rfl rfl (fun hg => ?_) (fun hg => ?_) | refine dw_ndec rfl rfl rfl (fun hg => ?_) (fun hg => ?_)
        all_goals first
          | (exfalso; omega)
          | skip
        refine n_rr ((j + 1, KK)) ?_ (.of [4] (by (repeat' first | exact trivial | refine And.intro ?_ ?_ | rfl | exact congrArg (fun n : Nat => some (AV.lsl 4 3 0 n)) (show d.size + 1 = (rA KK).length by rw [rA_len, hif.1])); first | done | fail) (by (repeat' first | exact trivial | refine And.intro ?_ ?_ | rfl | exact congrArg (fun n : Nat => some (AV.lsl 4 3 0 n)) (show d.size + 1 = (rA KK).length by rw [rA_len, hif.1])); first | done | fail) rfl) ?_
        · show l.length - (j + 1) < l.length - j; omega
        · exact ⟨hk, g2.trans hst, by rw [htk, List.foldl_append, ← g3]; exact hKK.symm, by rw [hif.1, g4], by rw [hif.1]; exact hif.2.2⟩
      obtain ⟨m', rfl⟩ : ∃ m', m = m' + 1 := ⟨m - 1, by omega⟩
      have hj1 : m' + 1 < d2.size := by omega
      have hat1 := rA_at (d := d2) (i := ((m' + 1 : Nat) : Int)) (k := m' + 1) rfl hj1
      have hat2 := rA_at (d := d2) (i := ((m' + 1 : Nat) : Int) - 1) (k := m') (by omega) (by omega)
      have hst2 := rA_st2 (d := d2) (i := ((m' + 1 : Nat) : Int)) (j := ((m' + 1 : Nat) : Int) - 1) (p := m' + 1) (q := m') rfl (by omega) (by omega)
      have hfin := rA_swp (d := d2) (i := ((m' + 1 : Nat) : Int)) (j := ((m' + 1 : Nat) : Int) - 1) (p := m' + 1) (q := m') rfl (by omega)
      have hss := swp_size d2 (m' + 1) m'
      rw [Sort.insInner] at w3
      generalize d2[m' + 1]! = x1 at *
      generalize d2[m']! = y1 at *
      rw [cmE_str] at w3
      obtain ⟨p1, z1, k1⟩ := x1
      obtain ⟨p2, z2, k2⟩ := y1
      simp only at w3
      cases hl2 : strLt p1 p2 <;> rw [hl2] at w3
      · rw [if_neg (by simp)] at w3
        subst w3
        repeat' first | refine wr (by omega) ?_ | refine ln ?_ | refine stp lay_ok rfl ?_ | refine fin ?_ | refine n_thn ?_ | refine n_blk ?_ | refine e_thn ?_ | refine e_hit ?_ | refine e_miss rfl ?_ | refine r_thn ?_ | refine r_blk ?_ | refine e_rr ?_ | refine r_rr ?_ | refine e_cr ?_ | refine r_cr ?_ | refine .seq ?_ | refine reg ?_ | refine .block ?_ | refine .skip ?_ | refine .ret ?_ | refine .exit ?_ | refine cndT rfl ?_ | refine cndF rfl ?_ | refine c_dec rfl (fun hc => ?_) (fun hc => ?_) | refine c_ndec rfl (fun hc => ?_) (fun hc => ?_) | refine cnd rfl (fun hc => ?_) (fun hc => ?_) | refine gd rfl rfl rfl (fun hg => ?_) (fun hg => ?_) | refine gn rfl rfl rfl (fun hg => ?_) (fun hg => ?_) | refine dwr (by omega) ?_ | refine dwl ?_ | refine dws lay_ok rfl rfl rfl rfl rfl rfl rfl ?_ | refine dwu lay_ok rfl rfl rfl rfl rfl rfl rfl rfl rfl ?_ | refine dw_end ?_ | refine dw_skip rfl rfl rfl ?_ | refine dwn lay_ok rfl rfl rfl rfl rfl ?_ | refine dw_dec rfl rfl rfl (fun hg => ?_) (fun hg => ?_) | refine dw_ndec rfl rfl rfl (fun hg => ?_) (fun hg => ?_)
        all_goals first
          | (exfalso; omega)
          | skip
        refine dreg [(0, [], []), (1, [0], []), (2, [0, 1], []), (3, [0, 1, 2], [94, 98, 99, 100, 101, 102, 103]), (4, [0, 1, 2], [93, 98, 99, 100, 101, 102, 103]), (5, [0, 1, 2, 3, 4], [98, 99, 100, 101, 102, 103]), (6, [0, 1, 2, 3, 4, 5], [98, 99, 100, 101, 102, 103]), (7, [0, 1, 2, 3, 4, 5, 6], [98, 99, 100, 101, 102, 103]), (8, [0, 1, 2], [93, 94, 95, 96, 97, 99, 100]), (9, [0, 1, 2], [93, 94, 95, 96, 97, 98]), (10, [0, 1, 2, 9], [93, 94, 95, 96, 97, 98]), (11, [0, 1, 2, 8, 9, 10], [93, 94, 95, 96, 97]), (12, [0, 1, 2, 8, 9, 10, 11], [93, 94, 95, 96, 97]), (13, [0, 1, 2, 8, 9, 10, 11, 12], [93, 94, 95, 96, 97]), (14, [0, 1, 2, 3, 4, 5, 6, 7, 8, 9, 10, 11, 12, 13], []), (15, [0, 1, 2, 3, 4, 5, 6, 7, 8, 9, 10, 11, 12, 13, 14], [])] mixed (by kernel_rfl) ?_
        repeat' first | refine wr (by omega) ?_ | refine ln ?_ | refine stp lay_ok rfl ?_ | refine fin ?_ | refine n_thn ?_ | refine n_blk ?_ | refine e_thn ?_ | refine e_hit ?_ | refine e_miss rfl ?_ | refine r_thn ?_ | refine r_blk ?_ | refine e_rr ?_ | refine r_rr ?_ | refine e_cr ?_ | refine r_cr ?_ | refine .seq ?_ | refine reg ?_ | refine .block ?_ | refine .skip ?_ | refine .ret ?_ | refine .exit ?_ | refine cndT rfl ?_ | refine cndF rfl ?_ | refine c_dec rfl (fun hc => ?_) (fun hc => ?_) | refine c_ndec rfl (fun hc => ?_) (fun hc => ?_) | refine cnd rfl (fun hc => ?_) (fun hc => ?_) | ((first | refine o_none rfl ?_ | refine o_none_ ?_ | refine o_yes rfl rfl rfl ?_ | refine o_yes_ rfl rfl ?_); first | refine st_indexL lay_ok rfl rfl rfl rfl (by omega) (by omega) ?_ | refine st_loadE (rowE ⟨p1, z1, k1⟩) lay_ok rfl rfl rfl hat1 rfl rfl rfl ?_ | refine st_loadE (rowE ⟨p2, z2, k2⟩) lay_ok rfl rfl rfl hat2 rfl rfl rfl ?_) | refine gd rfl rfl rfl (fun hg => ?_) (fun hg => ?_) | refine gn rfl rfl rfl (fun hg => ?_) (fun hg => ?_) | refine dwr (by omega) ?_ | refine dwl ?_ | refine dws lay_ok rfl rfl rfl rfl rfl rfl rfl ?_ | refine dwu lay_ok rfl rfl rfl rfl rfl rfl rfl rfl rfl ?_ | refine dw_end ?_ | refine dw_skip rfl rfl rfl ?_ | refine dwn lay_ok rfl rfl rfl rfl rfl ?_ | refine dwb rfl rfl rfl rfl rfl (by (first | refine st_indexL lay_ok rfl rfl rfl rfl (by omega) (by omega) ?_ | refine st_loadE (rowE ⟨p1, z1, k1⟩) lay_ok rfl rfl rfl hat1 rfl rfl rfl ?_ | refine st_loadE (rowE ⟨p2, z2, k2⟩) lay_ok rfl rfl rfl hat2 rfl rfl rfl ?_); exact fin rfl) rfl rfl ?_ | refine dwg rfl rfl rfl rfl rfl (by (first | refine st_indexL lay_ok rfl rfl rfl rfl (by omega) (by omega) ?_ | refine st_loadE (rowE ⟨p1, z1, k1⟩) lay_ok rfl rfl rfl hat1 rfl rfl rfl ?_ | refine st_loadE (rowE ⟨p2, z2, k2⟩) lay_ok rfl rfl rfl hat2 rfl rfl rfl ?_); exact fin rfl) rfl rfl rfl rfl rfl ?_ | refine dw_dec rfl rfl rfl (fun hg => ?_) (fun hg => ?_) | refine dw_ndec rfl rfl rfl (fun hg => ?_) (fun hg => ?_)
        all_goals first
          | (exfalso; omega)
          | (exfalso; rw [hl2] at *; contradiction)
          | skip
        refine n_rr ((j + 1, KK)) ?_ (.of [4] (by (repeat' first | exact trivial | refine And.intro ?_ ?_ | rfl | exact congrArg (fun n : Nat => some (AV.lsl 4 3 0 n)) (show d.size + 1 = (rA KK).length by rw [rA_len, hif.1])); first | done | fail) (by (repeat' first | exact trivial | refine And.intro ?_ ?_ | rfl | exact congrArg (fun n : Nat => some (AV.lsl 4 3 0 n)) (show d.size + 1 = (rA KK).length by rw [rA_len, hif.1])); first | done | fail) rfl) ?_
        · show l.length - (j + 1) < l.length - j; omega
        · exact ⟨hk, g2.trans hst, by rw [htk, List.foldl_append, ← g3]; exact hKK.symm, by rw [hif.1, g4], by rw [hif.1]; exact hif.2.2⟩
      · rw [if_pos (by simp)] at w3
        repeat' first | refine wr (by omega) ?_ | refine ln ?_ | refine stp lay_ok rfl ?_ | refine fin ?_ | refine n_thn ?_ | refine n_blk ?_ | refine e_thn ?_ | refine e_hit ?_ | refine e_miss rfl ?_ | refine r_thn ?_ | refine r_blk ?_ | refine e_rr ?_ | refine r_rr ?_ | refine e_cr ?_ | refine r_cr ?_ | refine .seq ?_ | refine reg ?_ | refine .block ?_ | refine .skip ?_ | refine .ret ?_ | refine .exit ?_ | refine cndT rfl ?_ | refine cndF rfl ?_ | refine c_dec rfl (fun hc => ?_) (fun hc => ?_) | refine c_ndec rfl (fun hc => ?_) (fun hc => ?_) | refine cnd rfl (fun hc => ?_) (fun hc => ?_) | refine gd rfl rfl rfl (fun hg => ?_) (fun hg => ?_) | refine gn rfl rfl rfl (fun hg => ?_) (fun hg => ?_) | refine dwr (by omega) ?_ | refine dwl ?_ | refine dws lay_ok rfl rfl rfl rfl rfl rfl rfl ?_ | refine dwu lay_ok rfl rfl rfl rfl rfl rfl rfl rfl rfl ?_ | refine dw_end ?_ | refine dw_skip rfl rfl rfl ?_ | refine dwn lay_ok rfl rfl rfl rfl rfl ?_ | refine dw_dec rfl rfl rfl (fun hg => ?_) (fun hg => ?_) | refine dw_ndec rfl rfl rfl (fun hg => ?_) (fun hg => ?_)
        all_goals first
          | (exfalso; omega)
          | skip
        refine dreg [(0, [], []), (1, [0], []), (2, [0, 1], []), (3, [0, 1, 2], [94, 98, 99, 100, 101, 102, 103]), (4, [0, 1, 2], [93, 98, 99, 100, 101, 102, 103]), (5, [0, 1, 2, 3, 4], [98, 99, 100, 101, 102, 103]), (6, [0, 1, 2, 3, 4, 5], [98, 99, 100, 101, 102, 103]), (7, [0, 1, 2, 3, 4, 5, 6], [98, 99, 100, 101, 102, 103]), (8, [0, 1, 2], [93, 94, 95, 96, 97, 99, 100]), (9, [0, 1, 2], [93, 94, 95, 96, 97, 98]), (10, [0, 1, 2, 9], [93, 94, 95, 96, 97, 98]), (11, [0, 1, 2, 8, 9, 10], [93, 94, 95, 96, 97]), (12, [0, 1, 2, 8, 9, 10, 11], [93, 94, 95, 96, 97]), (13, [0, 1, 2, 8, 9, 10, 11, 12], [93, 94, 95, 96, 97]), (14, [0, 1, 2, 3, 4, 5, 6, 7, 8, 9, 10, 11, 12, 13], []), (15, [0, 1, 2, 3, 4, 5, 6, 7, 8, 9, 10, 11, 12, 13, 14], [])] mixed (by kernel_rfl) ?_
        repeat' first | refine wr (by omega) ?_ | refine ln ?_ | refine stp lay_ok rfl ?_ | refine fin ?_ | refine n_thn ?_ | refine n_blk ?_ | refine e_thn ?_ | refine e_hit ?_ | refine e_miss rfl ?_ | refine r_thn ?_ | refine r_blk ?_ | refine e_rr ?_ | refine r_rr ?_ | refine e_cr ?_ | refine r_cr ?_ | refine .seq ?_ | refine reg ?_ | refine .block ?_ | refine .skip ?_ | refine .ret ?_ | refine .exit ?_ | refine cndT rfl ?_ | refine cndF rfl ?_ | refine c_dec rfl (fun hc => ?_) (fun hc => ?_) | refine c_ndec rfl (fun hc => ?_) (fun hc => ?_) | refine cnd rfl (fun hc => ?_) (fun hc => ?_) | ((first | refine o_none rfl ?_ | refine o_none_ ?_ | refine o_yes rfl rfl rfl ?_ | refine o_yes_ rfl rfl ?_); first | refine st_indexL lay_ok rfl rfl rfl rfl (by omega) (by omega) ?_ | refine st_loadE (rowE ⟨p1, z1, k1⟩) lay_ok rfl rfl rfl hat1 rfl rfl rfl ?_ | refine st_loadE (rowE ⟨p2, z2, k2⟩) lay_ok rfl rfl rfl hat2 rfl rfl rfl ?_) | refine o_none_ (st_storeE lay_ok rfl rfl rfl hat1 rfl rfl rfl rfl ?_) | refine o_none_ (st_storeE lay_ok rfl rfl rfl hst2 rfl rfl rfl rfl ?_) | refine gd rfl rfl rfl (fun hg => ?_) (fun hg => ?_) | refine gn rfl rfl rfl (fun hg => ?_) (fun hg => ?_) | refine dwr (by omega) ?_ | refine dwl ?_ | refine dws lay_ok rfl rfl rfl rfl rfl rfl rfl ?_ | refine dwu lay_ok rfl rfl rfl rfl rfl rfl rfl rfl rfl ?_ | refine dw_end ?_ | refine dw_skip rfl rfl rfl ?_ | refine dwn lay_ok rfl rfl rfl rfl rfl ?_ | refine dwb rfl rfl rfl rfl rfl (by (first | refine st_indexL lay_ok rfl rfl rfl rfl (by omega) (by omega) ?_ | refine st_loadE (rowE ⟨p1, z1, k1⟩) lay_ok rfl rfl rfl hat1 rfl rfl rfl ?_ | refine st_loadE (rowE ⟨p2, z2, k2⟩) lay_ok rfl rfl rfl hat2 rfl rfl rfl ?_); exact fin rfl) rfl rfl ?_ | refine dwg rfl rfl rfl rfl rfl (by (first | refine st_indexL lay_ok rfl rfl rfl rfl (by omega) (by omega) ?_ | refine st_loadE (rowE ⟨p1, z1, k1⟩) lay_ok rfl rfl rfl hat1 rfl rfl rfl ?_ | refine st_loadE (rowE ⟨p2, z2, k2⟩) lay_ok rfl rfl rfl hat2 rfl rfl rfl ?_); exact fin rfl) rfl rfl rfl rfl rfl ?_ | refine dwv rfl rfl rfl rfl (by refine st_storeE lay_ok rfl rfl rfl hat1 rfl rfl rfl rfl ?_; exact fin rfl) rfl rfl rfl rfl ?_ | refine dwv rfl rfl rfl rfl (by refine st_storeE lay_ok rfl rfl rfl hst2 rfl rfl rfl rfl ?_; exact fin rfl) rfl rfl rfl rfl ?_ | refine dw_dec rfl rfl rfl (fun hg => ?_) (fun hg => ?_) | refine dw_ndec rfl rfl rfl (fun hg => ?_) (fun hg => ?_)
        all_goals first
          | (exfalso; omega)
          | (exfalso; rw [hl2] at *; contradiction)
          | skip
        refine n_rr ((m', Sort.swp d2 (m' + 1) m')) ?_ (.of [4] (by (repeat' first | exact trivial | refine And.intro ?_ ?_ | rfl | exact congrArg (fun r => some (AO.arr 3 r)) hfin | exact congrArg (fun z : Int => some (AV.st (.int .i64 z))) (show ((m' + 1 : Nat) : Int) - 1 = (m' : Int) by omega)); first | done | fail) (by (repeat' first | exact trivial | refine And.intro ?_ ?_ | rfl | exact congrArg (fun r => some (AO.arr 3 r)) hfin | exact congrArg (fun z : Int => some (AV.st (.int .i64 z))) (show ((m' + 1 : Nat) : Int) - 1 = (m' : Int) by omega)); first | done | fail) rfl) ?_
        · exact Nat.lt_succ_self _
        · exact ⟨hss.trans w1, by omega, w3⟩
end Go.Proofs.YtmekcbbieacioaaGreatDoorFn
namespace Go.Proofs.YtmekcbbieacioaaGreatDoorFn
open Go.Proofs.YtmekcbbieacioaaGreatDoorAl Go.Proofs.Tryz
attribute [local irreducible] IntKind.wrap CodeOk OpsL OpG ACalls thn inBlk rndR cutR WkR Wk fnR DW ExtOk partsOf
theorem b22 : HasBody prog 22 := ⟨f22, func22, Option.some_ne_none _, by decide⟩
theorem b21 : HasBody prog 21 := ⟨f21, func21, Option.some_ne_none _, by decide⟩
theorem b15 : HasBody prog 15 := ⟨f15, func15, Option.some_ne_none _, by decide⟩
theorem list_ext {α : Type} {a b : List α} (hl : a.length = b.length) (h : ∀ j (h1 : j < a.length) (h2 : j < b.length), a[j] = b[j]) : a = b := List.ext_getElem hl h
theorem same3_ok (a b : List ByteArray) (ha : a.length ≤ 4000000000) (hb : b.length ≤ 4000000000) : ACalls prog 22 0 [.st (.sl 1 (a.map rowS)), .st (.sl 1 (b.map rowS))] [] fun r h => r = B (decide (a = b)) ∧ h = [] := by
  have hma : (List.map rowS a).length = a.length := List.length_map _
  have hmb : (List.map rowS b).length = b.length := List.length_map _
  refine fnC lay_ok func22 rfl rfl rfl rfl rfl ?_
  repeat' first | refine wr (by omega) ?_ | refine ln ?_ | refine stp lay_ok rfl ?_ | refine fin ?_ | refine n_thn ?_ | refine n_blk ?_ | refine e_thn ?_ | refine e_hit ?_ | refine e_miss rfl ?_ | refine r_thn ?_ | refine r_blk ?_ | refine e_rr ?_ | refine r_rr ?_ | refine e_cr ?_ | refine r_cr ?_ | refine .seq ?_ | refine reg ?_ | refine .block ?_ | refine .skip ?_ | refine .ret ?_ | refine .exit ?_ | refine cndT rfl ?_ | refine cndF rfl ?_ | refine c_dec rfl (fun hc => ?_) (fun hc => ?_) | refine c_ndec rfl (fun hc => ?_) (fun hc => ?_) | refine cnd rfl (fun hc => ?_) (fun hc => ?_) | refine gd rfl rfl rfl (fun hg => ?_) (fun hg => ?_) | refine gn rfl rfl rfl (fun hg => ?_) (fun hg => ?_) | refine dwr (by omega) ?_ | refine dwl ?_ | refine dws lay_ok rfl rfl rfl rfl rfl rfl rfl ?_ | refine dwu lay_ok rfl rfl rfl rfl rfl rfl rfl rfl rfl ?_ | refine dw_end ?_ | refine dw_skip rfl rfl rfl ?_ | refine dwn lay_ok rfl rfl rfl rfl rfl ?_ | refine dw_dec rfl rfl rfl (fun hg => ?_) (fun hg => ?_) | refine dw_ndec rfl rfl rfl (fun hg => ?_) (fun hg => ?_)
  · refine f_r [] rfl trivial rfl ⟨?_, rfl⟩
    rw [decide_eq_false (by rintro rfl; omega)]; rfl
  · have hl : a.length = b.length := by omega
    refine lpR (fun k => k ≤ a.length ∧ ∀ j (h1 : j < a.length) (h2 : j < b.length), j < k → a[j] = b[j]) (fun k => a.length - k) (fun k => [(5, I k)]) (fun k => []) (0) [0, 1] [] [] rfl rfl rfl (.of [] (by (repeat' first | exact trivial | refine And.intro ?_ ?_ | rfl); first | done | fail) (by (repeat' first | exact trivial | refine And.intro ?_ ?_ | rfl); first | done | fail) rfl) ?_ ?_
    · exact ⟨Nat.zero_le _, fun j h1 h2 h3 => by omega⟩
    rintro k ⟨hk, hall⟩
    refine nrm rfl rfl ?_
    repeat' first | refine wr (by omega) ?_ | refine ln ?_ | refine stp lay_ok rfl ?_ | refine fin ?_ | refine n_thn ?_ | refine n_blk ?_ | refine e_thn ?_ | refine e_hit ?_ | refine e_miss rfl ?_ | refine r_thn ?_ | refine r_blk ?_ | refine e_rr ?_ | refine r_rr ?_ | refine e_cr ?_ | refine r_cr ?_ | refine .seq ?_ | refine reg ?_ | refine .block ?_ | refine .skip ?_ | refine .ret ?_ | refine .exit ?_ | refine cndT rfl ?_ | refine cndF rfl ?_ | refine c_dec rfl (fun hc => ?_) (fun hc => ?_) | refine c_ndec rfl (fun hc => ?_) (fun hc => ?_) | refine cnd rfl (fun hc => ?_) (fun hc => ?_) | refine gd rfl rfl rfl (fun hg => ?_) (fun hg => ?_) | refine gn rfl rfl rfl (fun hg => ?_) (fun hg => ?_) | refine dwr (by omega) ?_ | refine dwl ?_ | refine dws lay_ok rfl rfl rfl rfl rfl rfl rfl ?_ | refine dwu lay_ok rfl rfl rfl rfl rfl rfl rfl rfl rfl ?_ | refine dw_end ?_ | refine dw_skip rfl rfl rfl ?_ | refine dwn lay_ok rfl rfl rfl rfl rfl ?_ | refine dw_dec rfl rfl rfl (fun hg => ?_) (fun hg => ?_) | refine dw_ndec rfl rfl rfl (fun hg => ?_) (fun hg => ?_)
    · have hka : k < a.length := by omega
      have hkb : k < b.length := by omega
      have hat := at_rowS hka
      have hbt := at_rowS hkb
      refine dreg [(0, [], [18, 21, 22, 23, 24]), (1, [], [17, 21, 22, 23, 24]), (2, [0, 1], [21, 22, 23, 24]), (3, [0, 1, 2], [21, 22, 23, 24]), (4, [], [17, 18, 19, 20, 22]), (5, [], [17, 18, 19, 20, 21]), (6, [4, 5], [17, 18, 19, 20]), (7, [4, 5, 6], [17, 18, 19, 20]), (8, [0, 1, 2, 3, 4, 5, 6, 7], [])] mixed (by kernel_rfl) ?_
      repeat' first | refine wr (by omega) ?_ | refine ln ?_ | refine stp lay_ok rfl ?_ | refine fin ?_ | refine n_thn ?_ | refine n_blk ?_ | refine e_thn ?_ | refine e_hit ?_ | refine e_miss rfl ?_ | refine r_thn ?_ | refine r_blk ?_ | refine e_rr ?_ | refine r_rr ?_ | refine e_cr ?_ | refine r_cr ?_ | refine .seq ?_ | refine reg ?_ | refine .block ?_ | refine .skip ?_ | refine .ret ?_ | refine .exit ?_ | refine cndT rfl ?_ | refine cndF rfl ?_ | refine c_dec rfl (fun hc => ?_) (fun hc => ?_) | refine c_ndec rfl (fun hc => ?_) (fun hc => ?_) | refine cnd rfl (fun hc => ?_) (fun hc => ?_) | ((first | refine o_none rfl ?_ | refine o_none_ ?_ | refine o_yes rfl rfl rfl ?_ | refine o_yes_ rfl rfl ?_); first | refine st_index (rowS a[k]) lay_ok rfl rfl rfl rfl (by omega) hat ?_ | refine st_index (rowS b[k]) lay_ok rfl rfl rfl rfl (by omega) hbt ?_) | refine gd rfl rfl rfl (fun hg => ?_) (fun hg => ?_) | refine gn rfl rfl rfl (fun hg => ?_) (fun hg => ?_) | refine dwr (by omega) ?_ | refine dwl ?_ | refine dws lay_ok rfl rfl rfl rfl rfl rfl rfl ?_ | refine dwu lay_ok rfl rfl rfl rfl rfl rfl rfl rfl rfl ?_ | refine dw_end ?_ | refine dw_skip rfl rfl rfl ?_ | refine dwn lay_ok rfl rfl rfl rfl rfl ?_ | refine dwb rfl rfl rfl rfl rfl (by (first | refine st_index (rowS a[k]) lay_ok rfl rfl rfl rfl (by omega) hat ?_ | refine st_index (rowS b[k]) lay_ok rfl rfl rfl rfl (by omega) hbt ?_); exact fin rfl) rfl rfl ?_ | refine dwg rfl rfl rfl rfl rfl (by (first | refine st_index (rowS a[k]) lay_ok rfl rfl rfl rfl (by omega) hat ?_ | refine st_index (rowS b[k]) lay_ok rfl rfl rfl rfl (by omega) hbt ?_); exact fin rfl) rfl rfl rfl rfl rfl ?_ | refine dw_dec rfl rfl rfl (fun hg => ?_) (fun hg => ?_) | refine dw_ndec rfl rfl rfl (fun hg => ?_) (fun hg => ?_)
      · refine f_r [] rfl trivial rfl ⟨?_, rfl⟩
        rw [decide_eq_false (fun e => hc (by subst e; rfl))]; rfl
      · refine n_rr (k + 1) ?_ (.of [] (by (repeat' first | exact trivial | refine And.intro ?_ ?_ | rfl); first | done | fail) (by (repeat' first | exact trivial | refine And.intro ?_ ?_ | rfl); first | done | fail) rfl) ?_
        · omega
        · refine ⟨hka, fun j h1 h2 h3 => ?_⟩
          by_cases hj : j = k
          · subst hj; exact Decidable.not_not.1 hc
          · exact hall j h1 h2 (by omega)
    · refine f_r [] rfl trivial rfl ⟨?_, rfl⟩
      rw [decide_eq_true (list_ext hl fun j h1 h2 => hall j h1 h2 (by omega))]; rfl
theorem same4_ok (x y : EV) (ha : x.keys.length ≤ 4000000000) (hb : y.keys.length ≤ 4000000000) : ACalls prog 21 0 [.st (.agg (rowE x)), .st (.agg (rowE y))] [] fun r h => r = B (decide (x = y)) ∧ h = [] := by
  have h1 := same3_ok x.keys y.keys ha hb
  obtain ⟨p, z, ks⟩ := x
  obtain ⟨p', z', ks'⟩ := y
  simp only at *
  refine fnC lay_ok func21 rfl rfl rfl rfl rfl ?_
  repeat' first | refine wr (by omega) ?_ | refine ln ?_ | refine stp lay_ok rfl ?_ | refine fin ?_ | refine n_thn ?_ | refine n_blk ?_ | refine e_thn ?_ | refine e_hit ?_ | refine e_miss rfl ?_ | refine r_thn ?_ | refine r_blk ?_ | refine e_rr ?_ | refine r_rr ?_ | refine e_cr ?_ | refine r_cr ?_ | refine .seq ?_ | refine reg ?_ | refine .block ?_ | refine .skip ?_ | refine .ret ?_ | refine .exit ?_ | refine cndT rfl ?_ | refine cndF rfl ?_ | refine c_dec rfl (fun hc => ?_) (fun hc => ?_) | refine c_ndec rfl (fun hc => ?_) (fun hc => ?_) | refine cnd rfl (fun hc => ?_) (fun hc => ?_) | ((first | refine o_none rfl ?_ | refine o_none_ ?_ | refine o_yes rfl rfl rfl ?_ | refine o_yes_ rfl rfl ?_); first | refine st_pure (h1) b22 rfl rfl rfl rfl ?_) | refine gd rfl rfl rfl (fun hg => ?_) (fun hg => ?_) | refine gn rfl rfl rfl (fun hg => ?_) (fun hg => ?_) | refine dwr (by omega) ?_ | refine dwl ?_ | refine dws lay_ok rfl rfl rfl rfl rfl rfl rfl ?_ | refine dwu lay_ok rfl rfl rfl rfl rfl rfl rfl rfl rfl ?_ | refine dw_end ?_ | refine dw_skip rfl rfl rfl ?_ | refine dwn lay_ok rfl rfl rfl rfl rfl ?_ | refine dwb rfl rfl rfl rfl rfl (by (first | refine st_pure (h1) b22 rfl rfl rfl rfl ?_); exact fin rfl) rfl rfl ?_ | refine dwg rfl rfl rfl rfl rfl (by (first | refine st_pure (h1) b22 rfl rfl rfl rfl ?_); exact fin rfl) rfl rfl rfl rfl rfl ?_ | refine dw_dec rfl rfl rfl (fun hg => ?_) (fun hg => ?_) | refine dw_ndec rfl rfl rfl (fun hg => ?_) (fun hg => ?_)
  all_goals
    refine f_r [] rfl trivial rfl ⟨?_, rfl⟩
    simp_all [retOf, B]
theorem sameAll_ok (a b : List EV) (ha : a.length ≤ 4000000000) (hb : b.length ≤ 4000000000) (ga : ∀ e ∈ a, e.keys.length ≤ 4000000000) (gb : ∀ e ∈ b, e.keys.length ≤ 4000000000) : ACalls prog 15 0 [.st (.sl 3 (a.map rowE)), .st (.sl 3 (b.map rowE))] [] fun r h => r = B (decide (a = b)) ∧ h = [] := by
  have hma : (List.map rowE a).length = a.length := List.length_map _
  have hmb : (List.map rowE b).length = b.length := List.length_map _
  refine fnC lay_ok func15 rfl rfl rfl rfl rfl ?_
  repeat' first | refine wr (by omega) ?_ | refine ln ?_ | refine stp lay_ok rfl ?_ | refine fin ?_ | refine n_thn ?_ | refine n_blk ?_ | refine e_thn ?_ | refine e_hit ?_ | refine e_miss rfl ?_ | refine r_thn ?_ | refine r_blk ?_ | refine e_rr ?_ | refine r_rr ?_ | refine e_cr ?_ | refine r_cr ?_ | refine .seq ?_ | refine reg ?_ | refine .block ?_ | refine .skip ?_ | refine .ret ?_ | refine .exit ?_ | refine cndT rfl ?_ | refine cndF rfl ?_ | refine c_dec rfl (fun hc => ?_) (fun hc => ?_) | refine c_ndec rfl (fun hc => ?_) (fun hc => ?_) | refine cnd rfl (fun hc => ?_) (fun hc => ?_) | refine gd rfl rfl rfl (fun hg => ?_) (fun hg => ?_) | refine gn rfl rfl rfl (fun hg => ?_) (fun hg => ?_) | refine dwr (by omega) ?_ | refine dwl ?_ | refine dws lay_ok rfl rfl rfl rfl rfl rfl rfl ?_ | refine dwu lay_ok rfl rfl rfl rfl rfl rfl rfl rfl rfl ?_ | refine dw_end ?_ | refine dw_skip rfl rfl rfl ?_ | refine dwn lay_ok rfl rfl rfl rfl rfl ?_ | refine dw_dec rfl rfl rfl (fun hg => ?_) (fun hg => ?_) | refine dw_ndec rfl rfl rfl (fun hg => ?_) (fun hg => ?_)
  · refine f_r [] rfl trivial rfl ⟨?_, rfl⟩
    rw [decide_eq_false (by rintro rfl; omega)]; rfl
  · have hl : a.length = b.length := by omega
    refine lpR (fun k => k ≤ a.length ∧ ∀ j (h1 : j < a.length) (h2 : j < b.length), j < k → a[j] = b[j]) (fun k => a.length - k) (fun k => [(5, I k)]) (fun k => []) (0) [0, 1] [] [] rfl rfl rfl (.of [] (by (repeat' first | exact trivial | refine And.intro ?_ ?_ | rfl); first | done | fail) (by (repeat' first | exact trivial | refine And.intro ?_ ?_ | rfl); first | done | fail) rfl) ?_ ?_
    · exact ⟨Nat.zero_le _, fun j h1 h2 h3 => by omega⟩
    rintro k ⟨hk, hall⟩
    refine nrm rfl rfl ?_
    repeat' first | refine wr (by omega) ?_ | refine ln ?_ | refine stp lay_ok rfl ?_ | refine fin ?_ | refine n_thn ?_ | refine n_blk ?_ | refine e_thn ?_ | refine e_hit ?_ | refine e_miss rfl ?_ | refine r_thn ?_ | refine r_blk ?_ | refine e_rr ?_ | refine r_rr ?_ | refine e_cr ?_ | refine r_cr ?_ | refine .seq ?_ | refine reg ?_ | refine .block ?_ | refine .skip ?_ | refine .ret ?_ | refine .exit ?_ | refine cndT rfl ?_ | refine cndF rfl ?_ | refine c_dec rfl (fun hc => ?_) (fun hc => ?_) | refine c_ndec rfl (fun hc => ?_) (fun hc => ?_) | refine cnd rfl (fun hc => ?_) (fun hc => ?_) | refine gd rfl rfl rfl (fun hg => ?_) (fun hg => ?_) | refine gn rfl rfl rfl (fun hg => ?_) (fun hg => ?_) | refine dwr (by omega) ?_ | refine dwl ?_ | refine dws lay_ok rfl rfl rfl rfl rfl rfl rfl ?_ | refine dwu lay_ok rfl rfl rfl rfl rfl rfl rfl rfl rfl ?_ | refine dw_end ?_ | refine dw_skip rfl rfl rfl ?_ | refine dwn lay_ok rfl rfl rfl rfl rfl ?_ | refine dw_dec rfl rfl rfl (fun hg => ?_) (fun hg => ?_) | refine dw_ndec rfl rfl rfl (fun hg => ?_) (fun hg => ?_)
    · have hka : k < a.length := by omega
      have hkb : k < b.length := by omega
      have hat := at_rowE hka
      have hbt := at_rowE hkb
      have h1 := same4_ok a[k] b[k] (ga _ (List.getElem_mem hka)) (gb _ (List.getElem_mem hkb))
      by_cases he : a[k] = b[k]
      · rw [decide_eq_true he] at h1
        refine dreg [(0, [], [18, 21, 22, 23, 24]), (1, [], [17, 21, 22, 23, 24]), (2, [0, 1], [21, 22, 23, 24]), (3, [0, 1, 2], [21, 22, 23, 24]), (4, [], [17, 18, 19, 20, 22]), (5, [], [17, 18, 19, 20, 21]), (6, [4, 5], [17, 18, 19, 20]), (7, [4, 5, 6], [17, 18, 19, 20]), (8, [0, 1, 2, 3, 4, 5, 6, 7], []), (9, [0, 1, 2, 3, 4, 5, 6, 7, 8], [])] mixed (by kernel_rfl) ?_
        repeat' first | refine wr (by omega) ?_ | refine ln ?_ | refine stp lay_ok rfl ?_ | refine fin ?_ | refine n_thn ?_ | refine n_blk ?_ | refine e_thn ?_ | refine e_hit ?_ | refine e_miss rfl ?_ | refine r_thn ?_ | refine r_blk ?_ | refine e_rr ?_ | refine r_rr ?_ | refine e_cr ?_ | refine r_cr ?_ | refine .seq ?_ | refine reg ?_ | refine .block ?_ | refine .skip ?_ | refine .ret ?_ | refine .exit ?_ | refine cndT rfl ?_ | refine cndF rfl ?_ | refine c_dec rfl (fun hc => ?_) (fun hc => ?_) | refine c_ndec rfl (fun hc => ?_) (fun hc => ?_) | refine cnd rfl (fun hc => ?_) (fun hc => ?_) | ((first | refine o_none rfl ?_ | refine o_none_ ?_ | refine o_yes rfl rfl rfl ?_ | refine o_yes_ rfl rfl ?_); first | refine st_index (rowE a[k]) lay_ok rfl rfl rfl rfl (by omega) hat ?_ | refine st_index (rowE b[k]) lay_ok rfl rfl rfl rfl (by omega) hbt ?_ | refine st_pure (h1) b21 rfl rfl rfl rfl ?_) | refine gd rfl rfl rfl (fun hg => ?_) (fun hg => ?_) | refine gn rfl rfl rfl (fun hg => ?_) (fun hg => ?_) | refine dwr (by omega) ?_ | refine dwl ?_ | refine dws lay_ok rfl rfl rfl rfl rfl rfl rfl ?_ | refine dwu lay_ok rfl rfl rfl rfl rfl rfl rfl rfl rfl ?_ | refine dw_end ?_ | refine dw_skip rfl rfl rfl ?_ | refine dwn lay_ok rfl rfl rfl rfl rfl ?_ | refine dwb rfl rfl rfl rfl rfl (by (first | refine st_index (rowE a[k]) lay_ok rfl rfl rfl rfl (by omega) hat ?_ | refine st_index (rowE b[k]) lay_ok rfl rfl rfl rfl (by omega) hbt ?_ | refine st_pure (h1) b21 rfl rfl rfl rfl ?_); exact fin rfl) rfl rfl ?_ | refine dwg rfl rfl rfl rfl rfl (by (first | refine st_index (rowE a[k]) lay_ok rfl rfl rfl rfl (by omega) hat ?_ | refine st_index (rowE b[k]) lay_ok rfl rfl rfl rfl (by omega) hbt ?_ | refine st_pure (h1) b21 rfl rfl rfl rfl ?_); exact fin rfl) rfl rfl rfl rfl rfl ?_ | refine dw_dec rfl rfl rfl (fun hg => ?_) (fun hg => ?_) | refine dw_ndec rfl rfl rfl (fun hg => ?_) (fun hg => ?_)
        refine n_rr (k + 1) ?_ (.of [] (by (repeat' first | exact trivial | refine And.intro ?_ ?_ | rfl); first | done | fail) (by (repeat' first | exact trivial | refine And.intro ?_ ?_ | rfl); first | done | fail) rfl) ?_
        · omega
        · refine ⟨hka, fun j h1 h2 h3 => ?_⟩
          by_cases hj : j = k
          · subst hj; exact he
          · exact hall j h1 h2 (by omega)
      · rw [decide_eq_false he] at h1
        refine dreg [(0, [], [18, 21, 22, 23, 24]), (1, [], [17, 21, 22, 23, 24]), (2, [0, 1], [21, 22, 23, 24]), (3, [0, 1, 2], [21, 22, 23, 24]), (4, [], [17, 18, 19, 20, 22]), (5, [], [17, 18, 19, 20, 21]), (6, [4, 5], [17, 18, 19, 20]), (7, [4, 5, 6], [17, 18, 19, 20]), (8, [0, 1, 2, 3, 4, 5, 6, 7], []), (9, [0, 1, 2, 3, 4, 5, 6, 7, 8], [])] mixed (by kernel_rfl) ?_
        repeat' first | refine wr (by omega) ?_ | refine ln ?_ | refine stp lay_ok rfl ?_ | refine fin ?_ | refine n_thn ?_ | refine n_blk ?_ | refine e_thn ?_ | refine e_hit ?_ | refine e_miss rfl ?_ | refine r_thn ?_ | refine r_blk ?_ | refine e_rr ?_ | refine r_rr ?_ | refine e_cr ?_ | refine r_cr ?_ | refine .seq ?_ | refine reg ?_ | refine .block ?_ | refine .skip ?_ | refine .ret ?_ | refine .exit ?_ | refine cndT rfl ?_ | refine cndF rfl ?_ | refine c_dec rfl (fun hc => ?_) (fun hc => ?_) | refine c_ndec rfl (fun hc => ?_) (fun hc => ?_) | refine cnd rfl (fun hc => ?_) (fun hc => ?_) | ((first | refine o_none rfl ?_ | refine o_none_ ?_ | refine o_yes rfl rfl rfl ?_ | refine o_yes_ rfl rfl ?_); first | refine st_index (rowE a[k]) lay_ok rfl rfl rfl rfl (by omega) hat ?_ | refine st_index (rowE b[k]) lay_ok rfl rfl rfl rfl (by omega) hbt ?_ | refine st_pure (h1) b21 rfl rfl rfl rfl ?_) | refine gd rfl rfl rfl (fun hg => ?_) (fun hg => ?_) | refine gn rfl rfl rfl (fun hg => ?_) (fun hg => ?_) | refine dwr (by omega) ?_ | refine dwl ?_ | refine dws lay_ok rfl rfl rfl rfl rfl rfl rfl ?_ | refine dwu lay_ok rfl rfl rfl rfl rfl rfl rfl rfl rfl ?_ | refine dw_end ?_ | refine dw_skip rfl rfl rfl ?_ | refine dwn lay_ok rfl rfl rfl rfl rfl ?_ | refine dwb rfl rfl rfl rfl rfl (by (first | refine st_index (rowE a[k]) lay_ok rfl rfl rfl rfl (by omega) hat ?_ | refine st_index (rowE b[k]) lay_ok rfl rfl rfl rfl (by omega) hbt ?_ | refine st_pure (h1) b21 rfl rfl rfl rfl ?_); exact fin rfl) rfl rfl ?_ | refine dwg rfl rfl rfl rfl rfl (by (first | refine st_index (rowE a[k]) lay_ok rfl rfl rfl rfl (by omega) hat ?_ | refine st_index (rowE b[k]) lay_ok rfl rfl rfl rfl (by omega) hbt ?_ | refine st_pure (h1) b21 rfl rfl rfl rfl ?_); exact fin rfl) rfl rfl rfl rfl rfl ?_ | refine dw_dec rfl rfl rfl (fun hg => ?_) (fun hg => ?_) | refine dw_ndec rfl rfl rfl (fun hg => ?_) (fun hg => ?_)
        refine f_r [] rfl trivial rfl ⟨?_, rfl⟩
        rw [decide_eq_false (fun e => he (by subst e; rfl))]; rfl
    · refine f_r [] rfl trivial rfl ⟨?_, rfl⟩
      rw [decide_eq_true (list_ext hl fun j h1 h2 => hall j h1 h2 (by omega))]; rfl
end Go.Proofs.YtmekcbbieacioaaGreatDoorFn
namespace Go.Proofs.YtmekcbbieacioaaGreatDoorFn
open Go.Proofs.YtmekcbbieacioaaGreatDoorAl Go.Proofs.Tryz
attribute [local irreducible] IntKind.wrap CodeOk OpsL OpG ACalls thn inBlk rndR cutR WkR Wk fnR DW ExtOk partsOf
theorem b3 : HasBody prog 3 := ⟨f3, func3, Option.some_ne_none _, by decide⟩
theorem fileC_nat {l : List FV} {i : Nat} {f : FV} {n : Int} (h : fileC l i f = some n) : n = 2 ∨ n = 7 ∨ n = 4 := by
  unfold fileC at h
  split at h
  · split at h
    · exact .inr (.inl (Option.some.inj h).symm)
    · split at h
      · exact .inr (.inr (Option.some.inj h).symm)
      · cases h
  · exact .inl (Option.some.inj h).symm
theorem badFile_nat (l : List FV) : ∀ f i {k : Nat} {n : Int}, badFile l f i = some (k, n) → n = 2 ∨ n = 7 ∨ n = 4
  | 0, i, k, n, h => by simp [badFile] at h
  | f + 1, i, k, n, h => by
    simp only [badFile] at h
    split at h
    · cases h
    · split at h
      · rename_i hx
        cases h
        exact fileC_nat hx
      · exact badFile_nat l f (i + 1) h
theorem few_bounds {l : List FV} (h : l.all fewB = true) : ∀ e ∈ l, e.path.size ≤ 2000 ∧ e.bytes.size ≤ 3000 := fun e he => by
  have := List.all_eq_true.1 h e he
  simpa [fewB] using this
theorem srt_bounds (l : List FV) (c : CV) (h : ∀ e ∈ l, e.bytes.size ≤ 4000000000) : (srtE (l.map (fileE c))).length = l.length ∧ ∀ e ∈ srtE (l.map (fileE c)), e.keys.length ≤ 4000000000 := by
  have hp := (srtE_facts (l.map (fileE c))).1
  refine ⟨by rw [hp.length_eq, List.length_map], fun e he => ?_⟩
  obtain ⟨f, hf, rfl⟩ := List.mem_map.1 (hp.mem_iff.1 he)
  exact Nat.le_trans (c.split_len _ _) (h f hf)
set_option maxHeartbeats 4000000 in
theorem lawBuilds_ok (o' : Obj) (hO : LaidE o') (l : List FV) (c : CV) (hl : l.length ≤ 140737488351232) : ACalls prog 3 1 [.st (.sl 2 (l.map rowF)), cutE c] [(0, .fact 0 o')] fun r h => r = B true ∧ h = [(0, .fact 0 o')] := by
  have hu := up_ok o' hO
  have hf := few_ok l hl
  refine fnC lay_ok func3 rfl rfl rfl rfl rfl ?_
  cases hfe : decide (l.length ≤ 100) && l.all fewB with
  | false =>
    rw [hfe] at hf
    repeat' first | refine wr (by omega) ?_ | refine ln ?_ | refine stp lay_ok rfl ?_ | refine fin ?_ | refine n_thn ?_ | refine n_blk ?_ | refine e_thn ?_ | refine e_hit ?_ | refine e_miss rfl ?_ | refine r_thn ?_ | refine r_blk ?_ | refine e_rr ?_ | refine r_rr ?_ | refine e_cr ?_ | refine r_cr ?_ | refine .seq ?_ | refine reg ?_ | refine .block ?_ | refine .skip ?_ | refine .ret ?_ | refine .exit ?_ | refine cndT rfl ?_ | refine cndF rfl ?_ | refine c_dec rfl (fun hc => ?_) (fun hc => ?_) | refine c_ndec rfl (fun hc => ?_) (fun hc => ?_) | refine cnd rfl (fun hc => ?_) (fun hc => ?_) | ((first | refine o_none rfl ?_ | refine o_none_ ?_ | refine o_yes rfl rfl rfl ?_ | refine o_yes_ rfl rfl ?_); first | refine st_callK [0] (hu) b10 rfl rfl rfl rfl rfl (by (repeat' first | exact trivial | refine And.intro ?_ ?_ | rfl); first | done | fail) ?_ | refine st_pure (hf) b11 rfl rfl rfl rfl ?_) | refine gd rfl rfl rfl (fun hg => ?_) (fun hg => ?_) | refine gn rfl rfl rfl (fun hg => ?_) (fun hg => ?_)
    all_goals first
      | (exfalso; omega)
      | skip
    refine f_r [(0, .fact 0 o')] rfl (by (repeat' first | exact trivial | refine And.intro ?_ ?_ | rfl); first | done | fail) rfl ⟨?_, rfl⟩
    rfl
  | true =>
    rw [hfe] at hf
    simp only [Bool.and_eq_true, decide_eq_true_eq] at hfe
    obtain ⟨h100, hall⟩ := hfe
    have hbd := few_bounds hall
    have hp : ∀ e ∈ l, e.path.size ≤ 4000000000 - 1 := fun e he => by have := hbd e he; omega
    have hb : ∀ e ∈ l, e.bytes.size ≤ 4000000000 := fun e he => by have := hbd e he; omega
    have hl : l.length ≤ 4000000000 := by omega
    have h1 := build_ok l c hl hp hb
    have h2 := refBuild_ok l c hl hp
    unfold buildC at h1
    unfold buildR at h2
    by_cases hok : c.ok = false
    · rw [if_pos hok] at h1 h2
      have h3 : ACalls prog 14 0 [errE 1, I 1, I (-1)] [] fun r h => r = B true ∧ h = [] := toldCode_ok 1 1 (by decide) (by decide)
      repeat' first | refine wr (by omega) ?_ | refine ln ?_ | refine stp lay_ok rfl ?_ | refine fin ?_ | refine n_thn ?_ | refine n_blk ?_ | refine e_thn ?_ | refine e_hit ?_ | refine e_miss rfl ?_ | refine r_thn ?_ | refine r_blk ?_ | refine e_rr ?_ | refine r_rr ?_ | refine e_cr ?_ | refine r_cr ?_ | refine .seq ?_ | refine reg ?_ | refine .block ?_ | refine .skip ?_ | refine .ret ?_ | refine .exit ?_ | refine cndT rfl ?_ | refine cndF rfl ?_ | refine c_dec rfl (fun hc => ?_) (fun hc => ?_) | refine c_ndec rfl (fun hc => ?_) (fun hc => ?_) | refine cnd rfl (fun hc => ?_) (fun hc => ?_) | ((first | refine o_none rfl ?_ | refine o_none_ ?_ | refine o_yes rfl rfl rfl ?_ | refine o_yes_ rfl rfl ?_); first | refine st_callK [0] (hu) b10 rfl rfl rfl rfl rfl (by (repeat' first | exact trivial | refine And.intro ?_ ?_ | rfl); first | done | fail) ?_ | refine st_pure (hf) b11 rfl rfl rfl rfl ?_ | refine st_pure (h1) b12 rfl rfl rfl rfl ?_ | refine st_pure (h2) b13 rfl rfl rfl rfl ?_ | refine st_pure (h3) b14 rfl rfl rfl rfl ?_) | refine gd rfl rfl rfl (fun hg => ?_) (fun hg => ?_) | refine gn rfl rfl rfl (fun hg => ?_) (fun hg => ?_)
      all_goals first
        | (exfalso; omega)
        | skip
      refine f_r [(0, .fact 0 o')] rfl (by (repeat' first | exact trivial | refine And.intro ?_ ?_ | rfl); first | done | fail) rfl ⟨?_, rfl⟩
      rfl
    rw [if_neg hok] at h1 h2
    by_cases h32 : 32 < l.length
    · rw [if_pos h32] at h1 h2
      have h3 : ACalls prog 14 0 [errE 7, I 7, I (-1)] [] fun r h => r = B true ∧ h = [] := toldCode_ok 7 7 (by decide) (by decide)
      repeat' first | refine wr (by omega) ?_ | refine ln ?_ | refine stp lay_ok rfl ?_ | refine fin ?_ | refine n_thn ?_ | refine n_blk ?_ | refine e_thn ?_ | refine e_hit ?_ | refine e_miss rfl ?_ | refine r_thn ?_ | refine r_blk ?_ | refine e_rr ?_ | refine r_rr ?_ | refine e_cr ?_ | refine r_cr ?_ | refine .seq ?_ | refine reg ?_ | refine .block ?_ | refine .skip ?_ | refine .ret ?_ | refine .exit ?_ | refine cndT rfl ?_ | refine cndF rfl ?_ | refine c_dec rfl (fun hc => ?_) (fun hc => ?_) | refine c_ndec rfl (fun hc => ?_) (fun hc => ?_) | refine cnd rfl (fun hc => ?_) (fun hc => ?_) | ((first | refine o_none rfl ?_ | refine o_none_ ?_ | refine o_yes rfl rfl rfl ?_ | refine o_yes_ rfl rfl ?_); first | refine st_callK [0] (hu) b10 rfl rfl rfl rfl rfl (by (repeat' first | exact trivial | refine And.intro ?_ ?_ | rfl); first | done | fail) ?_ | refine st_pure (hf) b11 rfl rfl rfl rfl ?_ | refine st_pure (h1) b12 rfl rfl rfl rfl ?_ | refine st_pure (h2) b13 rfl rfl rfl rfl ?_ | refine st_pure (h3) b14 rfl rfl rfl rfl ?_) | refine gd rfl rfl rfl (fun hg => ?_) (fun hg => ?_) | refine gn rfl rfl rfl (fun hg => ?_) (fun hg => ?_)
      all_goals first
        | (exfalso; omega)
        | skip
      refine f_r [(0, .fact 0 o')] rfl (by (repeat' first | exact trivial | refine And.intro ?_ ?_ | rfl); first | done | fail) rfl ⟨?_, rfl⟩
      rfl
    rw [if_neg h32] at h1 h2
    cases hbf : badFile l l.length 0 with
    | some x =>
      obtain ⟨i, n⟩ := x
      rw [hbf] at h1 h2
      simp only at h1 h2
      have hn := badFile_nat l _ _ hbf
      obtain ⟨m, rfl⟩ : ∃ m : Nat, n = m := ⟨n.toNat, by omega⟩
      have h3 := toldSpot_ok o' hO i m
      repeat' first | refine wr (by omega) ?_ | refine ln ?_ | refine stp lay_ok rfl ?_ | refine fin ?_ | refine n_thn ?_ | refine n_blk ?_ | refine e_thn ?_ | refine e_hit ?_ | refine e_miss rfl ?_ | refine r_thn ?_ | refine r_blk ?_ | refine e_rr ?_ | refine r_rr ?_ | refine e_cr ?_ | refine r_cr ?_ | refine .seq ?_ | refine reg ?_ | refine .block ?_ | refine .skip ?_ | refine .ret ?_ | refine .exit ?_ | refine cndT rfl ?_ | refine cndF rfl ?_ | refine c_dec rfl (fun hc => ?_) (fun hc => ?_) | refine c_ndec rfl (fun hc => ?_) (fun hc => ?_) | refine cnd rfl (fun hc => ?_) (fun hc => ?_) | ((first | refine o_none rfl ?_ | refine o_none_ ?_ | refine o_yes rfl rfl rfl ?_ | refine o_yes_ rfl rfl ?_); first | refine st_callK [0] (hu) b10 rfl rfl rfl rfl rfl (by (repeat' first | exact trivial | refine And.intro ?_ ?_ | rfl); first | done | fail) ?_ | refine st_pure (hf) b11 rfl rfl rfl rfl ?_ | refine st_pureL (h1) b12 rfl (by (repeat' first | exact AVLeL.nil | refine AVLeL.cons ?_ ?_ | exact AVLe.refl _ | refine AVLe.st ?_ | exact SLe.refl _ | exact SLe.nil _ | exact SLe.sl0 _ | refine SLe.agg ?_ | refine SLe.sl ?_ | refine SLe.iface ?_ | exact SLeL.nil | refine SLeL.cons ?_ ?_ | exact RLe.nil' | refine RLe.cons' rfl ?_ ?_); first | done | fail) rfl rfl rfl ?_ | refine st_pure (h2) b13 rfl rfl rfl rfl ?_ | refine st_callK [0] (h3) b14 rfl rfl rfl rfl rfl (by (repeat' first | exact trivial | refine And.intro ?_ ?_ | rfl); first | done | fail) ?_) | refine gd rfl rfl rfl (fun hg => ?_) (fun hg => ?_) | refine gn rfl rfl rfl (fun hg => ?_) (fun hg => ?_)
      all_goals first
        | (exfalso; omega)
        | skip
      refine f_r [(0, .fact 0 o')] rfl (by (repeat' first | exact trivial | refine And.intro ?_ ?_ | rfl); first | done | fail) rfl ⟨?_, rfl⟩
      rfl
    | none =>
      rw [hbf] at h1 h2
      simp only at h1 h2
      rw [build_same l c hbf] at h2
      obtain ⟨hsl, hsk⟩ := srt_bounds l c hb
      generalize srtE (l.map (fileE c)) = s at *
      have h3 := sameAll_ok s s (by omega) (by omega) hsk hsk
      rw [decide_eq_true rfl] at h3
      have hms : (List.map rowE s).length = s.length := List.length_map _
      repeat' first | refine wr (by omega) ?_ | refine ln ?_ | refine stp lay_ok rfl ?_ | refine fin ?_ | refine n_thn ?_ | refine n_blk ?_ | refine e_thn ?_ | refine e_hit ?_ | refine e_miss rfl ?_ | refine r_thn ?_ | refine r_blk ?_ | refine e_rr ?_ | refine r_rr ?_ | refine e_cr ?_ | refine r_cr ?_ | refine .seq ?_ | refine reg ?_ | refine .block ?_ | refine .skip ?_ | refine .ret ?_ | refine .exit ?_ | refine cndT rfl ?_ | refine cndF rfl ?_ | refine c_dec rfl (fun hc => ?_) (fun hc => ?_) | refine c_ndec rfl (fun hc => ?_) (fun hc => ?_) | refine cnd rfl (fun hc => ?_) (fun hc => ?_) | ((first | refine o_none rfl ?_ | refine o_none_ ?_ | refine o_yes rfl rfl rfl ?_ | refine o_yes_ rfl rfl ?_); first | refine st_callK [0] (hu) b10 rfl rfl rfl rfl rfl (by (repeat' first | exact trivial | refine And.intro ?_ ?_ | rfl); first | done | fail) ?_ | refine st_pure (hf) b11 rfl rfl rfl rfl ?_ | refine st_pure (h1) b12 rfl rfl rfl rfl ?_ | refine st_pure (h2) b13 rfl rfl rfl rfl ?_ | refine st_pure (h3) b15 rfl rfl rfl rfl ?_) | refine gd rfl rfl rfl (fun hg => ?_) (fun hg => ?_) | refine gn rfl rfl rfl (fun hg => ?_) (fun hg => ?_)
      all_goals first
        | (exfalso; omega)
        | skip
      refine f_r [(0, .fact 0 o')] rfl (by (repeat' first | exact trivial | refine And.intro ?_ ?_ | rfl); first | done | fail) rfl ⟨?_, rfl⟩
      rfl
end Go.Proofs.YtmekcbbieacioaaGreatDoorFn
namespace Go.Proofs.YtmekcbbieacioaaGreatDoorFn
open Go.Proofs.YtmekcbbieacioaaGreatDoorAl Go.Proofs.Tryz Go.ChangeAt Go.RowKit
/-! ### what arguments of the laws' types read as -/
abbrev ΦI (xs : List SV) : Prop := ∃ n, xs = [.int .i64 n] ∧ (Lit.int .i64 n).wf = true
theorem rdI : Rd prog 3 ΦI := rd_int underlying3
abbrev ΦU8 (xs : List SV) : Prop := ∃ n, xs = [.int .u8 n] ∧ (Lit.int .u8 n).wf = true
theorem rdU8 : Rd prog 5 ΦU8 := rd_int underlying5
abbrev ΦB (xs : List SV) : Prop := ∃ b, xs = [.bool b]
theorem rdB : Rd prog 4 ΦB := rd_bool underlying4
abbrev ΦS (xs : List SV) : Prop := ∃ s : ByteArray, xs = [.str s] ∧ s.size ≤ reachBytes
theorem rdS : Rd prog 9 ΦS := rd_str underlying9
abbrev ΦL (sz bytes : Nat) (Φ : List SV → Prop) (xs : List SV) : Prop := ∃ rows, xs = [.sl sz rows] ∧ (∀ row ∈ rows, Φ row) ∧ rows.length * bytes ≤ reachBytes
theorem rdLB : Rd prog 131 (ΦL 1 1 ΦU8) := rd_slice underlying131 (by kernel_rfl) (by kernel_rfl) rfl rdU8
theorem rdLS : Rd prog 39 (ΦL 1 16 ΦS) := rd_slice underlying39 (by kernel_rfl) (by kernel_rfl) rfl rdS
theorem cI : prog.cellsOf 3 = 1 := by kernel_rfl
theorem cB : prog.cellsOf 4 = 1 := by kernel_rfl
theorem cS : prog.cellsOf 9 = 1 := by kernel_rfl
theorem cLS : prog.cellsOf 39 = 1 := by kernel_rfl
theorem cE : prog.cellsOf 41 = 3 := by kernel_rfl
theorem cLE : prog.cellsOf 27 = 1 := by kernel_rfl
abbrev ΦE : List SV → Prop := Pieces [ΦS, ΦI, ΦL 1 16 ΦS]
theorem rdE : Rd prog 41 ΦE := rd_struct underlying41 ⟨rfl, rdS, by rw [cS], rdI, by rw [cI, cS], rdLS, by rw [cE, cI, cS, cLS]; rfl⟩
theorem rdLE : Rd prog 27 (ΦL 3 48 ΦE) := rd_slice underlying27 (by kernel_rfl) (by kernel_rfl) rfl rdE
/-- What is true of whatever a reader of memory brings: sizes that memory has room for. -/
def EV.inMem (e : EV) : Prop := e.path.size ≤ reachBytes ∧ e.keys.length * 16 ≤ reachBytes ∧ ∀ k ∈ e.keys, k.size ≤ reachBytes
theorem ofSs {rows : List (List SV)} (h : ∀ row ∈ rows, ΦS row) : ∃ l : List ByteArray, rows = l.map rowS ∧ ∀ s ∈ l, s.size ≤ reachBytes :=
  rows_map (f := rowS) (Ok := fun s => s.size ≤ reachBytes) h
theorem ofE {xs : List SV} (h : ΦE xs) : ∃ e : EV, xs = rowE e ∧ e.inMem := by
  obtain ⟨_, _, rfl, ⟨p, rfl, hp⟩, _, _, rfl, ⟨z, rfl, _⟩, _, _, rfl, ⟨rows, rfl, hr, hl⟩, rfl⟩ := h
  obtain ⟨l, rfl, hs⟩ := ofSs hr
  exact ⟨⟨p, z, l⟩, rfl, hp, by simpa using hl, hs⟩
/-! ### files and cuts -/
theorem cF : prog.cellsOf 58 = 2 := by kernel_rfl
abbrev ΦF : List SV → Prop := Pieces [ΦS, ΦS]
theorem rdF : Rd prog 58 ΦF := rd_struct underlying58 ⟨rfl, rdS, by rw [cS], rdS, by rw [cF, cS]; rfl⟩
theorem rdLF : Rd prog 22 (ΦL 2 32 ΦF) := rd_slice underlying22 (by kernel_rfl) (by kernel_rfl) rfl rdF
theorem cC : prog.cellsOf 24 = 3 := by kernel_rfl
abbrev ΦC : List SV → Prop := Pieces [ΦI, ΦI, ΦI]
theorem rdC : Rd prog 24 ΦC := rd_struct underlying24 ⟨rfl, rdI, by rw [cI], rdI, by rw [cI], rdI, by rw [cC, cI]; rfl⟩
end Go.Proofs.YtmekcbbieacioaaGreatDoorFn
namespace Go.Proofs.YtmekcbbieacioaaGreatDoorFn
open Go.Proofs.YtmekcbbieacioaaGreatDoorAl Go.Proofs.Tryz Go.ChangeAt Go.RowKit
/-! ### what files and cuts read as -/
def FV.inMem (e : FV) : Prop := e.path.size ≤ reachBytes ∧ e.bytes.size ≤ reachBytes
theorem ofF {xs : List SV} (h : ΦF xs) : ∃ e : FV, xs = rowF e ∧ e.inMem := by
  obtain ⟨_, _, rfl, ⟨p, rfl, hp⟩, _, _, rfl, ⟨z, rfl, hz⟩, rfl⟩ := h
  exact ⟨⟨p, z⟩, rfl, hp, hz⟩
theorem ofC {xs : List SV} (h : ΦC xs) : ∃ c : CV, xs = [.int .i64 c.mn, .int .i64 c.mx, .int .i64 c.ms] := by
  obtain ⟨_, _, rfl, ⟨a, rfl, _⟩, _, _, rfl, ⟨b, rfl, _⟩, _, _, rfl, ⟨m, rfl, _⟩, rfl⟩ := h
  exact ⟨⟨a, b, m⟩, rfl⟩
end Go.Proofs.YtmekcbbieacioaaGreatDoorFn
namespace Go.Proofs.YtmekcbbieacioaaGreatDoor
open Go.Proofs.YtmekcbbieacioaaGreatDoorAl Go.ChangeAt Go.RowKit
open Go.Proofs.YtmekcbbieacioaaGreatDoorFn
theorem own : ownKnob Tryz.prog.godebug = none := by kernel_rfl
theorem laidOut : laidOutB Tryz.prog = true := by kernel_rfl
def pars : List Par := [⟨22, false, ΦL 2 32 ΦF⟩, ⟨24, true, ΦC⟩]
theorem pars_ok : ParsOk Tryz.prog pars :=
  ⟨rdLF, ⟨_, Tryz.underlying22, rfl⟩, by kernel_rfl, of_decide_eq_true (by kernel_rfl),
   rdC, ⟨_, Tryz.underlying24, rfl⟩, by kernel_rfl, of_decide_eq_true (by kernel_rfl), trivial⟩
theorem law_ok : LawOkF Tryz.prog 3 pars LaidE := by
  rintro svs ⟨_, _, rfl, ⟨r0, h0, hr0, hl0⟩, _, _, rfl, ⟨xs1, rfl, hp1⟩, rfl⟩ o hO
  cases h0
  obtain ⟨x0, rfl, hm0⟩ := rows_map (f := rowF) (Ok := FV.inMem) (fun row hm => ofF (hr0 row hm))
  simp only [List.length_map] at hl0
  obtain ⟨x1, rfl⟩ := ofC hp1
  have hreach : reachBytes ≤ 140737488351232 := by decide
  exact lawBuilds_ok o hO x0 x1 (by omega)
theorem hE (W : World) (h : laidMetH Tryz.prog Rows.treeBuildsRow.laid W) : ∃ o, W.heap[0]? = some o ∧ LaidE o := by
  have h' : laidMet Tryz.prog [("unicode/utf8.acceptRanges", Rows.laid_unicode_utf8_acceptRanges), ("unicode/utf8.first", Rows.laid_unicode_utf8_first)] W ∧ handlesMet Tryz.prog [("errors.errorType", Rows.laid_errors_errorType)] W := h
  obtain ⟨name, u, ty, e1, e2, e3, e4, e5⟩ := h'.2 _ (List.mem_singleton.2 rfl)
  have en : name = [101, 114, 114, 111, 114] := (Option.some.inj e1).symm
  subst en
  obtain rfl := Option.some.inj ((show (Tryz.prog.cutTypes.find? (·.1 == "internal/reflectlite.rtype")).map (·.2) = some 139 by kernel_rfl).symm.trans e2)
  have hm : ty ∈ (List.range Tryz.prog.types.size).filter fun t => Tryz.prog.rowNamed t [101, 114, 114, 111, 114] := List.mem_filter.2 ⟨List.mem_range.2 e3, e4⟩
  rw [show ((List.range Tryz.prog.types.size).filter fun t => Tryz.prog.rowNamed t [101, 114, 114, 111, 114]) = [29] by kernel_rfl] at hm
  obtain rfl := List.mem_singleton.1 hm
  rw [show typeHandle Tryz.prog 29 = .pointer (some ⟨4, 29, none⟩) by kernel_rfl] at e5
  have hc := World.var?_cell (show Tryz.prog.globalNamed "errors.errorType" = some 0 by kernel_rfl) e5 0
  unfold World.cell? at hc
  split at hc
  · rename_i c T fr ho
    exact ⟨_, ho, c, T, fr, rfl, by simpa using hc⟩
  · cases hc
def plain : List (String × DataW Unit) := [("unicode/utf8.acceptRanges", Rows.laid_unicode_utf8_acceptRanges), ("unicode/utf8.first", Rows.laid_unicode_utf8_first)]
noncomputable def w0 (os : Os) : World := { World.holding Tryz.prog os ⟨#[], #[], []⟩ with heap := (World.holding Tryz.prog os ⟨#[], #[], []⟩).heap.modify 0 fun
  | .cells _ t fr => .cells #[.iface 139 (.agg #[.pointer (some ⟨4, 29, none⟩)])] t fr
  | o => o }
noncomputable def w1 (os : Os) : World := (w0 os).layVars Tryz.prog plain
theorem plain_met (os : Os) : laidMet Tryz.prog plain (w1 os) := by
  have e1 : (plain.filter fun x => (plain.map (·.1)).contains x.1) = plain := List.filter_eq_self.2 fun x hx => List.contains_iff_mem.2 (List.mem_map.2 ⟨x, hx, rfl⟩)
  have e2 : (plain.filter fun x => !(plain.map (·.1)).contains x.1) = [] := List.filter_eq_nil_iff.2 fun x hx => by rw [List.contains_iff_mem.2 (List.mem_map.2 ⟨x, hx, rfl⟩)]; simp
  exact laidMet_layVars (w0 := w0 os) (plain.map (·.1)) [] (by rw [e1]; rfl) (by rw [e1]; kernel_rfl) (by rw [e1]; kernel_rfl) (by rw [e2]; exact LaidIn.none)
theorem door_met (os : Os) (args : Array Value) : laidMetH Tryz.prog Rows.treeBuildsRow.laid ((w1 os).forCall (fun _ _ => 0) ⟨#[], args, []⟩).memory :=
  laidMetH_of_parts (show laidMet Tryz.prog plain _ from (plain_met os).of_heap (by simp [World.memory, World.forCall, Input.heap])) (by kernel_rfl)
set_option maxRecDepth 100000 in
theorem law_lift (os : Os) (started : os.Started) (H : Type) (enc : TypeId × Value → H) :
    ReturnsInHanded {} Tryz.checked os 3 .any (fun w args => (Rows.treeBuildsSpec.pre enc Tryz.prog Tryz.f3 [] false w args ∧ laidMetH Tryz.prog Rows.treeBuildsRow.laid w) ∧ sizedMet enc Tryz.prog Tryz.f3 (OpenSpec.ofChange Rows.treeBuildsSpec) false w args) (Rows.treeBuildsSpec.post enc Tryz.prog Tryz.f3 false true false false) :=
  law_liftedF (C := Tryz.checked) (ps := pars) own started (by kernel_rfl) Tryz.func3
    (ChangeSpec.witness_shaped (enc := enc) (C := Tryz.checked) (os := os) (X := fun w _ => laidMetH Tryz.prog Rows.treeBuildsRow.laid w) false (w1 os) #[.slice none 0 0, .agg #[.int .i64 0, .int .i64 0, .int .i64 0]] 8 (World.layVars_os _ _ _)
      (World.shaped_of_ZipB (by kernel_rfl) (by kernel_rfl)) (by kernel_rfl) (by kernel_rfl) (by kernel_rfl) (door_met os _))
    laidOut rfl rfl Tryz.underlying4 rfl
    (fun ds hds => by
      match ds, hds with
      | [_, _], _ => rfl) pars_ok LaidE hE law_ok
theorem law_over : Rows.treeBuildsRow.holds Tryz.pinned (OpenSpec.ofChange Rows.treeBuildsSpec) :=
  OpenClaim.holds_of_wide 3 Tryz.f3 rfl rfl rfl rfl rfl rfl rfl ⟨rfl, rfl, rfl, rfl, rfl⟩ rfl rfl rfl rfl rfl (by kernel_rfl) Tryz.func3 (by kernel_rfl)
    (of_decide_eq_true (by kernel_rfl)) (by unfold Func.isWrapper; first | (rw [if_pos (by decide +kernel)]; kernel_rfl) | (rw [if_neg (by decide +kernel)]; exact ⟨rfl, rfl⟩))
    (fun os started H enc _ => law_lift os started H enc)
theorem TreeBuilds_holds : Rows.TreeBuildsCardSaid :=
  Claim7.holds_tied_plain_at .later [] [.data, .handle, .pinned] true Rows.treeBuildsCard.stood.harness Rows.treeBuildsCard.stood.looks law_over (fun _ h => by cases h) (by kernel_rfl) (fun _ h => by cases h) treeBuilds_row_tie rfl ⟨rfl, rfl⟩ (by kernel_rfl) rfl
    (fun f fn hf hfn => by
      obtain rfl : f = 3 := Option.some.inj ((show Tryz.prog.funcNamed "becket/becketlaw04.TreeBuilds" = some 3 by kernel_rfl).symm.trans hf) |>.symm
      obtain rfl : fn = Tryz.f3 := (Option.some.inj (Tryz.func3.symm.trans hfn)).symm
      exact ⟨by kernel_rfl, fun j t ht => by
        have hm : t ∈ ([22, 24] : List Nat) := by
          have e := Array.mem_of_getElem? ht
          rw [Tryz.params3] at e
          simpa using e
        have hall : (([22, 24] : List Nat).all fun u => !Tryz.prog.wantsStandIn u) = true := by kernel_rfl
        exact (show Tryz.prog.wantsStandIn t = false by simpa using List.all_eq_true.1 hall t hm)⟩)
    (by kernel_rfl)
#print axioms TreeBuilds_holds
end Go.Proofs.YtmekcbbieacioaaGreatDoor
