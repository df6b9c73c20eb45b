/- Texts that the law's proof uses: part 1. -/
import Derived.Test.YtgjoloaajocafaaDoorProg
import Derived.Test.YtgjoloaajocafaaDoorAlK
import Derived.Test.YtgjoloaajocafaaDoorAlZg
import Derived.Test.YtgjoloaajocafaaDoorChecked
import Derived.Test.YtgjoloaajocafaaDoorAlZi
import Derived.Test.YtgjoloaajocafaaDoorAlZj
import Derived.Test.YtgjoloaajocafaaDoorAlZk
import Derived.Test.YtgjoloaajocafaaDoorAlZl
set_option linter.all false
namespace Go.Proofs.YtgjoloaajocafaaDoorFn
open Go.Proofs.YtgjoloaajocafaaDoorAl Go.Proofs.Tryd
def lay : Lay :=
  [(2, ⟨(.int .i64), 1, false, true, (.int .i64 0)⟩),
   (3, ⟨(.int .i64), 1, false, true, (.int .i64 0)⟩),
   (4, ⟨.bool, 1, false, true, (.bool false)⟩),
   (5, ⟨(.int .u8), 1, false, true, (.int .u8 0)⟩),
   (6, ⟨(.int .u8), 1, false, true, (.int .u8 0)⟩),
   (7, ⟨(.struct ((0, 1) :: ((1, 1) :: ((2, 1) :: ((3, 1) :: []))))), 4, true, true, (.agg ((.int .i64 0) :: ((.int .i64 0) :: ((.bool false) :: ((.int .u8 0) :: [])))))⟩),
   (8, ⟨(.struct ((0, 1) :: ((1, 1) :: ((2, 1) :: ((3, 1) :: []))))), 4, true, true, (.agg ((.int .i64 0) :: ((.int .i64 0) :: ((.bool false) :: ((.int .u8 0) :: [])))))⟩),
   (9, ⟨.string, 1, false, true, (.str ⟨#[]⟩)⟩),
   (10, ⟨.string, 1, false, true, (.str ⟨#[]⟩)⟩),
   (11, ⟨.string, 1, false, true, (.str ⟨#[]⟩)⟩),
   (12, ⟨(.int .u64), 1, false, true, (.int .u64 0)⟩),
   (13, ⟨(.struct ((0, 1) :: ((1, 1) :: []))), 2, true, true, (.agg ((.str ⟨#[]⟩) :: ((.int .u64 0) :: [])))⟩),
   (14, ⟨(.struct ((0, 1) :: ((1, 1) :: []))), 2, true, true, (.agg ((.str ⟨#[]⟩) :: ((.int .u64 0) :: [])))⟩),
   (15, ⟨.ptr, 1, false, true, .nilptr⟩),
   (16, ⟨.ptr, 1, false, true, .nilptr⟩),
   (17, ⟨.ptr, 1, false, true, .nilptr⟩),
   (18, ⟨(.struct ((0, 1) :: [])), 1, true, true, (.agg (.nilptr :: []))⟩),
   (19, ⟨(.struct ((0, 1) :: [])), 1, true, true, (.agg (.nilptr :: []))⟩),
   (20, ⟨.iface, 1, false, true, .nilIface⟩),
   (21, ⟨(.int .i32), 1, false, true, (.int .i32 0)⟩),
   (22, ⟨(.slice 5 1 1), 1, false, false, .nilsl⟩),
   (24, ⟨.ptr, 1, false, true, .nilptr⟩),
   (25, ⟨.iface, 1, false, true, .nilIface⟩),
   (26, ⟨.iface, 1, false, true, .nilIface⟩),
   (29, ⟨(.slice 55 4 56), 1, false, false, .nilsl⟩),
   (32, ⟨(.int .i64), 1, false, true, (.int .i64 0)⟩),
   (40, ⟨(.slice 9 1 16), 1, false, false, .nilsl⟩),
   (45, ⟨(.slice 3 1 8), 1, false, false, .nilsl⟩),
   (49, ⟨.ptr, 1, false, true, .nilptr⟩),
   (50, ⟨(.struct ((0, 1) :: ((1, 1) :: ((2, 1) :: [])))), 3, true, false, (.agg (.nilsl :: ((.int .i64 0) :: ((.bool false) :: []))))⟩),
   (51, ⟨(.struct ((0, 1) :: ((1, 1) :: ((2, 1) :: [])))), 3, true, false, (.agg (.nilsl :: ((.int .i64 0) :: ((.bool false) :: []))))⟩),
   (53, ⟨(.slice 64 3 48), 1, false, false, .nilsl⟩),
   (54, ⟨(.struct ((0, 1) :: ((1, 1) :: ((2, 1) :: ((3, 1) :: []))))), 4, true, false, (.agg ((.int .i64 0) :: ((.str ⟨#[]⟩) :: ((.bool false) :: (.nilsl :: [])))))⟩),
   (55, ⟨(.struct ((0, 1) :: ((1, 1) :: ((2, 1) :: ((3, 1) :: []))))), 4, true, false, (.agg ((.int .i64 0) :: ((.str ⟨#[]⟩) :: ((.bool false) :: (.nilsl :: [])))))⟩),
   (57, ⟨.ptr, 1, false, true, .nilptr⟩),
   (58, ⟨(.struct ((0, 1) :: ((1, 1) :: ((2, 1) :: [])))), 3, true, false, (.agg (.nilsl :: ((.int .i64 0) :: ((.bool false) :: []))))⟩),
   (59, ⟨(.struct ((0, 1) :: ((1, 1) :: ((2, 1) :: [])))), 3, true, false, (.agg (.nilsl :: ((.int .i64 0) :: ((.bool false) :: []))))⟩),
   (61, ⟨(.int .u64), 1, false, true, (.int .u64 0)⟩),
   (63, ⟨(.struct ((0, 1) :: ((1, 1) :: ((2, 1) :: [])))), 3, true, false, (.agg ((.str ⟨#[]⟩) :: ((.int .i64 0) :: (.nilsl :: []))))⟩),
   (64, ⟨(.struct ((0, 1) :: ((1, 1) :: ((2, 1) :: [])))), 3, true, false, (.agg ((.str ⟨#[]⟩) :: ((.int .i64 0) :: (.nilsl :: []))))⟩),
   (67, ⟨(.struct ((0, 1) :: [])), 1, true, false, (.agg (.nilsl :: []))⟩),
   (68, ⟨(.struct ((0, 1) :: [])), 1, true, false, (.agg (.nilsl :: []))⟩),
   (103, ⟨.ptr, 1, false, true, .nilptr⟩),
   (104, ⟨(.struct ((0, 1) :: ((1, 1) :: []))), 2, true, true, (.agg ((.int .i64 0) :: (.nilIface :: [])))⟩),
   (105, ⟨(.struct ((0, 1) :: ((1, 1) :: []))), 2, true, true, (.agg ((.int .i64 0) :: (.nilIface :: [])))⟩),
   (111, ⟨(.int .u64), 1, false, true, (.int .u64 0)⟩),
   (118, ⟨(.int .u32), 1, false, true, (.int .u32 0)⟩),
   (125, ⟨(.struct ((0, 1) :: ((1, 1) :: []))), 2, true, true, (.agg ((.int .u8 0) :: ((.int .u8 0) :: [])))⟩),
   (126, ⟨(.struct ((0, 1) :: ((1, 1) :: []))), 2, true, true, (.agg ((.int .u8 0) :: ((.int .u8 0) :: [])))⟩),
   (127, ⟨.other, 32, true, true, (.agg ((.int .u8 0) :: ((.int .u8 0) :: ((.int .u8 0) :: ((.int .u8 0) :: ((.int .u8 0) :: ((.int .u8 0) :: ((.int .u8 0) :: ((.int .u8 0) :: ((.int .u8 0) :: ((.int .u8 0) :: ((.int .u8 0) :: ((.int .u8 0) :: ((.int .u8 0) :: ((.int .u8 0) :: ((.int .u8 0) :: ((.int .u8 0) :: ((.int .u8 0) :: ((.int .u8 0) :: ((.int .u8 0) :: ((.int .u8 0) :: ((.int .u8 0) :: ((.int .u8 0) :: ((.int .u8 0) :: ((.int .u8 0) :: ((.int .u8 0) :: ((.int .u8 0) :: ((.int .u8 0) :: ((.int .u8 0) :: ((.int .u8 0) :: ((.int .u8 0) :: ((.int .u8 0) :: ((.int .u8 0) :: [])))))))))))))))))))))))))))))))))⟩),
   (128, ⟨(.struct ((0, 1) :: ((1, 1) :: ((2, 1) :: ((3, 1) :: []))))), 4, true, true, (.agg (.nilptr :: (.nilptr :: (.nilptr :: ((.str ⟨#[]⟩) :: [])))))⟩),
   (129, ⟨(.struct ((0, 1) :: ((1, 1) :: ((2, 1) :: ((3, 1) :: []))))), 4, true, true, (.agg (.nilptr :: (.nilptr :: (.nilptr :: ((.str ⟨#[]⟩) :: [])))))⟩),
   (130, ⟨.other, 0, true, true, (.agg [])⟩),
   (131, ⟨(.struct ((0, 0) :: [])), 0, true, true, (.agg [])⟩),
   (132, ⟨(.struct ((0, 0) :: [])), 0, true, true, (.agg [])⟩),
   (133, ⟨(.int .u8), 1, false, true, (.int .u8 0)⟩),
   (134, ⟨(.int .u8), 1, false, true, (.int .u8 0)⟩),
   (136, ⟨.ptr, 1, false, true, .nilptr⟩),
   (137, ⟨(.int .i32), 1, false, true, (.int .i32 0)⟩),
   (138, ⟨(.int .i32), 1, false, true, (.int .i32 0)⟩),
   (139, ⟨(.struct ((0, 1) :: ((1, 1) :: ((2, 1) :: ((3, 1) :: ((4, 1) :: ((5, 1) :: ((6, 1) :: ((7, 1) :: ((8, 1) :: ((9, 1) :: ((10, 1) :: [])))))))))))), 11, true, false, (.agg ((.int .u64 0) :: ((.int .u64 0) :: ((.int .u32 0) :: ((.int .u8 0) :: ((.int .u8 0) :: ((.int .u8 0) :: ((.int .u8 0) :: (.nilFunc :: (.nilptr :: ((.int .i32 0) :: ((.int .i32 0) :: []))))))))))))⟩),
   (140, ⟨(.struct ((0, 1) :: ((1, 1) :: ((2, 1) :: ((3, 1) :: ((4, 1) :: ((5, 1) :: ((6, 1) :: ((7, 1) :: ((8, 1) :: ((9, 1) :: ((10, 1) :: [])))))))))))), 11, true, false, (.agg ((.int .u64 0) :: ((.int .u64 0) :: ((.int .u32 0) :: ((.int .u8 0) :: ((.int .u8 0) :: ((.int .u8 0) :: ((.int .u8 0) :: (.nilFunc :: (.nilptr :: ((.int .i32 0) :: ((.int .i32 0) :: []))))))))))))⟩),
   (142, ⟨.other, 1, false, true, .nilptr⟩)]
theorem lay_ok : LayOk prog lay := by
  have h : layOf prog [2, 3, 4, 5, 6, 7, 8, 9, 10, 11, 12, 13, 14, 15, 16, 17, 18, 19, 20, 21, 22, 24, 25, 26, 29, 32, 40, 45, 49, 50, 51, 53, 54, 55, 57, 58, 59, 61, 63, 64, 67, 68, 103, 104, 105, 111, 118, 125, 126, 127, 128, 129, 130, 131, 132, 133, 134, 136, 137, 138, 139, 140, 142] = lay := by kernel_rfl
  rw [← h]
  exact layOf_ok _ _
end Go.Proofs.YtgjoloaajocafaaDoorFn
namespace Go.Proofs.YtgjoloaajocafaaDoorFn
open Go.Proofs.YtgjoloaajocafaaDoorAl Go.Proofs.Tryd
attribute [local irreducible] IntKind.wrap CodeOk OpsL OpG ACalls thn inBlk rndR cutR WkR Wk fnR DW ExtOk
abbrev I (n : Int) : AV := .st (.int .i64 n)
abbrev B (b : Bool) : AV := .st (.bool b)
abbrev Sx (s : ByteArray) : AV := .st (.str s)
abbrev nilE : AV := .st .nilIface
abbrev errE (n : Int) : AV := .st (.iface 32 (.int .i64 n))
theorem mixed : prog.follows .mixedOrders = true := Tryd.checked.mixed
theorem b78 : HasBody prog 78 := ⟨f78, func78, Option.some_ne_none _, by decide⟩
theorem b70 : HasBody prog 70 := ⟨f70, func70, Option.some_ne_none _, by decide⟩
theorem b61 : HasBody prog 61 := ⟨f61, func61, Option.some_ne_none _, by decide⟩
theorem b84 : HasBody prog 84 := ⟨f84, func84, Option.some_ne_none _, by decide⟩
theorem b75 : HasBody prog 75 := ⟨f75, func75, Option.some_ne_none _, by decide⟩
theorem b66 : HasBody prog 66 := ⟨f66, func66, Option.some_ne_none _, by decide⟩
theorem b48 : HasBody prog 48 := ⟨f48, func48, Option.some_ne_none _, by decide⟩
theorem b87 : HasBody prog 87 := ⟨f87, func87, Option.some_ne_none _, by decide⟩
theorem b82 : HasBody prog 82 := ⟨f82, func82, Option.some_ne_none _, by decide⟩
theorem x_index (s : ByteArray) (m : Int) : ExtOk prog 85 [Sx s, .st (.int .u8 m)] (.int .i64 (Lib.indexByte s.data.toList m.toNat.toUInt8)) :=
  ext_index func85 rfl (by decide) (by kernel_rfl) (by kernel_rfl) s m
theorem x_count (s : ByteArray) (m : Int) : ExtOk prog 90 [Sx s, .st (.int .u8 m)] (.int .i64 (Lib.countByte s.data.toList m.toNat.toUInt8)) :=
  ext_count func90 rfl (by decide) (by kernel_rfl) (by kernel_rfl) s m
theorem slIndexByte_ok (s : ByteArray) (m : Int) : ACalls prog 78 0 [Sx s, .st (.int .u8 m)] [] fun r h => r = I (Lib.indexByte s.data.toList m.toNat.toUInt8) ∧ h = [] := by
  refine fnC lay_ok func78 rfl rfl rfl rfl rfl ?_
  repeat' first | refine wr (by omega) ?_ | refine ln ?_ | refine stp lay_ok rfl ?_ | refine fin ?_ | refine n_thn ?_ | refine n_blk ?_ | refine e_thn ?_ | refine e_hit ?_ | refine e_miss rfl ?_ | refine r_thn ?_ | refine r_blk ?_ | refine e_rr ?_ | refine r_rr ?_ | refine e_cr ?_ | refine r_cr ?_ | refine .seq ?_ | refine reg ?_ | refine .block ?_ | refine .skip ?_ | refine .ret ?_ | refine .exit ?_ | refine cndT rfl ?_ | refine cndF rfl ?_ | refine c_dec rfl (fun hc => ?_) (fun hc => ?_) | refine c_ndec rfl (fun hc => ?_) (fun hc => ?_) | refine cnd rfl (fun hc => ?_) (fun hc => ?_) | ((first | refine o_none rfl ?_ | refine o_none_ ?_ | refine o_yes rfl rfl rfl ?_ | refine o_yes_ rfl rfl ?_); first | refine st_ext (x_index _ _) rfl ?_) | refine gd rfl rfl rfl (fun hg => ?_) (fun hg => ?_) | refine gn rfl rfl rfl (fun hg => ?_) (fun hg => ?_)
  refine f_r [] rfl trivial rfl ⟨?_, rfl⟩; rfl
abbrev slash : ByteArray := ⟨#[47]⟩
theorem slash0 : slash[(0 : Int).toNat]? = some 47 := rfl
/-- The place of the first slash. -/
abbrev slAt (s : ByteArray) : Int := Lib.indexByte s.data.toList 47
theorem slIndex_ok (s : ByteArray) : ACalls prog 70 0 [Sx s, Sx slash] [] fun r h => r = I (slAt s) ∧ h = [] := by
  refine fnC lay_ok func70 rfl rfl rfl rfl rfl ?_
  have h1 := slIndexByte_ok s 47
  repeat' first | refine wr (by omega) ?_ | refine ln ?_ | refine stp lay_ok rfl ?_ | refine fin ?_ | refine n_thn ?_ | refine n_blk ?_ | refine e_thn ?_ | refine e_hit ?_ | refine e_miss rfl ?_ | refine r_thn ?_ | refine r_blk ?_ | refine e_rr ?_ | refine r_rr ?_ | refine e_cr ?_ | refine r_cr ?_ | refine .seq ?_ | refine reg ?_ | refine .block ?_ | refine .skip ?_ | refine .ret ?_ | refine .exit ?_ | refine cndT rfl ?_ | refine cndF rfl ?_ | refine c_dec rfl (fun hc => ?_) (fun hc => ?_) | refine c_ndec rfl (fun hc => ?_) (fun hc => ?_) | refine cnd rfl (fun hc => ?_) (fun hc => ?_) | ((first | refine o_none rfl ?_ | refine o_none_ ?_ | refine o_yes rfl rfl rfl ?_ | refine o_yes_ rfl rfl ?_); first | refine st_pure (h1) b78 rfl rfl rfl rfl ?_ | refine st_indexStr 47 lay_ok rfl rfl rfl rfl (by omega) slash0 ?_) | refine gd rfl rfl rfl (fun hg => ?_) (fun hg => ?_) | refine gn rfl rfl rfl (fun hg => ?_) (fun hg => ?_)
  · refine f_r [] rfl trivial rfl ⟨?_, rfl⟩; rw [← hc]; rfl
  · refine f_r [] rfl trivial rfl ⟨?_, rfl⟩; rfl
theorem index_ok (s : ByteArray) : ACalls prog 61 0 [Sx s, Sx slash] [] fun r h => r = I (slAt s) ∧ h = [] := by
  refine fnC lay_ok func61 rfl rfl rfl rfl rfl ?_
  have h1 := slIndex_ok s
  repeat' first | refine wr (by omega) ?_ | refine ln ?_ | refine stp lay_ok rfl ?_ | refine fin ?_ | refine n_thn ?_ | refine n_blk ?_ | refine e_thn ?_ | refine e_hit ?_ | refine e_miss rfl ?_ | refine r_thn ?_ | refine r_blk ?_ | refine e_rr ?_ | refine r_rr ?_ | refine e_cr ?_ | refine r_cr ?_ | refine .seq ?_ | refine reg ?_ | refine .block ?_ | refine .skip ?_ | refine .ret ?_ | refine .exit ?_ | refine cndT rfl ?_ | refine cndF rfl ?_ | refine c_dec rfl (fun hc => ?_) (fun hc => ?_) | refine c_ndec rfl (fun hc => ?_) (fun hc => ?_) | refine cnd rfl (fun hc => ?_) (fun hc => ?_) | ((first | refine o_none rfl ?_ | refine o_none_ ?_ | refine o_yes rfl rfl rfl ?_ | refine o_yes_ rfl rfl ?_); first | refine st_pure (h1) b70 rfl rfl rfl rfl ?_) | refine gd rfl rfl rfl (fun hg => ?_) (fun hg => ?_) | refine gn rfl rfl rfl (fun hg => ?_) (fun hg => ?_)
  refine f_r [] rfl trivial rfl ⟨?_, rfl⟩; rfl
theorem contains_ok (s : ByteArray) : ACalls prog 48 0 [Sx s, Sx slash] [] fun r h => r = B (decide (slAt s ≥ 0)) ∧ h = [] := by
  refine fnC lay_ok func48 rfl rfl rfl rfl rfl ?_
  have h1 := index_ok s
  repeat' first | refine wr (by omega) ?_ | refine ln ?_ | refine stp lay_ok rfl ?_ | refine fin ?_ | refine n_thn ?_ | refine n_blk ?_ | refine e_thn ?_ | refine e_hit ?_ | refine e_miss rfl ?_ | refine r_thn ?_ | refine r_blk ?_ | refine e_rr ?_ | refine r_rr ?_ | refine e_cr ?_ | refine r_cr ?_ | refine .seq ?_ | refine reg ?_ | refine .block ?_ | refine .skip ?_ | refine .ret ?_ | refine .exit ?_ | refine cndT rfl ?_ | refine cndF rfl ?_ | refine c_dec rfl (fun hc => ?_) (fun hc => ?_) | refine c_ndec rfl (fun hc => ?_) (fun hc => ?_) | refine cnd rfl (fun hc => ?_) (fun hc => ?_) | ((first | refine o_none rfl ?_ | refine o_none_ ?_ | refine o_yes rfl rfl rfl ?_ | refine o_yes_ rfl rfl ?_); first | refine st_pure (h1) b61 rfl rfl rfl rfl ?_) | refine gd rfl rfl rfl (fun hg => ?_) (fun hg => ?_) | refine gn rfl rfl rfl (fun hg => ?_) (fun hg => ?_)
  refine f_r [] rfl trivial rfl ⟨?_, rfl⟩; rfl
theorem count_ok (s : ByteArray) : ACalls prog 84 0 [Sx s, Sx slash] [] fun r h => r = I (Lib.countByte s.data.toList 47) ∧ h = [] := by
  refine fnC lay_ok func84 rfl rfl rfl rfl rfl ?_
  repeat' first | refine wr (by omega) ?_ | refine ln ?_ | refine stp lay_ok rfl ?_ | refine fin ?_ | refine n_thn ?_ | refine n_blk ?_ | refine e_thn ?_ | refine e_hit ?_ | refine e_miss rfl ?_ | refine r_thn ?_ | refine r_blk ?_ | refine e_rr ?_ | refine r_rr ?_ | refine e_cr ?_ | refine r_cr ?_ | refine .seq ?_ | refine reg ?_ | refine .block ?_ | refine .skip ?_ | refine .ret ?_ | refine .exit ?_ | refine cndT rfl ?_ | refine cndF rfl ?_ | refine c_dec rfl (fun hc => ?_) (fun hc => ?_) | refine c_ndec rfl (fun hc => ?_) (fun hc => ?_) | refine cnd rfl (fun hc => ?_) (fun hc => ?_) | ((first | refine o_none rfl ?_ | refine o_none_ ?_ | refine o_yes rfl rfl rfl ?_ | refine o_yes_ rfl rfl ?_); first | refine st_indexStr 47 lay_ok rfl rfl rfl rfl (by omega) slash0 ?_ | refine st_ext (x_count _ _) rfl ?_) | refine gd rfl rfl rfl (fun hg => ?_) (fun hg => ?_) | refine gn rfl rfl rfl (fun hg => ?_) (fun hg => ?_)
  refine f_r [] rfl trivial rfl ⟨?_, rfl⟩; rfl
theorem slHasPrefix_ok (s p : ByteArray) : ACalls prog 87 0 [Sx s, Sx p] [] fun r h => r = B (decide (p.size ≤ s.size ∧ s.extract 0 p.size = p)) ∧ h = [] := by
  refine fnC lay_ok func87 rfl rfl rfl rfl rfl ?_
  by_cases hl : p.size ≤ s.size
  · repeat' first | refine wr (by omega) ?_ | refine ln ?_ | refine stp lay_ok rfl ?_ | refine fin ?_ | refine n_thn ?_ | refine n_blk ?_ | refine e_thn ?_ | refine e_hit ?_ | refine e_miss rfl ?_ | refine r_thn ?_ | refine r_blk ?_ | refine e_rr ?_ | refine r_rr ?_ | refine e_cr ?_ | refine r_cr ?_ | refine .seq ?_ | refine reg ?_ | refine .block ?_ | refine .skip ?_ | refine .ret ?_ | refine .exit ?_ | refine cndT rfl ?_ | refine cndF rfl ?_ | refine c_dec rfl (fun hc => ?_) (fun hc => ?_) | refine c_ndec rfl (fun hc => ?_) (fun hc => ?_) | refine cnd rfl (fun hc => ?_) (fun hc => ?_) | ((first | refine o_none rfl ?_ | refine o_none_ ?_ | refine o_yes rfl rfl rfl ?_ | refine o_yes_ rfl rfl ?_); first | refine st_subS 0 p.size lay_ok rfl rfl rfl rfl ⟨_, _, rfl, rfl⟩ (Nat.zero_le _) hl ?_) | refine gd rfl rfl rfl (fun hg => ?_) (fun hg => ?_) | refine gn rfl rfl rfl (fun hg => ?_) (fun hg => ?_)
    · refine f_r [] rfl trivial rfl ⟨?_, rfl⟩; simp [retOf, hl]
    · omega
  · repeat' first | refine wr (by omega) ?_ | refine ln ?_ | refine stp lay_ok rfl ?_ | refine fin ?_ | refine n_thn ?_ | refine n_blk ?_ | refine e_thn ?_ | refine e_hit ?_ | refine e_miss rfl ?_ | refine r_thn ?_ | refine r_blk ?_ | refine e_rr ?_ | refine r_rr ?_ | refine e_cr ?_ | refine r_cr ?_ | refine .seq ?_ | refine reg ?_ | refine .block ?_ | refine .skip ?_ | refine .ret ?_ | refine .exit ?_ | refine cndT rfl ?_ | refine cndF rfl ?_ | refine c_dec rfl (fun hc => ?_) (fun hc => ?_) | refine c_ndec rfl (fun hc => ?_) (fun hc => ?_) | refine cnd rfl (fun hc => ?_) (fun hc => ?_) | refine gd rfl rfl rfl (fun hg => ?_) (fun hg => ?_) | refine gn rfl rfl rfl (fun hg => ?_) (fun hg => ?_)
    · omega
    · refine f_r [] rfl trivial rfl ⟨?_, rfl⟩; simp [retOf, hl]
theorem hasPrefix_ok (s p : ByteArray) : ACalls prog 82 0 [Sx s, Sx p] [] fun r h => r = B (decide (p.size ≤ s.size ∧ s.extract 0 p.size = p)) ∧ h = [] := by
  refine fnC lay_ok func82 rfl rfl rfl rfl rfl ?_
  have h1 := slHasPrefix_ok s p
  repeat' first | refine wr (by omega) ?_ | refine ln ?_ | refine stp lay_ok rfl ?_ | refine fin ?_ | refine n_thn ?_ | refine n_blk ?_ | refine e_thn ?_ | refine e_hit ?_ | refine e_miss rfl ?_ | refine r_thn ?_ | refine r_blk ?_ | refine e_rr ?_ | refine r_rr ?_ | refine e_cr ?_ | refine r_cr ?_ | refine .seq ?_ | refine reg ?_ | refine .block ?_ | refine .skip ?_ | refine .ret ?_ | refine .exit ?_ | refine cndT rfl ?_ | refine cndF rfl ?_ | refine c_dec rfl (fun hc => ?_) (fun hc => ?_) | refine c_ndec rfl (fun hc => ?_) (fun hc => ?_) | refine cnd rfl (fun hc => ?_) (fun hc => ?_) | ((first | refine o_none rfl ?_ | refine o_none_ ?_ | refine o_yes rfl rfl rfl ?_ | refine o_yes_ rfl rfl ?_); first | refine st_pure (h1) b87 rfl rfl rfl rfl ?_) | refine gd rfl rfl rfl (fun hg => ?_) (fun hg => ?_) | refine gn rfl rfl rfl (fun hg => ?_) (fun hg => ?_)
  refine f_r [] rfl trivial rfl ⟨?_, rfl⟩; rfl

/-! ### cut at the slashes -/
def spl : List UInt8 → List (List UInt8)
  | [] => [[]]
  | b :: r => if b = 47 then [] :: spl r else match spl r with
    | [] => [[b]]
    | h :: t => (b :: h) :: t
theorem spl_ne : ∀ l, spl l ≠ []
  | [] => by simp [spl]
  | b :: r => by
    simp only [spl]
    split
    · simp
    · split <;> simp
theorem idx_neg : ∀ {l : List UInt8}, Lib.indexByte l 47 < 0 → spl l = [l] ∧ l.count 47 = 0
  | [], _ => by simp [spl]
  | b :: r, h => by
    simp only [Lib.indexByte] at h
    by_cases hb : b = 47
    · subst hb; simp at h
    · have hb' : (b == 47) = false := by simpa using hb
      rw [hb'] at h
      simp only [Bool.false_eq_true, if_false] at h
      have hr : Lib.indexByte r 47 < 0 := by
        have := Lib.indexByte_ge r 47
        split at h
        · rename_i e; simp only [beq_iff_eq] at e; omega
        · omega
      obtain ⟨h1, h2⟩ := idx_neg hr
      refine ⟨?_, ?_⟩
      · simp only [spl, hb, if_false, h1]
      · rw [List.count_cons_of_ne (by simpa using hb)]; exact h2
theorem idx_pos : ∀ {l : List UInt8} {m : Nat}, Lib.indexByte l 47 = m → m < l.length ∧ spl l = l.take m :: spl (l.drop (m + 1)) ∧ l.count 47 = (l.drop (m + 1)).count 47 + 1
  | [], m, h => by simp only [Lib.indexByte] at h; omega
  | b :: r, m, h => by
    simp only [Lib.indexByte] at h
    by_cases hb : b = 47
    · subst hb
      simp at h
      have : m = 0 := by omega
      subst this
      exact ⟨by simp, by simp [spl], by simp⟩
    · have hb' : (b == 47) = false := by simpa using hb
      rw [hb'] at h
      simp only [Bool.false_eq_true, if_false] at h
      have hge := Lib.indexByte_ge r 47
      split at h
      · omega
      · rename_i hne
        have hne : Lib.indexByte r 47 ≠ -1 := by simpa using hne
        obtain ⟨k, hk⟩ : ∃ k : Nat, Lib.indexByte r 47 = k := ⟨(Lib.indexByte r 47).toNat, by omega⟩
        obtain ⟨h1, h2, h3⟩ := idx_pos hk
        have hm : m = k + 1 := by omega
        subst hm
        refine ⟨by simp; omega, ?_, ?_⟩
        · simp only [spl, hb, if_false, h2, List.take_succ_cons, List.drop_succ_cons]
        · rw [List.count_cons_of_ne (by simpa using hb), List.drop_succ_cons]; exact h3
/-- A path's parts. -/
def partsOf (s : ByteArray) : List ByteArray := (spl s.data.toList).map fun l => ⟨l.toArray⟩
theorem parts_neg {s : ByteArray} (h : slAt s < 0) : partsOf s = [s] := by
  unfold partsOf; rw [(idx_neg h).1]; rfl
theorem ext_list (s : ByteArray) (a b : Nat) : (s.extract a b).data.toList = (s.data.toList.take b).drop a := by
  rw [ByteArray.data_extract, Array.toList_extract, List.extract_eq_take_drop, List.drop_take]
theorem parts_pos {s : ByteArray} {m : Nat} (h : slAt s = m) : m < s.size ∧ partsOf s = s.extract 0 m :: partsOf (s.extract (m + 1) s.size) ∧ s.data.toList.count 47 = (s.extract (m + 1) s.size).data.toList.count 47 + 1 := by
  obtain ⟨h1, h2, h3⟩ := idx_pos h
  have hsz : s.data.toList.length = s.size := by rw [Array.length_toList]; rfl
  have e2 : (s.extract (m + 1) s.size).data.toList = s.data.toList.drop (m + 1) := by
    rw [ext_list, List.take_of_length_le (by omega)]
  refine ⟨by omega, ?_, by rw [e2]; exact h3⟩
  unfold partsOf
  rw [h2, e2, List.map_cons]
  congr 1
  have := ext_list s 0 m
  rw [List.drop_zero] at this
  rw [← this, Array.toArray_toList]
def rowS (s : ByteArray) : List SV := [.str s]
theorem one_s (s : ByteArray) : ∀ row ∈ [[SV.str s]], ∀ y ∈ row, SV.one y = true := by simp [SV.one]
theorem at_rowS {l : List ByteArray} {k : Nat} (h : k < l.length) : (l.map rowS)[((k : Nat) : Int).toNat]? = some (rowS l[k]) := by simp [h]
theorem parts_len (s : ByteArray) : (partsOf s).length = s.data.toList.count 47 + 1 := by
  unfold partsOf; rw [List.length_map]
  generalize s.data.toList = l
  induction l with
  | nil => rfl
  | cons b r ih =>
    simp only [spl]
    split
    · rename_i h; subst h; simp [ih]
    · rename_i h
      rw [List.count_cons_of_ne (by simpa using h)]
      have := spl_ne r
      cases hs : spl r with
      | nil => exact absurd hs this
      | cons x xs => rw [hs] at ih; simpa using ih
end Go.Proofs.YtgjoloaajocafaaDoorFn
namespace Go.Proofs.YtgjoloaajocafaaDoorFn
open Go.Proofs.YtgjoloaajocafaaDoorAl Go.Proofs.Tryd
attribute [local irreducible] IntKind.wrap CodeOk OpsL OpG ACalls thn inBlk rndR cutR WkR Wk fnR DW ExtOk
theorem set_row (dn : List ByteArray) (k : Nat) (x : ByteArray) : ((dn.map rowS ++ List.replicate (k + 1) [SV.str ⟨#[]⟩]).set dn.length [.str x]) = (dn ++ [x]).map rowS ++ List.replicate k [SV.str ⟨#[]⟩] := by
  rw [List.set_append_right _ _ (by simp)]
  simp [List.replicate_succ, rowS]
set_option maxHeartbeats 1000000 in
theorem genSplit_ok (s : ByteArray) (hs : s.size ≤ 4000000000) : ACalls prog 75 0 [Sx s, Sx slash, I 0, I (-1)] [] fun r h => r = .st (.sl 1 ((partsOf s).map rowS)) ∧ h = [] := by
  refine fnC lay_ok func75 rfl rfl rfl rfl rfl ?_
  have hc := count_ok s
  have hcl : s.data.toList.count 47 ≤ s.size := by
    have := List.count_le_length (a := (47 : UInt8)) (l := s.data.toList)
    rwa [Array.length_toList] at this
  have hpl := parts_len s
  rw [show Lib.countByte s.data.toList 47 = s.data.toList.count 47 from rfl] at hc
  generalize s.data.toList.count 47 = c at hc hcl hpl
  have hmin : min ((c : Int) + 1) ((s.size : Int) + 1) = ((c + 1 : Nat) : Int) := by omega
  repeat' first | refine wr (by omega) ?_ | refine ln ?_ | refine stp lay_ok rfl ?_ | refine fin ?_ | refine n_thn ?_ | refine n_blk ?_ | refine e_thn ?_ | refine e_hit ?_ | refine e_miss rfl ?_ | refine r_thn ?_ | refine r_blk ?_ | refine e_rr ?_ | refine r_rr ?_ | refine e_cr ?_ | refine r_cr ?_ | refine .seq ?_ | refine reg ?_ | refine .block ?_ | refine .skip ?_ | refine .ret ?_ | refine .exit ?_ | refine cndT rfl ?_ | refine cndF rfl ?_ | refine c_dec rfl (fun hc => ?_) (fun hc => ?_) | refine c_ndec rfl (fun hc => ?_) (fun hc => ?_) | refine cnd rfl (fun hc => ?_) (fun hc => ?_) | ((first | refine o_none rfl ?_ | refine o_none_ ?_ | refine o_yes rfl rfl rfl ?_ | refine o_yes_ rfl rfl ?_); first | refine st_pure (hc) b84 rfl rfl rfl rfl ?_ | refine st_min rfl rfl ?_) | refine gd rfl rfl rfl (fun hg => ?_) (fun hg => ?_) | refine gn rfl rfl rfl (fun hg => ?_) (fun hg => ?_)
  rw [hmin]
  repeat' first | refine wr (by omega) ?_ | refine ln ?_ | refine stp lay_ok rfl ?_ | refine fin ?_ | refine n_thn ?_ | refine n_blk ?_ | refine e_thn ?_ | refine e_hit ?_ | refine e_miss rfl ?_ | refine r_thn ?_ | refine r_blk ?_ | refine e_rr ?_ | refine r_rr ?_ | refine e_cr ?_ | refine r_cr ?_ | refine .seq ?_ | refine reg ?_ | refine .block ?_ | refine .skip ?_ | refine .ret ?_ | refine .exit ?_ | refine cndT rfl ?_ | refine cndF rfl ?_ | refine c_dec rfl (fun hc => ?_) (fun hc => ?_) | refine c_ndec rfl (fun hc => ?_) (fun hc => ?_) | refine cnd rfl (fun hc => ?_) (fun hc => ?_) | ((first | refine o_none rfl ?_ | refine o_none_ ?_ | refine o_yes rfl rfl rfl ?_ | refine o_yes_ rfl rfl ?_); first | refine st_makeSlice lay_ok rfl rfl rfl rfl rfl rfl (by omega) (by omega) ?_) | refine gd rfl rfl rfl (fun hg => ?_) (fun hg => ?_) | refine gn rfl rfl rfl (fun hg => ?_) (fun hg => ?_)
  rw [show (((c + 1 : Nat) : Int) - 1) = (c : Int) by omega]
  refine lpR (fun (i, dn, u) => i ≤ c ∧ dn.length = i ∧ partsOf s = dn ++ partsOf u ∧ i + u.data.toList.count 47 = c ∧ u.size ≤ s.size) (fun (i, dn, u) => c - i) (fun (i, dn, u) => [(0, Sx u), (10, I i)]) (fun (i, dn, u) => [(0, .arr 1 (dn.map rowS ++ List.replicate (c - i + 1) [SV.str ⟨#[]⟩]))]) ((0, [], s)) [1, 2, 3, 9] [0] [] rfl rfl rfl (.of [] (by (repeat' first | exact trivial | refine And.intro ?_ ?_ | rfl); first | done | fail) (by (repeat' first | exact trivial | refine And.intro ?_ ?_ | rfl); first | done | fail) rfl) ?_ ?_
  · have := parts_len s
    exact ⟨Nat.zero_le _, rfl, rfl, by omega, Nat.le_refl _⟩
  · rintro ⟨i, dn, u⟩ ⟨hi, hdl, hpa, hcu, hus⟩
    refine nrm rfl rfl ?_
    have hx := index_ok u
    have hlen : (dn.map rowS ++ List.replicate (c - i + 1) [SV.str ⟨#[]⟩]).length = c + 1 := by simp; omega
    have hrow : (dn.map rowS ++ List.replicate (c - i + 1) [SV.str ⟨#[]⟩])[0 + ((i : Nat) : Int).toNat]? = some [SV.str ⟨#[]⟩] := by
      rw [show 0 + ((i : Nat) : Int).toNat = i by omega, List.getElem?_append_right (by simp; omega)]
      simp [hdl]
    have hset : ∀ x : ByteArray, (dn.map rowS ++ List.replicate (c - i + 1) [SV.str ⟨#[]⟩]).set (0 + ((i : Nat) : Int).toNat) (putAt [SV.str ⟨#[]⟩] 0 [.str x]) = (dn ++ [x]).map rowS ++ List.replicate (c - i) [SV.str ⟨#[]⟩] := fun x => by
      rw [show 0 + ((i : Nat) : Int).toNat = dn.length by omega, ← set_row]; rfl
    have hsl : slash.size = 1 := rfl
    by_cases hic : i < c
    · have hpos : 0 ≤ slAt u := by
        rcases Int.lt_or_le (slAt u) 0 with h | h
        · have := (idx_neg h).2; omega
        · exact h
      obtain ⟨m, hm⟩ : ∃ m : Nat, slAt u = m := ⟨(slAt u).toNat, by omega⟩
      obtain ⟨p1, p2, p3⟩ := parts_pos hm
      rw [hm] at hx
      repeat' first | refine wr (by omega) ?_ | refine ln ?_ | refine stp lay_ok rfl ?_ | refine fin ?_ | refine n_thn ?_ | refine n_blk ?_ | refine e_thn ?_ | refine e_hit ?_ | refine e_miss rfl ?_ | refine r_thn ?_ | refine r_blk ?_ | refine e_rr ?_ | refine r_rr ?_ | refine e_cr ?_ | refine r_cr ?_ | refine .seq ?_ | refine reg ?_ | refine .block ?_ | refine .skip ?_ | refine .ret ?_ | refine .exit ?_ | refine cndT rfl ?_ | refine cndF rfl ?_ | refine c_dec rfl (fun hc => ?_) (fun hc => ?_) | refine c_ndec rfl (fun hc => ?_) (fun hc => ?_) | refine cnd rfl (fun hc => ?_) (fun hc => ?_) | ((first | refine o_none rfl ?_ | refine o_none_ ?_ | refine o_yes rfl rfl rfl ?_ | refine o_yes_ rfl rfl ?_); first | refine st_pure (hx) b61 rfl rfl rfl rfl ?_ | refine st_subS 0 m lay_ok rfl rfl rfl rfl ⟨_, _, rfl, rfl⟩ (Nat.zero_le _) (by omega) ?_ | refine st_subS (m + 1) u.size lay_ok rfl rfl rfl ⟨_, _, rfl, rfl⟩ rfl (by omega) (Nat.le_refl _) ?_ | refine st_indexL lay_ok rfl rfl rfl rfl (by omega) (by omega) ?_) | refine o_none_ (st_storeE lay_ok rfl rfl rfl hrow rfl rfl rfl rfl ?_) | refine gd rfl rfl rfl (fun hg => ?_) (fun hg => ?_) | refine gn rfl rfl rfl (fun hg => ?_) (fun hg => ?_)
      · refine n_rr ((i + 1, dn ++ [u.extract 0 m], u.extract (m + 1) u.size)) ?_ (.of [] (by (repeat' first | exact trivial | refine And.intro ?_ ?_ | rfl | (rw [show c - (i + 1) + 1 = c - i by omega, ← hset]; rfl)); first | done | fail) (by (repeat' first | exact trivial | refine And.intro ?_ ?_ | rfl | (rw [show c - (i + 1) + 1 = c - i by omega, ← hset]; rfl)); first | done | fail) rfl) ?_
        · show c - (i + 1) < c - i; omega
        · refine ⟨hic, by simp [hdl], by rw [hpa, p2]; simp, by omega, ?_⟩
          rw [ByteArray.size_extract]; omega
      · omega
    · have hie : i = c := by omega
      subst hie
      have hneg : slAt u < 0 := by
        rcases Int.lt_or_le (slAt u) 0 with h | h
        · exact h
        · obtain ⟨m, hm⟩ : ∃ m : Nat, slAt u = m := ⟨(slAt u).toNat, by omega⟩
          have := (parts_pos hm).2.2; omega
      have hfin : (dn.map rowS ++ List.replicate (i - i + 1) [SV.str ⟨#[]⟩]).set (0 + ((i : Nat) : Int).toNat) (putAt [SV.str ⟨#[]⟩] 0 [.str u]) = (partsOf s).map rowS := by
        rw [hset, hpa, parts_neg hneg, Nat.sub_self]; simp
      repeat' first | refine wr (by omega) ?_ | refine ln ?_ | refine stp lay_ok rfl ?_ | refine fin ?_ | refine n_thn ?_ | refine n_blk ?_ | refine e_thn ?_ | refine e_hit ?_ | refine e_miss rfl ?_ | refine r_thn ?_ | refine r_blk ?_ | refine e_rr ?_ | refine r_rr ?_ | refine e_cr ?_ | refine r_cr ?_ | refine .seq ?_ | refine reg ?_ | refine .block ?_ | refine .skip ?_ | refine .ret ?_ | refine .exit ?_ | refine cndT rfl ?_ | refine cndF rfl ?_ | refine c_dec rfl (fun hc => ?_) (fun hc => ?_) | refine c_ndec rfl (fun hc => ?_) (fun hc => ?_) | refine cnd rfl (fun hc => ?_) (fun hc => ?_) | ((first | refine o_none rfl ?_ | refine o_none_ ?_ | refine o_yes rfl rfl rfl ?_ | refine o_yes_ rfl rfl ?_); first | refine st_indexL lay_ok rfl rfl rfl rfl (by omega) (by omega) ?_) | refine o_none_ (st_storeE lay_ok rfl rfl rfl hrow rfl rfl rfl rfl ?_) | refine gd rfl rfl rfl (fun hg => ?_) (fun hg => ?_) | refine gn rfl rfl rfl (fun hg => ?_) (fun hg => ?_)
      · omega
      · repeat' first | refine wr (by omega) ?_ | refine ln ?_ | refine stp lay_ok rfl ?_ | refine fin ?_ | refine n_thn ?_ | refine n_blk ?_ | refine e_thn ?_ | refine e_hit ?_ | refine e_miss rfl ?_ | refine r_thn ?_ | refine r_blk ?_ | refine e_rr ?_ | refine r_rr ?_ | refine e_cr ?_ | refine r_cr ?_ | refine .seq ?_ | refine reg ?_ | refine .block ?_ | refine .skip ?_ | refine .ret ?_ | refine .exit ?_ | refine cndT rfl ?_ | refine cndF rfl ?_ | refine c_dec rfl (fun hc => ?_) (fun hc => ?_) | refine c_ndec rfl (fun hc => ?_) (fun hc => ?_) | refine cnd rfl (fun hc => ?_) (fun hc => ?_) | ((first | refine o_none rfl ?_ | refine o_none_ ?_ | refine o_yes rfl rfl rfl ?_ | refine o_yes_ rfl rfl ?_); first | refine st_subO 0 (i + 1) lay_ok rfl rfl rfl rfl ⟨_, _, rfl, rfl⟩ (by omega) (by omega) ?_) | refine gd rfl rfl rfl (fun hg => ?_) (fun hg => ?_) | refine gn rfl rfl rfl (fun hg => ?_) (fun hg => ?_)
        rw [show (0 + 0 : Nat) = 0 from rfl, show i + 1 - 0 = ((partsOf s).map rowS).length by rw [List.length_map]; omega, show svCells (.str u) = [.str u] from rfl, hfin]
        refine f_end (n0 := 0) (t'' := [(8, .st (.sl 1 ((partsOf s).map rowS)))]) (h'' := []) (Wk.then (Wk.frz 0 [8] rfl rfl rfl (by (repeat' first | exact trivial | refine And.intro ?_ ?_ | rfl); first | done | fail) (by (repeat' first | exact trivial | refine And.intro ?_ ?_ | rfl); first | done | fail) rfl rfl) (WkR.of [] (by (repeat' first | exact trivial | refine And.intro ?_ ?_ | rfl); first | done | fail) (by (repeat' first | exact trivial | refine And.intro ?_ ?_ | rfl); first | done | fail) rfl)) rfl rfl ⟨?_, rfl⟩
        rfl
theorem split_ok (s : ByteArray) (hs : s.size ≤ 4000000000) : ACalls prog 66 0 [Sx s, Sx slash] [] fun r h => r = .st (.sl 1 ((partsOf s).map rowS)) ∧ h = [] := by
  refine fnC lay_ok func66 rfl rfl rfl rfl rfl ?_
  have h1 := genSplit_ok s hs
  repeat' first | refine wr (by omega) ?_ | refine ln ?_ | refine stp lay_ok rfl ?_ | refine fin ?_ | refine n_thn ?_ | refine n_blk ?_ | refine e_thn ?_ | refine e_hit ?_ | refine e_miss rfl ?_ | refine r_thn ?_ | refine r_blk ?_ | refine e_rr ?_ | refine r_rr ?_ | refine e_cr ?_ | refine r_cr ?_ | refine .seq ?_ | refine reg ?_ | refine .block ?_ | refine .skip ?_ | refine .ret ?_ | refine .exit ?_ | refine cndT rfl ?_ | refine cndF rfl ?_ | refine c_dec rfl (fun hc => ?_) (fun hc => ?_) | refine c_ndec rfl (fun hc => ?_) (fun hc => ?_) | refine cnd rfl (fun hc => ?_) (fun hc => ?_) | ((first | refine o_none rfl ?_ | refine o_none_ ?_ | refine o_yes rfl rfl rfl ?_ | refine o_yes_ rfl rfl ?_); first | refine st_pure (h1) b75 rfl rfl rfl rfl ?_) | refine gd rfl rfl rfl (fun hg => ?_) (fun hg => ?_) | refine gn rfl rfl rfl (fun hg => ?_) (fun hg => ?_)
  refine f_r [] rfl trivial rfl ⟨?_, rfl⟩; rfl
end Go.Proofs.YtgjoloaajocafaaDoorFn
namespace Go.Proofs.YtgjoloaajocafaaDoorFn
open Go.Proofs.YtgjoloaajocafaaDoorAl Go.Proofs.Tryd
attribute [local irreducible] IntKind.wrap CodeOk OpsL OpG ACalls thn inBlk rndR cutR WkR Wk fnR DW ExtOk
theorem b77 : HasBody prog 77 := ⟨f77, func77, Option.some_ne_none _, by decide⟩
theorem b69 : HasBody prog 69 := ⟨f69, func69, Option.some_ne_none _, by decide⟩
theorem b60 : HasBody prog 60 := ⟨f60, func60, Option.some_ne_none _, by decide⟩
theorem b47 : HasBody prog 47 := ⟨f47, func47, Option.some_ne_none _, by decide⟩
theorem b72 : HasBody prog 72 := ⟨f72, func72, Option.some_ne_none _, by decide⟩
theorem b67 : HasBody prog 67 := ⟨f67, func67, Option.some_ne_none _, by decide⟩
theorem b76 : HasBody prog 76 := ⟨f76, func76, Option.some_ne_none _, by decide⟩
/-! ### characters -/
def mayR (c : Nat) : Bool := decide (97 ≤ c ∧ c ≤ 122) || decide (48 ≤ c ∧ c ≤ 57) || decide (c = 95) || decide (c = 45) || decide (c = 46) || decide (128 ≤ c ∧ c ≠ 65533)
theorem may_ok (c : Nat) : ACalls prog 77 0 [.st (.int .i32 (c : Int))] [] fun r h => r = B (mayR c) ∧ h = [] := by
  refine fnC lay_ok func77 rfl rfl rfl rfl rfl ?_
  repeat' first | refine wr (by omega) ?_ | refine ln ?_ | refine stp lay_ok rfl ?_ | refine fin ?_ | refine n_thn ?_ | refine n_blk ?_ | refine e_thn ?_ | refine e_hit ?_ | refine e_miss rfl ?_ | refine r_thn ?_ | refine r_blk ?_ | refine e_rr ?_ | refine r_rr ?_ | refine e_cr ?_ | refine r_cr ?_ | refine .seq ?_ | refine reg ?_ | refine .block ?_ | refine .skip ?_ | refine .ret ?_ | refine .exit ?_ | refine cndT rfl ?_ | refine cndF rfl ?_ | refine c_dec rfl (fun hc => ?_) (fun hc => ?_) | refine c_ndec rfl (fun hc => ?_) (fun hc => ?_) | refine cnd rfl (fun hc => ?_) (fun hc => ?_) | refine gd rfl rfl rfl (fun hg => ?_) (fun hg => ?_) | refine gn rfl rfl rfl (fun hg => ?_) (fun hg => ?_)
  all_goals
    refine f_r [] rfl trivial rfl ⟨?_, rfl⟩
    simp only [retOf, B, AV.st.injEq, SV.bool.injEq, mayR]
    first
      | (symm; simp; omega)
      | (rw [Bool.eq_iff_iff]; simp; omega)
/-- How many characters there are from a place on; none: one of them may not be. -/
def runs (s : ByteArray) : Nat → Nat → Option Nat
  | 0, _ => some 0
  | f + 1, p => if p < s.size then (if mayR (Utf8.decode s p).1 then (runs s f (p + (Utf8.decode s p).2)).map (· + 1) else none) else some 0
theorem decode_pos (s : ByteArray) (p : Nat) : 1 ≤ (Utf8.decode s p).2 := by
  unfold Utf8.decode
  simp only
  repeat' split
  all_goals simp
def partOk (s : ByteArray) : Bool := match runs s (s.size + 1) 0 with
  | none => false
  | some n => decide (1 ≤ n ∧ n ≤ 16) && decide (s ≠ ⟨#[46]⟩) && decide (s ≠ ⟨#[46, 46]⟩)
theorem part_ok (s : ByteArray) (hs : s.size ≤ 4000000000) : ACalls prog 69 0 [Sx s] [] fun r h => r = B (partOk s) ∧ h = [] := by
  refine fnC lay_ok func69 rfl rfl rfl rfl rfl ?_
  repeat' first | refine wr (by omega) ?_ | refine ln ?_ | refine stp lay_ok rfl ?_ | refine fin ?_ | refine n_thn ?_ | refine n_blk ?_ | refine e_thn ?_ | refine e_hit ?_ | refine e_miss rfl ?_ | refine r_thn ?_ | refine r_blk ?_ | refine e_rr ?_ | refine r_rr ?_ | refine e_cr ?_ | refine r_cr ?_ | refine .seq ?_ | refine reg ?_ | refine .block ?_ | refine .skip ?_ | refine .ret ?_ | refine .exit ?_ | refine cndT rfl ?_ | refine cndF rfl ?_ | refine c_dec rfl (fun hc => ?_) (fun hc => ?_) | refine c_ndec rfl (fun hc => ?_) (fun hc => ?_) | refine cnd rfl (fun hc => ?_) (fun hc => ?_) | ((first | refine o_none rfl ?_ | refine o_none_ ?_ | refine o_yes rfl rfl rfl ?_ | refine o_yes_ rfl rfl ?_); first | refine st_range lay_ok rfl rfl rfl ?_) | refine gd rfl rfl rfl (fun hg => ?_) (fun hg => ?_) | refine gn rfl rfl rfl (fun hg => ?_) (fun hg => ?_)
  refine lpR (fun (p, n, f) => n + f = s.size + 1 ∧ s.size + 1 ≤ p + f ∧ n ≤ p ∧ runs s (s.size + 1) 0 = (runs s f p).map (· + n)) (fun (p, n, f) => f) (fun (p, n, f) => [(3, I (n : Int))]) (fun (p, n, f) => [(0, .siter s p)]) ((0, 0, s.size + 1)) [0, 7] [0] [] rfl rfl rfl (.of [] (by (repeat' first | exact trivial | refine And.intro ?_ ?_ | rfl); first | done | fail) (by (repeat' first | exact trivial | refine And.intro ?_ ?_ | rfl); first | done | fail) rfl) ?_ ?_
  · refine ⟨by omega, by omega, Nat.le_refl _, ?_⟩
    simp
  · rintro ⟨p, n, f⟩ ⟨hf, hpf, hnp, hr⟩
    refine nrm rfl rfl ?_
    by_cases hp : p < s.size
    · obtain ⟨f', rfl⟩ : ∃ f', f = f' + 1 := ⟨f - 1, by omega⟩
      have hm := may_ok (Utf8.decode s p).1
      have hw := decode_pos s p
      have hrun : runs s (f' + 1) p = if mayR (Utf8.decode s p).1 then (runs s f' (p + (Utf8.decode s p).2)).map (· + 1) else none := by rw [runs, if_pos hp]
      have hde : Utf8.decode s p = ((Utf8.decode s p).1, (Utf8.decode s p).2) := rfl
      generalize (Utf8.decode s p).1 = c at *
      generalize (Utf8.decode s p).2 = w at *
      cases hmay : mayR c with
      | false =>
        rw [hmay] at hm hrun
        repeat' first | refine wr (by omega) ?_ | refine ln ?_ | refine stp lay_ok rfl ?_ | refine fin ?_ | refine n_thn ?_ | refine n_blk ?_ | refine e_thn ?_ | refine e_hit ?_ | refine e_miss rfl ?_ | refine r_thn ?_ | refine r_blk ?_ | refine e_rr ?_ | refine r_rr ?_ | refine e_cr ?_ | refine r_cr ?_ | refine .seq ?_ | refine reg ?_ | refine .block ?_ | refine .skip ?_ | refine .ret ?_ | refine .exit ?_ | refine cndT rfl ?_ | refine cndF rfl ?_ | refine c_dec rfl (fun hc => ?_) (fun hc => ?_) | refine c_ndec rfl (fun hc => ?_) (fun hc => ?_) | refine cnd rfl (fun hc => ?_) (fun hc => ?_) | ((first | refine o_none rfl ?_ | refine o_none_ ?_ | refine o_yes rfl rfl rfl ?_ | refine o_yes_ rfl rfl ?_); first | refine st_next rfl rfl hp hde rfl ?_ | refine st_pure (hm) b77 rfl rfl rfl rfl ?_) | refine gd rfl rfl rfl (fun hg => ?_) (fun hg => ?_) | refine gn rfl rfl rfl (fun hg => ?_) (fun hg => ?_)
        refine f_r [] rfl trivial rfl ⟨?_, rfl⟩
        simp only [retOf, partOk]; rw [hr, hrun]; rfl
      | true =>
        rw [hmay] at hm hrun
        repeat' first | refine wr (by omega) ?_ | refine ln ?_ | refine stp lay_ok rfl ?_ | refine fin ?_ | refine n_thn ?_ | refine n_blk ?_ | refine e_thn ?_ | refine e_hit ?_ | refine e_miss rfl ?_ | refine r_thn ?_ | refine r_blk ?_ | refine e_rr ?_ | refine r_rr ?_ | refine e_cr ?_ | refine r_cr ?_ | refine .seq ?_ | refine reg ?_ | refine .block ?_ | refine .skip ?_ | refine .ret ?_ | refine .exit ?_ | refine cndT rfl ?_ | refine cndF rfl ?_ | refine c_dec rfl (fun hc => ?_) (fun hc => ?_) | refine c_ndec rfl (fun hc => ?_) (fun hc => ?_) | refine cnd rfl (fun hc => ?_) (fun hc => ?_) | ((first | refine o_none rfl ?_ | refine o_none_ ?_ | refine o_yes rfl rfl rfl ?_ | refine o_yes_ rfl rfl ?_); first | refine st_next rfl rfl hp hde rfl ?_ | refine st_pure (hm) b77 rfl rfl rfl rfl ?_) | refine gd rfl rfl rfl (fun hg => ?_) (fun hg => ?_) | refine gn rfl rfl rfl (fun hg => ?_) (fun hg => ?_)
        refine n_rr ((p + w, n + 1, f')) ?_ (.of [] (by (repeat' first | exact trivial | refine And.intro ?_ ?_ | rfl); first | done | fail) (by (repeat' first | exact trivial | refine And.intro ?_ ?_ | rfl); first | done | fail) rfl) ?_
        · exact Nat.lt_succ_self _
        · refine ⟨by omega, by omega, by omega, ?_⟩
          rw [hr, hrun, if_pos rfl]
          cases runs s f' (p + w) with
          | none => rfl
          | some k => simp only [Option.map_some]; congr 1; omega
    · have hend : partOk s = (decide (1 ≤ n ∧ n ≤ 16) && decide (s ≠ ⟨#[46]⟩) && decide (s ≠ ⟨#[46, 46]⟩)) := by
        have : runs s f p = some 0 := by
          cases f with
          | zero => rfl
          | succ f => rw [runs, if_neg hp]
        unfold partOk
        rw [hr, this]
        simp only [Option.map_some, Nat.zero_add]
      repeat' first | refine wr (by omega) ?_ | refine ln ?_ | refine stp lay_ok rfl ?_ | refine fin ?_ | refine n_thn ?_ | refine n_blk ?_ | refine e_thn ?_ | refine e_hit ?_ | refine e_miss rfl ?_ | refine r_thn ?_ | refine r_blk ?_ | refine e_rr ?_ | refine r_rr ?_ | refine e_cr ?_ | refine r_cr ?_ | refine .seq ?_ | refine reg ?_ | refine .block ?_ | refine .skip ?_ | refine .ret ?_ | refine .exit ?_ | refine cndT rfl ?_ | refine cndF rfl ?_ | refine c_dec rfl (fun hc => ?_) (fun hc => ?_) | refine c_ndec rfl (fun hc => ?_) (fun hc => ?_) | refine cnd rfl (fun hc => ?_) (fun hc => ?_) | ((first | refine o_none rfl ?_ | refine o_none_ ?_ | refine o_yes rfl rfl rfl ?_ | refine o_yes_ rfl rfl ?_); first | refine st_nextEnd rfl rfl (by omega) ?_) | refine gd rfl rfl rfl (fun hg => ?_) (fun hg => ?_) | refine gn rfl rfl rfl (fun hg => ?_) (fun hg => ?_)
      all_goals
        refine f_r [] rfl trivial rfl ⟨?_, rfl⟩
        rw [hend]
        simp only [retOf, B, AV.st.injEq, SV.bool.injEq]
        first
          | (rw [decide_eq_true (p := 1 ≤ n ∧ n ≤ 16) (by omega), decide_eq_true (p := s ≠ ⟨#[46]⟩) (by assumption)]; rfl)
          | (rw [decide_eq_true (p := 1 ≤ n ∧ n ≤ 16) (by omega), decide_eq_false (p := s ≠ ⟨#[46]⟩) (by assumption)]; rfl)
          | (rw [decide_eq_false (p := 1 ≤ n ∧ n ≤ 16) (by omega)]; rfl)

/-! ### the first that is so -/
def fidx {α : Type} (p : α → Bool) : List α → Int
  | [] => -1
  | x :: xs => if p x then 0 else if fidx p xs < 0 then -1 else fidx p xs + 1
theorem fidx_iff {α : Type} (p : α → Bool) : ∀ l : List α, (0 ≤ fidx p l ↔ l.any p = true)
  | [] => by simp [fidx]
  | x :: xs => by
    have ih := fidx_iff p xs
    rw [List.any_cons, Bool.or_eq_true, ← ih]
    have e : fidx p (x :: xs) = if p x then 0 else if fidx p xs < 0 then -1 else fidx p xs + 1 := rfl
    rw [e]
    generalize fidx p xs = z
    split
    · rename_i h; simp [h]
    · rename_i h
      split
      · constructor
        · intro h2; omega
        · rintro (h2 | h2)
          · exact absurd h2 h
          · omega
      · constructor
        · intro _; right; omega
        · intro _; omega
theorem fidx_any {α : Type} (p : α → Bool) (l : List α) : decide (fidx p l ≥ 0) = l.any p := by
  rw [Bool.eq_iff_iff, decide_eq_true_eq]; exact fidx_iff p l
theorem fidx_ge {α : Type} (p : α → Bool) : ∀ l : List α, -1 ≤ fidx p l
  | [] => by simp [fidx]
  | x :: xs => by
    have ih := fidx_ge p xs
    simp only [fidx]; split
    · omega
    · split <;> omega
theorem fidx_step {α : Type} (p : α → Bool) : ∀ (l : List α) (k : Nat) (hk : k < l.length), (∀ j (h : j < k), p (l[j]'(by omega)) = false) → p l[k] = true → fidx p l = k
  | [], k, hk, _, _ => by simp at hk
  | x :: xs, 0, hk, _, h => by simp only [List.getElem_cons_zero] at h; simp [fidx, h]
  | x :: xs, k + 1, hk, h1, h => by
    have h0 := h1 0 (by omega)
    simp only [List.getElem_cons_zero] at h0
    have ih := fidx_step p xs k (by simpa using hk) (fun j hj => by have := h1 (j + 1) (by omega); simpa using this) (by simpa using h)
    simp only [fidx, h0, Bool.false_eq_true, if_false, ih]
    rw [if_neg (by omega)]; omega
theorem fidx_none {α : Type} (p : α → Bool) : ∀ (l : List α), (∀ j (h : j < l.length), p l[j] = false) → fidx p l = -1
  | [], _ => rfl
  | x :: xs, h1 => by
    have h0 := h1 0 (by simp)
    simp only [List.getElem_cons_zero] at h0
    have ih := fidx_none p xs (fun j hj => by have := h1 (j + 1) (by simpa using hj); simpa using this)
    simp only [fidx, h0, Bool.false_eq_true, if_false, ih]; rfl

theorem parts1_ok (s : ByteArray) (hs : s.size ≤ 4000000000) : ACalls prog 68 0 [Sx s] [] fun r h => r = B (!partOk s) ∧ h = [] := by
  refine fnC lay_ok func68 rfl rfl rfl rfl rfl ?_
  have h1 := part_ok s hs
  repeat' first | refine wr (by omega) ?_ | refine ln ?_ | refine stp lay_ok rfl ?_ | refine fin ?_ | refine n_thn ?_ | refine n_blk ?_ | refine e_thn ?_ | refine e_hit ?_ | refine e_miss rfl ?_ | refine r_thn ?_ | refine r_blk ?_ | refine e_rr ?_ | refine r_rr ?_ | refine e_cr ?_ | refine r_cr ?_ | refine .seq ?_ | refine reg ?_ | refine .block ?_ | refine .skip ?_ | refine .ret ?_ | refine .exit ?_ | refine cndT rfl ?_ | refine cndF rfl ?_ | refine c_dec rfl (fun hc => ?_) (fun hc => ?_) | refine c_ndec rfl (fun hc => ?_) (fun hc => ?_) | refine cnd rfl (fun hc => ?_) (fun hc => ?_) | ((first | refine o_none rfl ?_ | refine o_none_ ?_ | refine o_yes rfl rfl rfl ?_ | refine o_yes_ rfl rfl ?_); first | refine st_pure (h1) b69 rfl rfl rfl rfl ?_) | refine gd rfl rfl rfl (fun hg => ?_) (fun hg => ?_) | refine gn rfl rfl rfl (fun hg => ?_) (fun hg => ?_)
  refine f_r [] rfl trivial rfl ⟨?_, rfl⟩; rfl
theorem b68 : HasBody prog 68 := ⟨f68, func68, Option.some_ne_none _, by decide⟩
abbrev fnP : AV := .st (.fn (.func 68) [] [])
theorem idxParts_ok (l : List ByteArray) (hl : l.length ≤ 4000000000) (hs : ∀ s ∈ l, s.size ≤ 4000000000) : ACalls prog 76 0 [.st (.sl 1 (l.map rowS)), fnP] [] fun r h => r = I (fidx (fun s => !partOk s) l) ∧ h = [] := by
  refine fnC lay_ok func76 rfl rfl rfl rfl rfl ?_
  repeat' first | refine wr (by omega) ?_ | refine ln ?_ | refine stp lay_ok rfl ?_ | refine fin ?_ | refine n_thn ?_ | refine n_blk ?_ | refine e_thn ?_ | refine e_hit ?_ | refine e_miss rfl ?_ | refine r_thn ?_ | refine r_blk ?_ | refine e_rr ?_ | refine r_rr ?_ | refine e_cr ?_ | refine r_cr ?_ | refine .seq ?_ | refine reg ?_ | refine .block ?_ | refine .skip ?_ | refine .ret ?_ | refine .exit ?_ | refine cndT rfl ?_ | refine cndF rfl ?_ | refine c_dec rfl (fun hc => ?_) (fun hc => ?_) | refine c_ndec rfl (fun hc => ?_) (fun hc => ?_) | refine cnd rfl (fun hc => ?_) (fun hc => ?_) | refine gd rfl rfl rfl (fun hg => ?_) (fun hg => ?_) | refine gn rfl rfl rfl (fun hg => ?_) (fun hg => ?_)
  refine lpR (fun k => k ≤ l.length ∧ ∀ j (h : j < k), ∀ h2 : j < l.length, (!partOk l[j]) = false) (fun k => l.length - k) (fun k => [(8, I k)]) (fun k => []) (0) [0, 1, 7] [] [] rfl rfl rfl (.of [] (by (repeat' first | exact trivial | refine And.intro ?_ ?_ | rfl); first | done | fail) (by (repeat' first | exact trivial | refine And.intro ?_ ?_ | rfl); first | done | fail) rfl) ?_ ?_
  · exact ⟨Nat.zero_le _, fun j h => by omega⟩
  rintro k ⟨hk, hall⟩
  refine nrm rfl rfl ?_
  repeat' first | refine wr (by omega) ?_ | refine ln ?_ | refine stp lay_ok rfl ?_ | refine fin ?_ | refine n_thn ?_ | refine n_blk ?_ | refine e_thn ?_ | refine e_hit ?_ | refine e_miss rfl ?_ | refine r_thn ?_ | refine r_blk ?_ | refine e_rr ?_ | refine r_rr ?_ | refine e_cr ?_ | refine r_cr ?_ | refine .seq ?_ | refine reg ?_ | refine .block ?_ | refine .skip ?_ | refine .ret ?_ | refine .exit ?_ | refine cndT rfl ?_ | refine cndF rfl ?_ | refine c_dec rfl (fun hc => ?_) (fun hc => ?_) | refine c_ndec rfl (fun hc => ?_) (fun hc => ?_) | refine cnd rfl (fun hc => ?_) (fun hc => ?_) | refine gd rfl rfl rfl (fun hg => ?_) (fun hg => ?_) | refine gn rfl rfl rfl (fun hg => ?_) (fun hg => ?_)
  · have hk' : k < l.length := by omega
    have hat := at_rowS hk'
    have h1 := parts1_ok l[k] (hs _ (List.getElem_mem hk'))
    cases hp : partOk l[k] with
    | false =>
      rw [hp] at h1
      repeat' first | refine wr (by omega) ?_ | refine ln ?_ | refine stp lay_ok rfl ?_ | refine fin ?_ | refine n_thn ?_ | refine n_blk ?_ | refine e_thn ?_ | refine e_hit ?_ | refine e_miss rfl ?_ | refine r_thn ?_ | refine r_blk ?_ | refine e_rr ?_ | refine r_rr ?_ | refine e_cr ?_ | refine r_cr ?_ | refine .seq ?_ | refine reg ?_ | refine .block ?_ | refine .skip ?_ | refine .ret ?_ | refine .exit ?_ | refine cndT rfl ?_ | refine cndF rfl ?_ | refine c_dec rfl (fun hc => ?_) (fun hc => ?_) | refine c_ndec rfl (fun hc => ?_) (fun hc => ?_) | refine cnd rfl (fun hc => ?_) (fun hc => ?_) | ((first | refine o_none rfl ?_ | refine o_none_ ?_ | refine o_yes rfl rfl rfl ?_ | refine o_yes_ rfl rfl ?_); first | refine st_index (rowS l[k]) lay_ok rfl rfl rfl rfl (by omega) hat ?_ | refine st_pure (h1) b68 rfl rfl rfl rfl ?_) | refine gd rfl rfl rfl (fun hg => ?_) (fun hg => ?_) | refine gn rfl rfl rfl (fun hg => ?_) (fun hg => ?_)
      refine f_r [] rfl trivial rfl ⟨?_, rfl⟩
      rw [fidx_step _ l k hk' (fun j h => hall j h _) (by rw [hp]; rfl)]; rfl
    | true =>
      rw [hp] at h1
      repeat' first | refine wr (by omega) ?_ | refine ln ?_ | refine stp lay_ok rfl ?_ | refine fin ?_ | refine n_thn ?_ | refine n_blk ?_ | refine e_thn ?_ | refine e_hit ?_ | refine e_miss rfl ?_ | refine r_thn ?_ | refine r_blk ?_ | refine e_rr ?_ | refine r_rr ?_ | refine e_cr ?_ | refine r_cr ?_ | refine .seq ?_ | refine reg ?_ | refine .block ?_ | refine .skip ?_ | refine .ret ?_ | refine .exit ?_ | refine cndT rfl ?_ | refine cndF rfl ?_ | refine c_dec rfl (fun hc => ?_) (fun hc => ?_) | refine c_ndec rfl (fun hc => ?_) (fun hc => ?_) | refine cnd rfl (fun hc => ?_) (fun hc => ?_) | ((first | refine o_none rfl ?_ | refine o_none_ ?_ | refine o_yes rfl rfl rfl ?_ | refine o_yes_ rfl rfl ?_); first | refine st_index (rowS l[k]) lay_ok rfl rfl rfl rfl (by omega) hat ?_ | refine st_pure (h1) b68 rfl rfl rfl rfl ?_) | refine gd rfl rfl rfl (fun hg => ?_) (fun hg => ?_) | refine gn rfl rfl rfl (fun hg => ?_) (fun hg => ?_)
      refine n_rr (k + 1) ?_ (.of [] (by (repeat' first | exact trivial | refine And.intro ?_ ?_ | rfl); first | done | fail) (by (repeat' first | exact trivial | refine And.intro ?_ ?_ | rfl); first | done | fail) rfl) ?_
      · omega
      · refine ⟨hk', fun j h h2 => ?_⟩
        by_cases hj : j = k
        · subst hj; rw [hp]; rfl
        · exact hall j (by omega) h2
  · refine f_r [] rfl trivial rfl ⟨?_, rfl⟩
    rw [fidx_none _ l (fun j h => hall j (by omega) h)]; rfl
theorem conParts_ok (l : List ByteArray) (hl : l.length ≤ 4000000000) (hs : ∀ s ∈ l, s.size ≤ 4000000000) : ACalls prog 67 0 [.st (.sl 1 (l.map rowS)), fnP] [] fun r h => r = B (l.any fun s => !partOk s) ∧ h = [] := by
  refine fnC lay_ok func67 rfl rfl rfl rfl rfl ?_
  have h1 := idxParts_ok l hl hs
  repeat' first | refine wr (by omega) ?_ | refine ln ?_ | refine stp lay_ok rfl ?_ | refine fin ?_ | refine n_thn ?_ | refine n_blk ?_ | refine e_thn ?_ | refine e_hit ?_ | refine e_miss rfl ?_ | refine r_thn ?_ | refine r_blk ?_ | refine e_rr ?_ | refine r_rr ?_ | refine e_cr ?_ | refine r_cr ?_ | refine .seq ?_ | refine reg ?_ | refine .block ?_ | refine .skip ?_ | refine .ret ?_ | refine .exit ?_ | refine cndT rfl ?_ | refine cndF rfl ?_ | refine c_dec rfl (fun hc => ?_) (fun hc => ?_) | refine c_ndec rfl (fun hc => ?_) (fun hc => ?_) | refine cnd rfl (fun hc => ?_) (fun hc => ?_) | ((first | refine o_none rfl ?_ | refine o_none_ ?_ | refine o_yes rfl rfl rfl ?_ | refine o_yes_ rfl rfl ?_); first | refine st_pure (h1) b76 rfl rfl rfl rfl ?_) | refine gd rfl rfl rfl (fun hg => ?_) (fun hg => ?_) | refine gn rfl rfl rfl (fun hg => ?_) (fun hg => ?_)
  refine f_r [] rfl trivial rfl ⟨?_, rfl⟩
  rw [← fidx_any]; rfl
end Go.Proofs.YtgjoloaajocafaaDoorFn
namespace Go.Proofs.YtgjoloaajocafaaDoorFn
open Go.Proofs.YtgjoloaajocafaaDoorAl Go.Proofs.Tryd
attribute [local irreducible] IntKind.wrap CodeOk OpsL OpG ACalls thn inBlk rndR cutR WkR Wk fnR DW ExtOk partsOf
def pathOk (s : ByteArray) : Bool := decide ((partsOf s).length ≤ 8) && (partsOf s).all partOk
theorem any_not {α : Type} (p : α → Bool) (l : List α) : (l.any fun x => !p x) = !(l.all p) := by
  induction l with
  | nil => rfl
  | cons x xs ih => simp only [List.any_cons, List.all_cons, ih, Bool.not_and]
theorem spl_len : ∀ (l : List UInt8), ∀ x ∈ spl l, x.length ≤ l.length
  | [], x, h => by simp [spl] at h; subst h; simp
  | b :: r, x, h => by
    have ih := spl_len r
    simp only [spl] at h
    split at h
    · rcases List.mem_cons.1 h with rfl | h
      · simp
      · have := ih x h; simp; omega
    · split at h
      · simp at h; subst h; simp
      · rename_i y ys e
        rw [e] at ih
        rcases List.mem_cons.1 h with rfl | h
        · have := ih y (by simp); simp; omega
        · have := ih x (by simp [h]); simp; omega
theorem parts_size (s : ByteArray) : ∀ x ∈ partsOf s, x.size ≤ s.size := by
  intro x hx
  unfold partsOf at hx
  obtain ⟨l, hl, rfl⟩ := List.mem_map.1 hx
  have := spl_len _ l hl
  rw [Array.length_toList] at this
  exact this
theorem parts_ne (s : ByteArray) : (partsOf s).map rowS ≠ [] := by
  unfold partsOf
  simp [spl_ne]
theorem parts_ok (s : ByteArray) (hs : s.size ≤ 4000000000 - 1) : ACalls prog 60 0 [Sx s] [] fun r h => r = (if pathOk s then .st (.sl 1 ((partsOf s).map rowS)) else .st .nilsl) ∧ h = [] := by
  refine fnC lay_ok func60 rfl rfl rfl rfl rfl ?_
  have h1 := split_ok s (by omega)
  have hl : (partsOf s).length ≤ 4000000000 := by
    rw [parts_len]
    have := List.count_le_length (a := (47 : UInt8)) (l := s.data.toList)
    rw [Array.length_toList] at this
    have e : s.data.size = s.size := rfl
    omega
  have h2 := conParts_ok (partsOf s) hl (fun x hx => by have := parts_size s x hx; omega)
  rw [any_not] at h2
  have hp : pathOk s = (decide ((partsOf s).length ≤ 8) && (partsOf s).all partOk) := rfl
  cases ha : (partsOf s).all partOk with
  | false =>
    rw [ha] at h2 hp
    repeat' first | refine wr (by omega) ?_ | refine ln ?_ | refine stp lay_ok rfl ?_ | refine fin ?_ | refine n_thn ?_ | refine n_blk ?_ | refine e_thn ?_ | refine e_hit ?_ | refine e_miss rfl ?_ | refine r_thn ?_ | refine r_blk ?_ | refine e_rr ?_ | refine r_rr ?_ | refine e_cr ?_ | refine r_cr ?_ | refine .seq ?_ | refine reg ?_ | refine .block ?_ | refine .skip ?_ | refine .ret ?_ | refine .exit ?_ | refine cndT rfl ?_ | refine cndF rfl ?_ | refine c_dec rfl (fun hc => ?_) (fun hc => ?_) | refine c_ndec rfl (fun hc => ?_) (fun hc => ?_) | refine cnd rfl (fun hc => ?_) (fun hc => ?_) | ((first | refine o_none rfl ?_ | refine o_none_ ?_ | refine o_yes rfl rfl rfl ?_ | refine o_yes_ rfl rfl ?_); first | refine st_pure (h1) b66 rfl rfl rfl rfl ?_ | refine st_pure (h2) b67 rfl rfl rfl rfl ?_) | refine gd rfl rfl rfl (fun hg => ?_) (fun hg => ?_) | refine gn rfl rfl rfl (fun hg => ?_) (fun hg => ?_)
    all_goals
      refine f_r [] rfl trivial rfl ⟨?_, rfl⟩
      rw [hp]; simp [retOf]
  | true =>
    rw [ha] at h2 hp
    repeat' first | refine wr (by omega) ?_ | refine ln ?_ | refine stp lay_ok rfl ?_ | refine fin ?_ | refine n_thn ?_ | refine n_blk ?_ | refine e_thn ?_ | refine e_hit ?_ | refine e_miss rfl ?_ | refine r_thn ?_ | refine r_blk ?_ | refine e_rr ?_ | refine r_rr ?_ | refine e_cr ?_ | refine r_cr ?_ | refine .seq ?_ | refine reg ?_ | refine .block ?_ | refine .skip ?_ | refine .ret ?_ | refine .exit ?_ | refine cndT rfl ?_ | refine cndF rfl ?_ | refine c_dec rfl (fun hc => ?_) (fun hc => ?_) | refine c_ndec rfl (fun hc => ?_) (fun hc => ?_) | refine cnd rfl (fun hc => ?_) (fun hc => ?_) | ((first | refine o_none rfl ?_ | refine o_none_ ?_ | refine o_yes rfl rfl rfl ?_ | refine o_yes_ rfl rfl ?_); first | refine st_pure (h1) b66 rfl rfl rfl rfl ?_ | refine st_pure (h2) b67 rfl rfl rfl rfl ?_) | refine gd rfl rfl rfl (fun hg => ?_) (fun hg => ?_) | refine gn rfl rfl rfl (fun hg => ?_) (fun hg => ?_)
    · refine f_r [] rfl trivial rfl ⟨?_, rfl⟩
      rw [hp, decide_eq_false (by omega)]; rfl
    · refine f_r [] rfl trivial rfl ⟨?_, rfl⟩
      rw [hp, decide_eq_true (by omega)]; rfl
theorem pathCheck_ok (s : ByteArray) (hs : s.size ≤ 4000000000 - 1) : ACalls prog 47 0 [Sx s] [] fun r h => r = (if pathOk s then nilE else errE 2) ∧ h = [] := by
  refine fnC lay_ok func47 rfl rfl rfl rfl rfl ?_
  have h1 := parts_ok s hs
  cases hp : pathOk s with
  | false =>
    rw [hp] at h1
    rw [if_neg (by simp)] at h1
    repeat' first | refine wr (by omega) ?_ | refine ln ?_ | refine stp lay_ok rfl ?_ | refine fin ?_ | refine n_thn ?_ | refine n_blk ?_ | refine e_thn ?_ | refine e_hit ?_ | refine e_miss rfl ?_ | refine r_thn ?_ | refine r_blk ?_ | refine e_rr ?_ | refine r_rr ?_ | refine e_cr ?_ | refine r_cr ?_ | refine .seq ?_ | refine reg ?_ | refine .block ?_ | refine .skip ?_ | refine .ret ?_ | refine .exit ?_ | refine cndT rfl ?_ | refine cndF rfl ?_ | refine c_dec rfl (fun hc => ?_) (fun hc => ?_) | refine c_ndec rfl (fun hc => ?_) (fun hc => ?_) | refine cnd rfl (fun hc => ?_) (fun hc => ?_) | ((first | refine o_none rfl ?_ | refine o_none_ ?_ | refine o_yes rfl rfl rfl ?_ | refine o_yes_ rfl rfl ?_); first | refine st_pure (h1) b60 rfl rfl rfl rfl ?_) | refine gd rfl rfl rfl (fun hg => ?_) (fun hg => ?_) | refine gn rfl rfl rfl (fun hg => ?_) (fun hg => ?_)
    refine f_r [] rfl trivial rfl ⟨?_, rfl⟩; rfl
  | true =>
    rw [hp] at h1
    rw [if_pos rfl] at h1
    have hne := parts_ne s
    repeat' first | refine wr (by omega) ?_ | refine ln ?_ | refine stp lay_ok rfl ?_ | refine fin ?_ | refine n_thn ?_ | refine n_blk ?_ | refine e_thn ?_ | refine e_hit ?_ | refine e_miss rfl ?_ | refine r_thn ?_ | refine r_blk ?_ | refine e_rr ?_ | refine r_rr ?_ | refine e_cr ?_ | refine r_cr ?_ | refine .seq ?_ | refine reg ?_ | refine .block ?_ | refine .skip ?_ | refine .ret ?_ | refine .exit ?_ | refine cndT rfl ?_ | refine cndF rfl ?_ | refine c_dec rfl (fun hc => ?_) (fun hc => ?_) | refine c_ndec rfl (fun hc => ?_) (fun hc => ?_) | refine cnd rfl (fun hc => ?_) (fun hc => ?_) | ((first | refine o_none rfl ?_ | refine o_none_ ?_ | refine o_yes rfl rfl rfl ?_ | refine o_yes_ rfl rfl ?_); first | refine st_pure (h1) b60 rfl rfl rfl rfl ?_ | refine st_nilSl lay_ok rfl rfl rfl rfl (fun b hb => ?_)) | refine gd rfl rfl rfl (fun hg => ?_) (fun hg => ?_) | refine gn rfl rfl rfl (fun hg => ?_) (fun hg => ?_)
    · have hc : b = true := by assumption
      exact absurd (hb hc) hne
    · refine f_r [] rfl trivial rfl ⟨?_, rfl⟩; rfl
def under (d s : ByteArray) : Bool := pathOk d && pathOk s && decide ((d ++ slash).size ≤ s.size ∧ s.extract 0 (d ++ slash).size = d ++ slash)
theorem under_ok (d s : ByteArray) (hd : d.size ≤ 4000000000 - 1) (hs : s.size ≤ 4000000000 - 1) : ACalls prog 72 0 [Sx d, Sx s] [] fun r h => r = B (under d s) ∧ h = [] := by
  refine fnC lay_ok func72 rfl rfl rfl rfl rfl ?_
  have h1 := pathCheck_ok d hd
  have h2 := pathCheck_ok s hs
  have h3 := hasPrefix_ok s (d ++ slash)
  have hcat : d.size + slash.size ≤ 9223372036854775807 := by
    have hsl : slash.size = 1 := rfl
    omega
  cases hpd : pathOk d <;> cases hps : pathOk s <;> simp only [hpd, hps, if_true, if_false, Bool.false_eq_true] at h1 h2
  all_goals
    repeat' first | refine wr (by omega) ?_ | refine ln ?_ | refine stp lay_ok rfl ?_ | refine fin ?_ | refine n_thn ?_ | refine n_blk ?_ | refine e_thn ?_ | refine e_hit ?_ | refine e_miss rfl ?_ | refine r_thn ?_ | refine r_blk ?_ | refine e_rr ?_ | refine r_rr ?_ | refine e_cr ?_ | refine r_cr ?_ | refine .seq ?_ | refine reg ?_ | refine .block ?_ | refine .skip ?_ | refine .ret ?_ | refine .exit ?_ | refine cndT rfl ?_ | refine cndF rfl ?_ | refine c_dec rfl (fun hc => ?_) (fun hc => ?_) | refine c_ndec rfl (fun hc => ?_) (fun hc => ?_) | refine cnd rfl (fun hc => ?_) (fun hc => ?_) | ((first | refine o_none rfl ?_ | refine o_none_ ?_ | refine o_yes rfl rfl rfl ?_ | refine o_yes_ rfl rfl ?_); first | refine st_pure (h1) b47 rfl rfl rfl rfl ?_ | refine st_pure (h2) b47 rfl rfl rfl rfl ?_ | refine st_cat rfl rfl hcat ?_ | refine st_pure (h3) b82 rfl rfl rfl rfl ?_) | refine gd rfl rfl rfl (fun hg => ?_) (fun hg => ?_) | refine gn rfl rfl rfl (fun hg => ?_) (fun hg => ?_)
    refine f_r [] rfl trivial rfl ⟨?_, rfl⟩
    simp [retOf, under, hpd, hps]
end Go.Proofs.YtgjoloaajocafaaDoorFn
namespace Go.Proofs.YtgjoloaajocafaaDoorFn
open Go.Proofs.YtgjoloaajocafaaDoorAl Go.Proofs.Tryd
attribute [local irreducible] IntKind.wrap CodeOk OpsL OpG ACalls thn inBlk rndR cutR WkR Wk fnR DW ExtOk partsOf
theorem b73 : HasBody prog 73 := ⟨f73, func73, Option.some_ne_none _, by decide⟩
theorem b63 : HasBody prog 63 := ⟨f63, func63, Option.some_ne_none _, by decide⟩
theorem b71 : HasBody prog 71 := ⟨f71, func71, Option.some_ne_none _, by decide⟩
theorem b50 : HasBody prog 50 := ⟨f50, func50, Option.some_ne_none _, by decide⟩
theorem b51 : HasBody prog 51 := ⟨f51, func51, Option.some_ne_none _, by decide⟩
theorem b64 : HasBody prog 64 := ⟨f64, func64, Option.some_ne_none _, by decide⟩
structure EV where
  path : ByteArray
  size : Int
  keys : List ByteArray
deriving DecidableEq
def rowE (e : EV) : List SV := [.str e.path, .int .i64 e.size, .sl 1 (e.keys.map rowS)]
theorem at_rowE {l : List EV} {k : Nat} (h : k < l.length) : (l.map rowE)[((k : Nat) : Int).toNat]? = some (rowE l[k]) := by simp [h]
def tot : List ByteArray → Nat
  | [] => 0
  | x :: r => x.size + tot r
theorem tot_app (a b : List ByteArray) : tot (a ++ b) = tot a + tot b := by
  induction a with
  | nil => simp [tot]
  | cons x r ih => simp only [List.cons_append, tot, ih]; omega
theorem tot_take {l : List ByteArray} {k : Nat} (h : k < l.length) : tot (l.take (k + 1)) = tot (l.take k) + l[k].size := by
  rw [List.take_succ_eq_append_getElem h, tot_app]; rfl
def keyOk (k : ByteArray) : Bool := decide (1 ≤ k.size ∧ k.size ≤ 64)
theorem all_take {α : Type} {p : α → Bool} {l : List α} {k : Nat} (h : k < l.length) : (l.take (k + 1)).all p = ((l.take k).all p && p l[k]) := by
  rw [List.take_succ_eq_append_getElem h, List.all_append]; simp only [List.all_cons, List.all_nil, Bool.and_true]
theorem all_not {α : Type} {p : α → Bool} {l : List α} {k : Nat} (h : k < l.length) (hp : p l[k] = false) : l.all p = false := by
  rw [List.all_eq_false]
  exact ⟨_, List.getElem_mem h, by simp [hp]⟩
def wholeB (e : EV) : Bool := e.keys.all keyOk && decide ((tot e.keys : Int) = e.size) && decide (tot e.keys ≤ 1024)
theorem whole_ok (e : EV) (hk : e.keys.length ≤ 4000000000) : ACalls prog 73 0 [.st (.agg (rowE e))] [] fun r h => r = B (wholeB e) ∧ h = [] := by
  obtain ⟨p, z, l⟩ := e
  simp only [rowE, wholeB] at hk ⊢
  refine fnC lay_ok func73 rfl rfl rfl rfl rfl ?_
  repeat' first | refine o_frb 0 [.str p, .int .i64 z, .sl 1 (l.map rowS)] rfl rfl rfl (by (repeat' first | exact trivial | refine And.intro ?_ ?_ | rfl); first | done | fail) (by (repeat' first | exact trivial | refine And.intro ?_ ?_ | rfl); first | done | fail) rfl rfl ?_ | refine wr (by omega) ?_ | refine ln ?_ | refine stp lay_ok rfl ?_ | refine fin ?_ | refine n_thn ?_ | refine n_blk ?_ | refine e_thn ?_ | refine e_hit ?_ | refine e_miss rfl ?_ | refine r_thn ?_ | refine r_blk ?_ | refine e_rr ?_ | refine r_rr ?_ | refine e_cr ?_ | refine r_cr ?_ | refine .seq ?_ | refine reg ?_ | refine .block ?_ | refine .skip ?_ | refine .ret ?_ | refine .exit ?_ | refine cndT rfl ?_ | refine cndF rfl ?_ | refine c_dec rfl (fun hc => ?_) (fun hc => ?_) | refine c_ndec rfl (fun hc => ?_) (fun hc => ?_) | refine cnd rfl (fun hc => ?_) (fun hc => ?_) | refine gd rfl rfl rfl (fun hg => ?_) (fun hg => ?_) | refine gn rfl rfl rfl (fun hg => ?_) (fun hg => ?_)
  refine lpR (fun k => k ≤ l.length ∧ (l.take k).all keyOk = true ∧ tot (l.take k) ≤ 64 * k) (fun k => l.length - k) (fun k => [(9, I k), (3, I (tot (l.take k)))]) (fun k => []) (0) [1, 7, 8] [] [] rfl rfl rfl (.of [] (by (repeat' first | exact trivial | refine And.intro ?_ ?_ | rfl); first | done | fail) (by (repeat' first | exact trivial | refine And.intro ?_ ?_ | rfl); first | done | fail) rfl) ?_ ?_
  · exact ⟨Nat.zero_le _, rfl, by simp [tot]⟩
  rintro k ⟨h1, h2, h3⟩
  refine nrm rfl rfl ?_
  repeat' first | refine wr (by omega) ?_ | refine ln ?_ | refine stp lay_ok rfl ?_ | refine fin ?_ | refine n_thn ?_ | refine n_blk ?_ | refine e_thn ?_ | refine e_hit ?_ | refine e_miss rfl ?_ | refine r_thn ?_ | refine r_blk ?_ | refine e_rr ?_ | refine r_rr ?_ | refine e_cr ?_ | refine r_cr ?_ | refine .seq ?_ | refine reg ?_ | refine .block ?_ | refine .skip ?_ | refine .ret ?_ | refine .exit ?_ | refine cndT rfl ?_ | refine cndF rfl ?_ | refine c_dec rfl (fun hc => ?_) (fun hc => ?_) | refine c_ndec rfl (fun hc => ?_) (fun hc => ?_) | refine cnd rfl (fun hc => ?_) (fun hc => ?_) | refine gd rfl rfl rfl (fun hg => ?_) (fun hg => ?_) | refine gn rfl rfl rfl (fun hg => ?_) (fun hg => ?_)
  · have hk' : k < l.length := by omega
    have hat := at_rowS hk'
    have ht := tot_take hk'
    have ha := all_take (p := keyOk) hk'
    generalize hx : l[k] = x at *
    repeat' first | refine wr (by omega) ?_ | refine ln ?_ | refine stp lay_ok rfl ?_ | refine fin ?_ | refine n_thn ?_ | refine n_blk ?_ | refine e_thn ?_ | refine e_hit ?_ | refine e_miss rfl ?_ | refine r_thn ?_ | refine r_blk ?_ | refine e_rr ?_ | refine r_rr ?_ | refine e_cr ?_ | refine r_cr ?_ | refine .seq ?_ | refine reg ?_ | refine .block ?_ | refine .skip ?_ | refine .ret ?_ | refine .exit ?_ | refine cndT rfl ?_ | refine cndF rfl ?_ | refine c_dec rfl (fun hc => ?_) (fun hc => ?_) | refine c_ndec rfl (fun hc => ?_) (fun hc => ?_) | refine cnd rfl (fun hc => ?_) (fun hc => ?_) | ((first | refine o_none rfl ?_ | refine o_none_ ?_ | refine o_yes rfl rfl rfl ?_ | refine o_yes_ rfl rfl ?_); first | refine st_index (rowS x) lay_ok rfl rfl rfl rfl (by omega) hat ?_) | refine gd rfl rfl rfl (fun hg => ?_) (fun hg => ?_) | refine gn rfl rfl rfl (fun hg => ?_) (fun hg => ?_)
    · refine f_r [] rfl trivial rfl ⟨?_, rfl⟩
      have : l.all keyOk = false := all_not hk' (by rw [hx]; simp [keyOk]; omega)
      rw [this]; rfl
    · refine f_r [] rfl trivial rfl ⟨?_, rfl⟩
      have : l.all keyOk = false := all_not hk' (by rw [hx]; simp [keyOk]; omega)
      rw [this]; rfl
    · refine n_rr (k + 1) ?_ (.of [] (by (repeat' first | exact trivial | refine And.intro ?_ ?_ | rfl | rw [ht]; push_cast; rfl); first | done | fail) (by (repeat' first | exact trivial | refine And.intro ?_ ?_ | rfl | rw [ht]; push_cast; rfl); first | done | fail) rfl) ?_
      · omega
      · refine ⟨hk', ?_, by omega⟩
        rw [ha, h2]; simp [keyOk]; omega
  · have hk' : k = l.length := by omega
    subst hk'
    rw [List.take_length] at *
    rw [h2]
    refine f_r [] rfl trivial rfl ⟨?_, rfl⟩
    simp only [retOf, B, AV.st.injEq, SV.bool.injEq]
    rw [Bool.eq_iff_iff]; simp; omega
  · have hk' : k = l.length := by omega
    subst hk'
    rw [List.take_length] at *
    rw [h2]
    refine f_r [] rfl trivial rfl ⟨?_, rfl⟩
    simp only [retOf, B, AV.st.injEq, SV.bool.injEq]
    rw [Bool.eq_iff_iff]; simp; omega
theorem entry1_ok (e x : EV) (he : e.path.size ≤ 4000000000 - 1) (hx : x.path.size ≤ 4000000000 - 1) : ACalls prog 71 0 [.st (.agg (rowE x)), .st (.sptr (rowE e))] [] fun r h => r = B (under x.path e.path) ∧ h = [] := by
  obtain ⟨p, z, l⟩ := e
  obtain ⟨p', z', l'⟩ := x
  have h1 := under_ok p' p hx he
  refine fnC lay_ok func71 rfl rfl rfl rfl rfl ?_
  repeat' first | refine wr (by omega) ?_ | refine ln ?_ | refine stp lay_ok rfl ?_ | refine fin ?_ | refine n_thn ?_ | refine n_blk ?_ | refine e_thn ?_ | refine e_hit ?_ | refine e_miss rfl ?_ | refine r_thn ?_ | refine r_blk ?_ | refine e_rr ?_ | refine r_rr ?_ | refine e_cr ?_ | refine r_cr ?_ | refine .seq ?_ | refine reg ?_ | refine .block ?_ | refine .skip ?_ | refine .ret ?_ | refine .exit ?_ | refine cndT rfl ?_ | refine cndF rfl ?_ | refine c_dec rfl (fun hc => ?_) (fun hc => ?_) | refine c_ndec rfl (fun hc => ?_) (fun hc => ?_) | refine cnd rfl (fun hc => ?_) (fun hc => ?_) | ((first | refine o_none rfl ?_ | refine o_none_ ?_ | refine o_yes rfl rfl rfl ?_ | refine o_yes_ rfl rfl ?_); first | refine st_pure (h1) b72 rfl rfl rfl rfl ?_) | refine gd rfl rfl rfl (fun hg => ?_) (fun hg => ?_) | refine gn rfl rfl rfl (fun hg => ?_) (fun hg => ?_)
  refine f_r [] rfl trivial rfl ⟨?_, rfl⟩; rfl
abbrev fnS (f : Nat) (cs : List SV) : AV := .fn (.func f) [] [.st (.sptr cs)]
theorem idxE_ok (f : Nat) (bf : HasBody prog f) (cs : List SV) (p : EV → Bool) (l : List EV) (hl : l.length ≤ 4000000000) (hf : ∀ e ∈ l, ACalls prog f 0 [.st (.agg (rowE e)), .st (.sptr cs)] [] fun r h => r = B (p e) ∧ h = []) :
    ACalls prog 64 0 [.st (.sl 3 (l.map rowE)), fnS f cs] [] fun r h => r = I (fidx p l) ∧ h = [] := by
  refine fnC lay_ok func64 rfl rfl rfl rfl rfl ?_
  repeat' first | refine wr (by omega) ?_ | refine ln ?_ | refine stp lay_ok rfl ?_ | refine fin ?_ | refine n_thn ?_ | refine n_blk ?_ | refine e_thn ?_ | refine e_hit ?_ | refine e_miss rfl ?_ | refine r_thn ?_ | refine r_blk ?_ | refine e_rr ?_ | refine r_rr ?_ | refine e_cr ?_ | refine r_cr ?_ | refine .seq ?_ | refine reg ?_ | refine .block ?_ | refine .skip ?_ | refine .ret ?_ | refine .exit ?_ | refine cndT rfl ?_ | refine cndF rfl ?_ | refine c_dec rfl (fun hc => ?_) (fun hc => ?_) | refine c_ndec rfl (fun hc => ?_) (fun hc => ?_) | refine cnd rfl (fun hc => ?_) (fun hc => ?_) | refine gd rfl rfl rfl (fun hg => ?_) (fun hg => ?_) | refine gn rfl rfl rfl (fun hg => ?_) (fun hg => ?_)
  refine lpR (fun k => k ≤ l.length ∧ ∀ j (h : j < k), ∀ h2 : j < l.length, p l[j] = false) (fun k => l.length - k) (fun k => [(8, I k)]) (fun k => []) (0) [0, 1, 7] [] [] rfl rfl rfl (.of [] (by (repeat' first | exact trivial | refine And.intro ?_ ?_ | rfl); first | done | fail) (by (repeat' first | exact trivial | refine And.intro ?_ ?_ | rfl); first | done | fail) rfl) ?_ ?_
  · exact ⟨Nat.zero_le _, fun j h => by omega⟩
  rintro k ⟨hk, hall⟩
  refine nrm rfl rfl ?_
  repeat' first | refine wr (by omega) ?_ | refine ln ?_ | refine stp lay_ok rfl ?_ | refine fin ?_ | refine n_thn ?_ | refine n_blk ?_ | refine e_thn ?_ | refine e_hit ?_ | refine e_miss rfl ?_ | refine r_thn ?_ | refine r_blk ?_ | refine e_rr ?_ | refine r_rr ?_ | refine e_cr ?_ | refine r_cr ?_ | refine .seq ?_ | refine reg ?_ | refine .block ?_ | refine .skip ?_ | refine .ret ?_ | refine .exit ?_ | refine cndT rfl ?_ | refine cndF rfl ?_ | refine c_dec rfl (fun hc => ?_) (fun hc => ?_) | refine c_ndec rfl (fun hc => ?_) (fun hc => ?_) | refine cnd rfl (fun hc => ?_) (fun hc => ?_) | refine gd rfl rfl rfl (fun hg => ?_) (fun hg => ?_) | refine gn rfl rfl rfl (fun hg => ?_) (fun hg => ?_)
  · have hk' : k < l.length := by omega
    have hat := at_rowE hk'
    have h1 := hf l[k] (List.getElem_mem hk')
    cases hp : p l[k] with
    | true =>
      rw [hp] at h1
      repeat' first | refine wr (by omega) ?_ | refine ln ?_ | refine stp lay_ok rfl ?_ | refine fin ?_ | refine n_thn ?_ | refine n_blk ?_ | refine e_thn ?_ | refine e_hit ?_ | refine e_miss rfl ?_ | refine r_thn ?_ | refine r_blk ?_ | refine e_rr ?_ | refine r_rr ?_ | refine e_cr ?_ | refine r_cr ?_ | refine .seq ?_ | refine reg ?_ | refine .block ?_ | refine .skip ?_ | refine .ret ?_ | refine .exit ?_ | refine cndT rfl ?_ | refine cndF rfl ?_ | refine c_dec rfl (fun hc => ?_) (fun hc => ?_) | refine c_ndec rfl (fun hc => ?_) (fun hc => ?_) | refine cnd rfl (fun hc => ?_) (fun hc => ?_) | ((first | refine o_none rfl ?_ | refine o_none_ ?_ | refine o_yes rfl rfl rfl ?_ | refine o_yes_ rfl rfl ?_); first | refine st_index (rowE l[k]) lay_ok rfl rfl rfl rfl (by omega) hat ?_ | refine st_pure (h1) bf rfl rfl rfl rfl ?_) | refine gd rfl rfl rfl (fun hg => ?_) (fun hg => ?_) | refine gn rfl rfl rfl (fun hg => ?_) (fun hg => ?_)
      refine f_r [] rfl trivial rfl ⟨?_, rfl⟩
      rw [fidx_step _ l k hk' (fun j h => hall j h _) hp]; rfl
    | false =>
      rw [hp] at h1
      repeat' first | refine wr (by omega) ?_ | refine ln ?_ | refine stp lay_ok rfl ?_ | refine fin ?_ | refine n_thn ?_ | refine n_blk ?_ | refine e_thn ?_ | refine e_hit ?_ | refine e_miss rfl ?_ | refine r_thn ?_ | refine r_blk ?_ | refine e_rr ?_ | refine r_rr ?_ | refine e_cr ?_ | refine r_cr ?_ | refine .seq ?_ | refine reg ?_ | refine .block ?_ | refine .skip ?_ | refine .ret ?_ | refine .exit ?_ | refine cndT rfl ?_ | refine cndF rfl ?_ | refine c_dec rfl (fun hc => ?_) (fun hc => ?_) | refine c_ndec rfl (fun hc => ?_) (fun hc => ?_) | refine cnd rfl (fun hc => ?_) (fun hc => ?_) | ((first | refine o_none rfl ?_ | refine o_none_ ?_ | refine o_yes rfl rfl rfl ?_ | refine o_yes_ rfl rfl ?_); first | refine st_index (rowE l[k]) lay_ok rfl rfl rfl rfl (by omega) hat ?_ | refine st_pure (h1) bf rfl rfl rfl rfl ?_) | refine gd rfl rfl rfl (fun hg => ?_) (fun hg => ?_) | refine gn rfl rfl rfl (fun hg => ?_) (fun hg => ?_)
      refine n_rr (k + 1) ?_ (.of [] (by (repeat' first | exact trivial | refine And.intro ?_ ?_ | rfl); first | done | fail) (by (repeat' first | exact trivial | refine And.intro ?_ ?_ | rfl); first | done | fail) rfl) ?_
      · omega
      · refine ⟨hk', fun j h h2 => ?_⟩
        by_cases hj : j = k
        · subst hj; exact hp
        · exact hall j (by omega) h2
  · refine f_r [] rfl trivial rfl ⟨?_, rfl⟩
    rw [fidx_none _ l (fun j h => hall j (by omega) h)]; rfl
theorem conE_ok (f : Nat) (bf : HasBody prog f) (cs : List SV) (p : EV → Bool) (l : List EV) (hl : l.length ≤ 4000000000) (hf : ∀ e ∈ l, ACalls prog f 0 [.st (.agg (rowE e)), .st (.sptr cs)] [] fun r h => r = B (p e) ∧ h = []) :
    ACalls prog 51 0 [.st (.sl 3 (l.map rowE)), fnS f cs] [] fun r h => r = B (l.any p) ∧ h = [] := by
  refine fnC lay_ok func51 rfl rfl rfl rfl rfl ?_
  have h1 := idxE_ok f bf cs p l hl hf
  repeat' first | refine wr (by omega) ?_ | refine ln ?_ | refine stp lay_ok rfl ?_ | refine fin ?_ | refine n_thn ?_ | refine n_blk ?_ | refine e_thn ?_ | refine e_hit ?_ | refine e_miss rfl ?_ | refine r_thn ?_ | refine r_blk ?_ | refine e_rr ?_ | refine r_rr ?_ | refine e_cr ?_ | refine r_cr ?_ | refine .seq ?_ | refine reg ?_ | refine .block ?_ | refine .skip ?_ | refine .ret ?_ | refine .exit ?_ | refine cndT rfl ?_ | refine cndF rfl ?_ | refine c_dec rfl (fun hc => ?_) (fun hc => ?_) | refine c_ndec rfl (fun hc => ?_) (fun hc => ?_) | refine cnd rfl (fun hc => ?_) (fun hc => ?_) | ((first | refine o_none rfl ?_ | refine o_none_ ?_ | refine o_yes rfl rfl rfl ?_ | refine o_yes_ rfl rfl ?_); first | refine st_pure (h1) b64 rfl rfl rfl rfl ?_) | refine gd rfl rfl rfl (fun hg => ?_) (fun hg => ?_) | refine gn rfl rfl rfl (fun hg => ?_) (fun hg => ?_)
  refine f_r [] rfl trivial rfl ⟨?_, rfl⟩
  rw [← fidx_any]; rfl
end Go.Proofs.YtgjoloaajocafaaDoorFn
namespace Go.Proofs.YtgjoloaajocafaaDoorFn
open Go.Proofs.YtgjoloaajocafaaDoorAl Go.Proofs.Tryd
attribute [local irreducible] IntKind.wrap CodeOk OpsL OpG ACalls thn inBlk rndR cutR WkR Wk fnR DW ExtOk partsOf
/-- What is amiss with the entry at i. -/
def entryC (l : List EV) (i : Nat) (e : EV) : Option Int :=
  if pathOk e.path then
    if (decide (0 < i) && (match l[i - 1]? with | some x => !strLt x.path e.path | none => false)) || (l.take i).any (fun x => under x.path e.path) then some 4
    else if wholeB e then none else some 1
  else some 2
def errO : Option Int → AV
  | none => nilE
  | some n => errE n
set_option maxHeartbeats 2000000 in
theorem entry_ok (l : List EV) (i : Nat) (hi : i < l.length) (hl : l.length ≤ 4000000000) (hp : ∀ e ∈ l, e.path.size ≤ 4000000000 - 1) (hk : ∀ e ∈ l, e.keys.length ≤ 4000000000) :
    ACalls prog 63 0 [.st (.sl 3 (l.map rowE)), I i] [] fun r h => r = errO (entryC l i l[i]) ∧ h = [] := by
  have hat := at_rowE hi
  have hc1 := pathCheck_ok l[i].path (hp _ (List.getElem_mem hi))
  have hw := whole_ok l[i] (hk _ (List.getElem_mem hi))
  have hu := conE_ok 71 b71 (rowE l[i]) (fun x => under x.path l[i].path) (l.take i) (by simp; omega) (fun x hx => entry1_ok l[i] x (hp _ (List.getElem_mem hi)) (hp _ (List.mem_of_mem_take hx)))
  have hm : (List.map rowE l).length = l.length := List.length_map _
  rw [List.map_take] at hu
  generalize he : l[i] = e at *
  obtain ⟨p, z, ks⟩ := e
  refine fnC lay_ok func63 rfl rfl rfl rfl rfl ?_
  cases hpo : pathOk p with
  | false =>
    simp only [hpo, if_true, if_false, Bool.false_eq_true] at hc1
    repeat' first | refine o_frb 0 [.str p, .int .i64 z, .sl 1 (ks.map rowS)] rfl rfl rfl (by (repeat' first | exact trivial | refine And.intro ?_ ?_ | rfl); first | done | fail) (by (repeat' first | exact trivial | refine And.intro ?_ ?_ | rfl); first | done | fail) rfl rfl ?_ | refine wr (by omega) ?_ | refine ln ?_ | refine stp lay_ok rfl ?_ | refine fin ?_ | refine n_thn ?_ | refine n_blk ?_ | refine e_thn ?_ | refine e_hit ?_ | refine e_miss rfl ?_ | refine r_thn ?_ | refine r_blk ?_ | refine e_rr ?_ | refine r_rr ?_ | refine e_cr ?_ | refine r_cr ?_ | refine .seq ?_ | refine reg ?_ | refine .block ?_ | refine .skip ?_ | refine .ret ?_ | refine .exit ?_ | refine cndT rfl ?_ | refine cndF rfl ?_ | refine c_dec rfl (fun hc => ?_) (fun hc => ?_) | refine c_ndec rfl (fun hc => ?_) (fun hc => ?_) | refine cnd rfl (fun hc => ?_) (fun hc => ?_) | ((first | refine o_none rfl ?_ | refine o_none_ ?_ | refine o_yes rfl rfl rfl ?_ | refine o_yes_ rfl rfl ?_); first | refine st_index (rowE ⟨p, z, ks⟩) lay_ok rfl rfl rfl rfl (by omega) hat ?_ | refine st_pure (hc1) b47 rfl rfl rfl rfl ?_) | refine gd rfl rfl rfl (fun hg => ?_) (fun hg => ?_) | refine gn rfl rfl rfl (fun hg => ?_) (fun hg => ?_) | refine dwr (by omega) ?_ | refine dwl ?_ | refine dws lay_ok rfl rfl rfl rfl rfl rfl rfl ?_ | refine dwu lay_ok rfl rfl rfl rfl rfl rfl rfl rfl rfl ?_ | refine dw_end ?_ | refine dw_skip rfl rfl rfl ?_ | refine dwn lay_ok rfl rfl rfl rfl rfl ?_ | refine dwb rfl rfl rfl rfl rfl (by (first | refine st_index (rowE ⟨p, z, ks⟩) lay_ok rfl rfl rfl rfl (by omega) hat ?_ | refine st_pure (hc1) b47 rfl rfl rfl rfl ?_); exact fin rfl) rfl rfl ?_ | refine dwg rfl rfl rfl rfl rfl (by (first | refine st_index (rowE ⟨p, z, ks⟩) lay_ok rfl rfl rfl rfl (by omega) hat ?_ | refine st_pure (hc1) b47 rfl rfl rfl rfl ?_); exact fin rfl) rfl rfl rfl rfl rfl ?_ | refine dw_dec rfl rfl rfl (fun hg => ?_) (fun hg => ?_) | refine dw_ndec rfl rfl rfl (fun hg => ?_) (fun hg => ?_)
    refine f_r [] rfl trivial rfl ⟨?_, rfl⟩
    simp only [entryC, hpo]; rfl
  | true =>
    simp only [hpo, if_true, if_false, Bool.false_eq_true] at hc1
    repeat' first | refine o_frb 0 [.str p, .int .i64 z, .sl 1 (ks.map rowS)] rfl rfl rfl (by (repeat' first | exact trivial | refine And.intro ?_ ?_ | rfl); first | done | fail) (by (repeat' first | exact trivial | refine And.intro ?_ ?_ | rfl); first | done | fail) rfl rfl ?_ | refine wr (by omega) ?_ | refine ln ?_ | refine stp lay_ok rfl ?_ | refine fin ?_ | refine n_thn ?_ | refine n_blk ?_ | refine e_thn ?_ | refine e_hit ?_ | refine e_miss rfl ?_ | refine r_thn ?_ | refine r_blk ?_ | refine e_rr ?_ | refine r_rr ?_ | refine e_cr ?_ | refine r_cr ?_ | refine .seq ?_ | refine reg ?_ | refine .block ?_ | refine .skip ?_ | refine .ret ?_ | refine .exit ?_ | refine cndT rfl ?_ | refine cndF rfl ?_ | refine c_dec rfl (fun hc => ?_) (fun hc => ?_) | refine c_ndec rfl (fun hc => ?_) (fun hc => ?_) | refine cnd rfl (fun hc => ?_) (fun hc => ?_) | ((first | refine o_none rfl ?_ | refine o_none_ ?_ | refine o_yes rfl rfl rfl ?_ | refine o_yes_ rfl rfl ?_); first | refine st_index (rowE ⟨p, z, ks⟩) lay_ok rfl rfl rfl rfl (by omega) hat ?_ | refine st_pure (hc1) b47 rfl rfl rfl rfl ?_) | refine gd rfl rfl rfl (fun hg => ?_) (fun hg => ?_) | refine gn rfl rfl rfl (fun hg => ?_) (fun hg => ?_) | refine dwr (by omega) ?_ | refine dwl ?_ | refine dws lay_ok rfl rfl rfl rfl rfl rfl rfl ?_ | refine dwu lay_ok rfl rfl rfl rfl rfl rfl rfl rfl rfl ?_ | refine dw_end ?_ | refine dw_skip rfl rfl rfl ?_ | refine dwn lay_ok rfl rfl rfl rfl rfl ?_ | refine dwb rfl rfl rfl rfl rfl (by (first | refine st_index (rowE ⟨p, z, ks⟩) lay_ok rfl rfl rfl rfl (by omega) hat ?_ | refine st_pure (hc1) b47 rfl rfl rfl rfl ?_); exact fin rfl) rfl rfl ?_ | refine dwg rfl rfl rfl rfl rfl (by (first | refine st_index (rowE ⟨p, z, ks⟩) lay_ok rfl rfl rfl rfl (by omega) hat ?_ | refine st_pure (hc1) b47 rfl rfl rfl rfl ?_); exact fin rfl) rfl rfl rfl rfl rfl ?_ | refine dw_dec rfl rfl rfl (fun hg => ?_) (fun hg => ?_) | refine dw_ndec rfl rfl rfl (fun hg => ?_) (fun hg => ?_)
    have ht : i ≤ (l.map rowE).length := by omega
    cases ha : (l.take i).any (fun x => under x.path p) <;> cases hwb : wholeB ⟨p, z, ks⟩ <;> simp only [ha] at hu <;> rw [hwb] at hw
    all_goals
      rcases Nat.eq_zero_or_pos i with h0 | h0
      · have e1 : (if false = true ∨ (l.take i).any (fun x => under x.path p) = true then some 4 else if wholeB ⟨p, z, ks⟩ then none else some 1) = entryC l i ⟨p, z, ks⟩ := by
          simp [entryC, hpo, h0]
        rw [ha, hwb] at e1
        refine dreg [(0, [], []), (1, [0], []), (2, [0, 1], []), (3, [0, 1, 2], [23, 24, 28, 29]), (4, [0, 1, 2], [22, 28, 29]), (5, [0, 1, 2, 4], [22, 28, 29]), (6, [0, 1, 2, 3, 4, 5], [28, 29]), (7, [0, 1, 2, 3, 4, 5, 6], [28, 29]), (8, [0, 1, 2, 3, 4, 5, 6, 7], [28, 29]), (9, [0, 1, 2], [22, 23, 24, 25, 26, 27]), (10, [0, 1, 2, 9], [22, 23, 24, 25, 26, 27]), (11, [0, 1, 2, 3, 4, 5, 6, 7, 8, 9, 10], []), (12, [0, 1, 2, 3, 4, 5, 6, 7, 8, 9, 10, 11], []), (13, [0, 1, 2, 3, 4, 5, 6, 7, 8, 9, 10, 11, 12], [])] mixed (by kernel_rfl) ?_
        repeat' first | refine wr (by omega) ?_ | refine ln ?_ | refine stp lay_ok rfl ?_ | refine fin ?_ | refine n_thn ?_ | refine n_blk ?_ | refine e_thn ?_ | refine e_hit ?_ | refine e_miss rfl ?_ | refine r_thn ?_ | refine r_blk ?_ | refine e_rr ?_ | refine r_rr ?_ | refine e_cr ?_ | refine r_cr ?_ | refine .seq ?_ | refine reg ?_ | refine .block ?_ | refine .skip ?_ | refine .ret ?_ | refine .exit ?_ | refine cndT rfl ?_ | refine cndF rfl ?_ | refine c_dec rfl (fun hc => ?_) (fun hc => ?_) | refine c_ndec rfl (fun hc => ?_) (fun hc => ?_) | refine cnd rfl (fun hc => ?_) (fun hc => ?_) | ((first | refine o_none rfl ?_ | refine o_none_ ?_ | refine o_yes rfl rfl rfl ?_ | refine o_yes_ rfl rfl ?_); first | refine st_subL 0 i lay_ok rfl rfl rfl rfl ⟨_, _, rfl, rfl⟩ (Nat.zero_le _) ht ?_ | refine st_pure (hu) b51 rfl rfl rfl rfl ?_ | refine st_pure (hw) b73 rfl rfl rfl rfl ?_) | refine gd rfl rfl rfl (fun hg => ?_) (fun hg => ?_) | refine gn rfl rfl rfl (fun hg => ?_) (fun hg => ?_) | refine dwr (by omega) ?_ | refine dwl ?_ | refine dws lay_ok rfl rfl rfl rfl rfl rfl rfl ?_ | refine dwu lay_ok rfl rfl rfl rfl rfl rfl rfl rfl rfl ?_ | refine dw_end ?_ | refine dw_skip rfl rfl rfl ?_ | refine dwn lay_ok rfl rfl rfl rfl rfl ?_ | refine dwb rfl rfl rfl rfl rfl (by (first | refine st_subL 0 i lay_ok rfl rfl rfl rfl ⟨_, _, rfl, rfl⟩ (Nat.zero_le _) ht ?_ | refine st_pure (hu) b51 rfl rfl rfl rfl ?_ | refine st_pure (hw) b73 rfl rfl rfl rfl ?_); exact fin rfl) rfl rfl ?_ | refine dwg rfl rfl rfl rfl rfl (by (first | refine st_subL 0 i lay_ok rfl rfl rfl rfl ⟨_, _, rfl, rfl⟩ (Nat.zero_le _) ht ?_ | refine st_pure (hu) b51 rfl rfl rfl rfl ?_ | refine st_pure (hw) b73 rfl rfl rfl rfl ?_); exact fin rfl) rfl rfl rfl rfl rfl ?_ | refine dw_dec rfl rfl rfl (fun hg => ?_) (fun hg => ?_) | refine dw_ndec rfl rfl rfl (fun hg => ?_) (fun hg => ?_)
        all_goals first | omega | (refine f_r [] rfl trivial rfl ⟨?_, rfl⟩; rw [← e1]; rfl)
      · have h1 : i - 1 < l.length := by omega
        have hat1 := at_rowE h1
        have hx : (l.map rowE)[((i : Int) - 1).toNat]? = some (rowE l[i - 1]) := by rw [← hat1]; congr 1; omega
        have e1 : (if (!strLt l[i - 1].path p) = true ∨ (l.take i).any (fun x => under x.path p) = true then some 4 else if wholeB ⟨p, z, ks⟩ then none else some 1) = entryC l i ⟨p, z, ks⟩ := by
          have e2 : l[i - 1]? = some l[i - 1] := List.getElem?_eq_getElem h1
          simp only [entryC, hpo, e2, if_true, h0, decide_true, Bool.true_and, Bool.or_eq_true]
        rw [ha, hwb] at e1
        generalize hy : l[i - 1] = y at *
        cases hlt : strLt y.path p <;> rw [hlt] at e1
        all_goals
          refine dreg [(0, [], []), (1, [0], []), (2, [0, 1], []), (3, [0, 1, 2], [23, 24, 28, 29]), (4, [0, 1, 2], [22, 28, 29]), (5, [0, 1, 2, 4], [22, 28, 29]), (6, [0, 1, 2, 3, 4, 5], [28, 29]), (7, [0, 1, 2, 3, 4, 5, 6], [28, 29]), (8, [0, 1, 2, 3, 4, 5, 6, 7], [28, 29]), (9, [0, 1, 2], [22, 23, 24, 25, 26, 27]), (10, [0, 1, 2, 9], [22, 23, 24, 25, 26, 27]), (11, [0, 1, 2, 3, 4, 5, 6, 7, 8, 9, 10], []), (12, [0, 1, 2, 3, 4, 5, 6, 7, 8, 9, 10, 11], []), (13, [0, 1, 2, 3, 4, 5, 6, 7, 8, 9, 10, 11, 12], [])] mixed (by kernel_rfl) ?_
          repeat' first | refine wr (by omega) ?_ | refine ln ?_ | refine stp lay_ok rfl ?_ | refine fin ?_ | refine n_thn ?_ | refine n_blk ?_ | refine e_thn ?_ | refine e_hit ?_ | refine e_miss rfl ?_ | refine r_thn ?_ | refine r_blk ?_ | refine e_rr ?_ | refine r_rr ?_ | refine e_cr ?_ | refine r_cr ?_ | refine .seq ?_ | refine reg ?_ | refine .block ?_ | refine .skip ?_ | refine .ret ?_ | refine .exit ?_ | refine cndT rfl ?_ | refine cndF rfl ?_ | refine c_dec rfl (fun hc => ?_) (fun hc => ?_) | refine c_ndec rfl (fun hc => ?_) (fun hc => ?_) | refine cnd rfl (fun hc => ?_) (fun hc => ?_) | ((first | refine o_none rfl ?_ | refine o_none_ ?_ | refine o_yes rfl rfl rfl ?_ | refine o_yes_ rfl rfl ?_); first | refine st_index (rowE y) lay_ok rfl rfl rfl rfl (by omega) hx ?_ | refine st_subL 0 i lay_ok rfl rfl rfl rfl ⟨_, _, rfl, rfl⟩ (Nat.zero_le _) ht ?_ | refine st_pure (hu) b51 rfl rfl rfl rfl ?_ | refine st_pure (hw) b73 rfl rfl rfl rfl ?_) | refine gd rfl rfl rfl (fun hg => ?_) (fun hg => ?_) | refine gn rfl rfl rfl (fun hg => ?_) (fun hg => ?_) | refine dwr (by omega) ?_ | refine dwl ?_ | refine dws lay_ok rfl rfl rfl rfl rfl rfl rfl ?_ | refine dwu lay_ok rfl rfl rfl rfl rfl rfl rfl rfl rfl ?_ | refine dw_end ?_ | refine dw_skip rfl rfl rfl ?_ | refine dwn lay_ok rfl rfl rfl rfl rfl ?_ | refine dwb rfl rfl rfl rfl rfl (by (first | refine st_index (rowE y) lay_ok rfl rfl rfl rfl (by omega) hx ?_ | refine st_subL 0 i lay_ok rfl rfl rfl rfl ⟨_, _, rfl, rfl⟩ (Nat.zero_le _) ht ?_ | refine st_pure (hu) b51 rfl rfl rfl rfl ?_ | refine st_pure (hw) b73 rfl rfl rfl rfl ?_); exact fin rfl) rfl rfl ?_ | refine dwg rfl rfl rfl rfl rfl (by (first | refine st_index (rowE y) lay_ok rfl rfl rfl rfl (by omega) hx ?_ | refine st_subL 0 i lay_ok rfl rfl rfl rfl ⟨_, _, rfl, rfl⟩ (Nat.zero_le _) ht ?_ | refine st_pure (hu) b51 rfl rfl rfl rfl ?_ | refine st_pure (hw) b73 rfl rfl rfl rfl ?_); exact fin rfl) rfl rfl rfl rfl rfl ?_ | refine dw_dec rfl rfl rfl (fun hg => ?_) (fun hg => ?_) | refine dw_ndec rfl rfl rfl (fun hg => ?_) (fun hg => ?_)
          all_goals first | omega | (exfalso; rw [hlt] at *; contradiction) | (refine f_r [] rfl trivial rfl ⟨?_, rfl⟩; rw [← e1]; rfl)
end Go.Proofs.YtgjoloaajocafaaDoorFn
namespace Go.Proofs.YtgjoloaajocafaaDoorFn
open Go.Proofs.YtgjoloaajocafaaDoorAl Go.Proofs.Tryd
attribute [local irreducible] IntKind.wrap CodeOk OpsL OpG ACalls thn inBlk rndR cutR WkR Wk fnR DW ExtOk partsOf
def badFrom (l : List EV) : Nat → Nat → Option (Nat × Int)
  | 0, _ => none
  | f + 1, i => match l[i]? with
    | none => none
    | some e => match entryC l i e with
      | some n => some (i, n)
      | none => badFrom l f (i + 1)
theorem badFrom_step (l : List EV) (k : Nat) (h : k < l.length) : badFrom l (l.length - k) k = match entryC l k l[k] with
    | some n => some (k, n)
    | none => badFrom l (l.length - (k + 1)) (k + 1) := by
  have e : l.length - k = l.length - (k + 1) + 1 := by omega
  rw [e]
  simp only [badFrom, List.getElem?_eq_getElem h]
abbrev spotE (i : Nat) (n : Int) : AV := .st (.iface 103 (.sptr [.int .i64 i, .iface 32 (.int .i64 n)]))
/-- Whether entries are a tree. -/
def treeC (l : List EV) : AV := if 32 < l.length then errE 7 else match badFrom l l.length 0 with
  | none => nilE
  | some (i, n) => spotE i n
theorem treeCheck_ok (l : List EV) (hl : l.length ≤ 4000000000) (hp : ∀ e ∈ l, e.path.size ≤ 4000000000 - 1) (hk : ∀ e ∈ l, e.keys.length ≤ 4000000000) :
    ACalls prog 50 0 [.st (.sl 3 (l.map rowE))] [] fun r h => r = treeC l ∧ h = [] := by
  refine fnC lay_ok func50 rfl rfl rfl rfl rfl ?_
  have hm : (List.map rowE l).length = l.length := List.length_map _
  repeat' first | refine wr (by omega) ?_ | refine ln ?_ | refine stp lay_ok rfl ?_ | refine fin ?_ | refine n_thn ?_ | refine n_blk ?_ | refine e_thn ?_ | refine e_hit ?_ | refine e_miss rfl ?_ | refine r_thn ?_ | refine r_blk ?_ | refine e_rr ?_ | refine r_rr ?_ | refine e_cr ?_ | refine r_cr ?_ | refine .seq ?_ | refine reg ?_ | refine .block ?_ | refine .skip ?_ | refine .ret ?_ | refine .exit ?_ | refine cndT rfl ?_ | refine cndF rfl ?_ | refine c_dec rfl (fun hc => ?_) (fun hc => ?_) | refine c_ndec rfl (fun hc => ?_) (fun hc => ?_) | refine cnd rfl (fun hc => ?_) (fun hc => ?_) | refine gd rfl rfl rfl (fun hg => ?_) (fun hg => ?_) | refine gn rfl rfl rfl (fun hg => ?_) (fun hg => ?_)
  · refine f_r [] rfl trivial rfl ⟨?_, rfl⟩
    have : 32 < l.length := by omega
    simp only [treeC, this, if_true]; rfl
  · have h32 : ¬ 32 < l.length := by omega
    refine lpR (fun k => k ≤ l.length ∧ badFrom l l.length 0 = badFrom l (l.length - k) k) (fun k => l.length - k) (fun k => [(11, I k)]) (fun k => []) (0) [0, 10] [] [] rfl rfl rfl (.of [] (by (repeat' first | exact trivial | refine And.intro ?_ ?_ | rfl); first | done | fail) (by (repeat' first | exact trivial | refine And.intro ?_ ?_ | rfl); first | done | fail) rfl) ?_ ?_
    · exact ⟨Nat.zero_le _, rfl⟩
    rintro k ⟨h1, h2⟩
    refine nrm rfl rfl ?_
    repeat' first | refine wr (by omega) ?_ | refine ln ?_ | refine stp lay_ok rfl ?_ | refine fin ?_ | refine n_thn ?_ | refine n_blk ?_ | refine e_thn ?_ | refine e_hit ?_ | refine e_miss rfl ?_ | refine r_thn ?_ | refine r_blk ?_ | refine e_rr ?_ | refine r_rr ?_ | refine e_cr ?_ | refine r_cr ?_ | refine .seq ?_ | refine reg ?_ | refine .block ?_ | refine .skip ?_ | refine .ret ?_ | refine .exit ?_ | refine cndT rfl ?_ | refine cndF rfl ?_ | refine c_dec rfl (fun hc => ?_) (fun hc => ?_) | refine c_ndec rfl (fun hc => ?_) (fun hc => ?_) | refine cnd rfl (fun hc => ?_) (fun hc => ?_) | refine gd rfl rfl rfl (fun hg => ?_) (fun hg => ?_) | refine gn rfl rfl rfl (fun hg => ?_) (fun hg => ?_)
    · have hk' : k < l.length := by omega
      have he := entry_ok l k hk' hl hp hk
      have hb := badFrom_step l k hk'
      cases hx : entryC l k l[k] with
      | none =>
        rw [hx] at he hb
        repeat' first | refine wr (by omega) ?_ | refine ln ?_ | refine stp lay_ok rfl ?_ | refine fin ?_ | refine n_thn ?_ | refine n_blk ?_ | refine e_thn ?_ | refine e_hit ?_ | refine e_miss rfl ?_ | refine r_thn ?_ | refine r_blk ?_ | refine e_rr ?_ | refine r_rr ?_ | refine e_cr ?_ | refine r_cr ?_ | refine .seq ?_ | refine reg ?_ | refine .block ?_ | refine .skip ?_ | refine .ret ?_ | refine .exit ?_ | refine cndT rfl ?_ | refine cndF rfl ?_ | refine c_dec rfl (fun hc => ?_) (fun hc => ?_) | refine c_ndec rfl (fun hc => ?_) (fun hc => ?_) | refine cnd rfl (fun hc => ?_) (fun hc => ?_) | ((first | refine o_none rfl ?_ | refine o_none_ ?_ | refine o_yes rfl rfl rfl ?_ | refine o_yes_ rfl rfl ?_); first | refine st_pure (he) b63 rfl rfl rfl rfl ?_) | refine gd rfl rfl rfl (fun hg => ?_) (fun hg => ?_) | refine gn rfl rfl rfl (fun hg => ?_) (fun hg => ?_)
        refine n_rr (k + 1) ?_ (.of [] (by (repeat' first | exact trivial | refine And.intro ?_ ?_ | rfl); first | done | fail) (by (repeat' first | exact trivial | refine And.intro ?_ ?_ | rfl); first | done | fail) rfl) ?_
        · omega
        · exact ⟨hk', h2.trans hb⟩
      | some n =>
        rw [hx] at he hb
        repeat' first | refine o_frb 0 [.int .i64 k, .iface 32 (.int .i64 n)] rfl rfl rfl (by (repeat' first | exact trivial | refine And.intro ?_ ?_ | rfl); first | done | fail) (by (repeat' first | exact trivial | refine And.intro ?_ ?_ | rfl); first | done | fail) rfl rfl ?_ | refine wr (by omega) ?_ | refine ln ?_ | refine stp lay_ok rfl ?_ | refine fin ?_ | refine n_thn ?_ | refine n_blk ?_ | refine e_thn ?_ | refine e_hit ?_ | refine e_miss rfl ?_ | refine r_thn ?_ | refine r_blk ?_ | refine e_rr ?_ | refine r_rr ?_ | refine e_cr ?_ | refine r_cr ?_ | refine .seq ?_ | refine reg ?_ | refine .block ?_ | refine .skip ?_ | refine .ret ?_ | refine .exit ?_ | refine cndT rfl ?_ | refine cndF rfl ?_ | refine c_dec rfl (fun hc => ?_) (fun hc => ?_) | refine c_ndec rfl (fun hc => ?_) (fun hc => ?_) | refine cnd rfl (fun hc => ?_) (fun hc => ?_) | ((first | refine o_none rfl ?_ | refine o_none_ ?_ | refine o_yes rfl rfl rfl ?_ | refine o_yes_ rfl rfl ?_); first | refine st_pure (he) b63 rfl rfl rfl rfl ?_) | refine gd rfl rfl rfl (fun hg => ?_) (fun hg => ?_) | refine gn rfl rfl rfl (fun hg => ?_) (fun hg => ?_)
        refine f_r [] rfl trivial rfl ⟨?_, rfl⟩
        simp only [treeC, h32, if_false, h2, hb]; rfl
    · refine f_r [] rfl trivial rfl ⟨?_, rfl⟩
      have : k = l.length := by omega
      subst this
      simp only [treeC, h32, if_false, h2, Nat.sub_self]; rfl
end Go.Proofs.YtgjoloaajocafaaDoorFn
namespace Go.Proofs.YtgjoloaajocafaaDoorFn
open Go.Proofs.YtgjoloaajocafaaDoorAl Go.Proofs.Tryd
attribute [local irreducible] IntKind.wrap CodeOk OpsL OpG ACalls thn inBlk rndR cutR WkR Wk fnR DW ExtOk partsOf
theorem b74 : HasBody prog 74 := ⟨f74, func74, Option.some_ne_none _, by decide⟩
theorem b65 : HasBody prog 65 := ⟨f65, func65, Option.some_ne_none _, by decide⟩
theorem b53 : HasBody prog 53 := ⟨f53, func53, Option.some_ne_none _, by decide⟩
theorem b33 : HasBody prog 33 := ⟨f33, func33, Option.some_ne_none _, by decide⟩
theorem b54 : HasBody prog 54 := ⟨f54, func54, Option.some_ne_none _, by decide⟩
theorem rowB_one {b : List UInt8} : ∀ row ∈ b.map rowB, ∀ y ∈ row, SV.one y = true := by
  intro row hr y hy
  obtain ⟨_, _, rfl⟩ := List.mem_map.1 hr
  simp only [rowB, List.mem_singleton] at hy; subst hy; rfl
theorem cloneB_ok (b : List UInt8) (hb : b.length ≤ 4000000000) : ACalls prog 74 0 [.st (.sl 1 (b.map rowB))] [] fun r h => r = .lsl 0 1 0 (b.map rowB).length ∧ h = [(0, .arr 1 (b.map rowB))] := by
  refine fnC lay_ok func74 rfl rfl rfl rfl rfl ?_
  have hm : (List.map rowB b).length = b.length := List.length_map _
  repeat' first | refine wr (by omega) ?_ | refine ln ?_ | refine stp lay_ok rfl ?_ | refine fin ?_ | refine n_thn ?_ | refine n_blk ?_ | refine e_thn ?_ | refine e_hit ?_ | refine e_miss rfl ?_ | refine r_thn ?_ | refine r_blk ?_ | refine e_rr ?_ | refine r_rr ?_ | refine e_cr ?_ | refine r_cr ?_ | refine .seq ?_ | refine reg ?_ | refine .block ?_ | refine .skip ?_ | refine .ret ?_ | refine .exit ?_ | refine cndT rfl ?_ | refine cndF rfl ?_ | refine c_dec rfl (fun hc => ?_) (fun hc => ?_) | refine c_ndec rfl (fun hc => ?_) (fun hc => ?_) | refine cnd rfl (fun hc => ?_) (fun hc => ?_) | ((first | refine o_none rfl ?_ | refine o_none_ ?_ | refine o_yes rfl rfl rfl ?_ | refine o_yes_ rfl rfl ?_); first | refine st_nilSl lay_ok rfl rfl rfl rfl (fun z hz => ?_) | refine st_append lay_ok rfl rfl rfl rfl rfl rfl rfl rfl .sl0 .sl rfl rowB_one (by simp only [List.length_nil]; omega) (by simp only [List.length_nil]; omega) ?_) | refine gd rfl rfl rfl (fun hg => ?_) (fun hg => ?_) | refine gn rfl rfl rfl (fun hg => ?_) (fun hg => ?_)
  · cases z with
    | false => cases hc
    | true =>
      rw [hz rfl]
      refine f_end (n0 := 1) (t'' := [(2, .lsl 0 1 0 0)]) (h'' := [(0, .arr 1 [])]) (Wk.then (Wk.nilT 1 2 rfl rfl) (WkR.of [0] (by (repeat' first | exact trivial | refine And.intro ?_ ?_ | rfl); first | done | fail) (by (repeat' first | exact trivial | refine And.intro ?_ ?_ | rfl); first | done | fail) rfl)) rfl rfl ⟨?_, rfl⟩
      rfl
  · refine f_end (n0 := 1) (t'' := [(2, .lsl 0 1 0 (b.map rowB).length)]) (h'' := [(0, .arr 1 (b.map rowB))]) (WkR.of [0] (by (repeat' first | exact trivial | refine And.intro ?_ ?_ | rfl); first | done | fail) (by (repeat' first | exact trivial | refine And.intro ?_ ?_ | rfl); first | done | fail) rfl) rfl rfl ⟨?_, rfl⟩
    rfl
/-- A number's bytes, low ones first. -/
def numF : Nat → Nat → List UInt8
  | 0, _ => []
  | f + 1, n => if 128 ≤ n then UInt8.ofNat (n % 128 + 128) :: numF f (n / 128) else [UInt8.ofNat n]
abbrev numL (n : Nat) : List UInt8 := numF 10 n
abbrev U (n : Nat) : AV := .st (.int .u64 (n : Int))
abbrev Bs (b : List UInt8) : AV := .st (.sl 1 (b.map rowB))
theorem u8wrap (n : Nat) : IntKind.u8.wrap (n : Int) = ((UInt8.ofNat n).toNat : Int) := by
  simp [IntKind.wrap, IntKind.signed, IntKind.bits]
theorem or128 : ∀ k < 256, k ||| 128 = k % 128 + 128 := by decide +kernel
theorem bit128 (n : Nat) : binJ .or .u8 (IntKind.u8.wrap (n : Int)) 128 = some (.int .u8 ((UInt8.ofNat (n % 128 + 128)).toNat : Int)) := by
  have h1 : (BitVec.ofInt 8 ((n % 256 : Nat) : Int) ||| BitVec.ofInt 8 128).toNat = n % 128 + 128 := by
    have h2 := or128 (n % 256) (by omega)
    simp only [BitVec.toNat_or, BitVec.toNat_ofInt]
    have e1 : (((n % 256 : Nat) : Int) % ((2 ^ 8 : Nat) : Int)).toNat = n % 256 := by omega
    have e2 : ((128 : Int) % ((2 ^ 8 : Nat) : Int)).toNat = 128 := by decide
    rw [e1, e2, h2]; omega
  have e3 : IntKind.u8.wrap (n : Int) = ((n % 256 : Nat) : Int) := by simp [IntKind.wrap, IntKind.signed, IntKind.bits]
  simp only [binJ, e3]
  have e4 : IntKind.u8.bits = 8 := rfl
  rw [e4, h1, u8wrap]
theorem shr7 (n : Nat) : shI .shr .u64 (n : Int) 7 = some (.int .u64 ((n / 128 : Nat) : Int)) := by
  simp only [shI]
  have : Int.fdiv (n : Int) (2 ^ min (Int.toNat 7) IntKind.u64.bits) = ((n / 128 : Nat) : Int) := by
    have e : (2 ^ min (Int.toNat 7) IntKind.u64.bits : Int) = 128 := by decide
    rw [e, Int.fdiv_eq_ediv_of_nonneg _ (by decide)]
    rfl
  rw [this]
theorem rowW_one (n : Nat) : ∀ row ∈ [[SV.int .u8 (IntKind.u8.wrap (n : Int))]], ∀ y ∈ row, SV.one y = true := by
  intro row hr y hy
  simp only [List.mem_singleton] at hr; subst hr
  simp only [List.mem_singleton] at hy; subst hy; rfl
theorem num_ok (b : List UInt8) (n0 : Nat) (hb : b.length ≤ 3000000000) (hn : n0 < 2 ^ 64) : ACalls prog 65 0 [Bs b, U n0] [] fun r h => r = .lsl 0 1 0 ((b ++ numL n0).map rowB).length ∧ h = [(0, .arr 1 ((b ++ numL n0).map rowB))] := by
  refine fnC lay_ok func65 rfl rfl rfl rfl rfl ?_
  have hcl := cloneB_ok b (by omega)
  repeat' first | refine wr (by omega) ?_ | refine ln ?_ | refine stp lay_ok rfl ?_ | refine fin ?_ | refine n_thn ?_ | refine n_blk ?_ | refine e_thn ?_ | refine e_hit ?_ | refine e_miss rfl ?_ | refine r_thn ?_ | refine r_blk ?_ | refine e_rr ?_ | refine r_rr ?_ | refine e_cr ?_ | refine r_cr ?_ | refine .seq ?_ | refine reg ?_ | refine .block ?_ | refine .skip ?_ | refine .ret ?_ | refine .exit ?_ | refine cndT rfl ?_ | refine cndF rfl ?_ | refine c_dec rfl (fun hc => ?_) (fun hc => ?_) | refine c_ndec rfl (fun hc => ?_) (fun hc => ?_) | refine cnd rfl (fun hc => ?_) (fun hc => ?_) | ((first | refine o_none rfl ?_ | refine o_none_ ?_ | refine o_yes rfl rfl rfl ?_ | refine o_yes_ rfl rfl ?_); first | refine st_callF 1 (hcl) b74 rfl rfl rfl rfl rfl rfl (by (repeat' first | exact trivial | refine And.intro ?_ ?_ | rfl); first | done | fail) rfl ?_) | refine gd rfl rfl rfl (fun hg => ?_) (fun hg => ?_) | refine gn rfl rfl rfl (fun hg => ?_) (fun hg => ?_)
  refine lpR (fun (out, n, f) => b ++ numL n0 = out ++ numF (f + 1) n ∧ n < 128 ^ (f + 1) ∧ f ≤ 9 ∧ n < 2 ^ 64 ∧ out.length + f = b.length + 9) (fun (out, n, f) => f) (fun (out, n, f) => [(1, U n), (5, .lsl 1 1 0 (out.map rowB).length)]) (fun (out, n, f) => [(1, .arr 1 (out.map rowB))]) ((b, n0, 9)) [] [] [0] rfl rfl rfl (.of [0] (by (repeat' first | exact trivial | refine And.intro ?_ ?_ | rfl); first | done | fail) (by (repeat' first | exact trivial | refine And.intro ?_ ?_ | rfl); first | done | fail) rfl) ?_ ?_
  · refine ⟨rfl, ?_, Nat.le_refl _, hn, rfl⟩
    omega
  · rintro ⟨out, n, f⟩ ⟨h1, h2, h3, h4, h5⟩
    refine nrm rfl rfl ?_
    have hm : (List.map rowB out).length = out.length := List.length_map _
    by_cases hge : 128 ≤ n
    · have hf : f ≠ 0 := by rintro rfl; omega
      obtain ⟨f', rfl⟩ : ∃ f', f = f' + 1 := ⟨f - 1, by omega⟩
      have hbit := bit128 n
      have hsh := shr7 n
      have hr : ∀ x : UInt8, List.map rowB out ++ [[SV.int .u8 (x.toNat : Int)]] = List.map rowB (out ++ [x]) := fun x => by rw [List.map_append]; rfl
      repeat' first | refine wr (by omega) ?_ | refine ln ?_ | refine stp lay_ok rfl ?_ | refine fin ?_ | refine n_thn ?_ | refine n_blk ?_ | refine e_thn ?_ | refine e_hit ?_ | refine e_miss rfl ?_ | refine r_thn ?_ | refine r_blk ?_ | refine e_rr ?_ | refine r_rr ?_ | refine e_cr ?_ | refine r_cr ?_ | refine .seq ?_ | refine reg ?_ | refine .block ?_ | refine .skip ?_ | refine .ret ?_ | refine .exit ?_ | refine cndT rfl ?_ | refine cndF rfl ?_ | refine c_dec rfl (fun hc => ?_) (fun hc => ?_) | refine c_ndec rfl (fun hc => ?_) (fun hc => ?_) | refine cnd rfl (fun hc => ?_) (fun hc => ?_) | ((first | refine o_none rfl ?_ | refine o_none_ ?_ | refine o_yes rfl rfl rfl ?_ | refine o_yes_ rfl rfl ?_); first | refine st_bits rfl rfl hbit ?_ | refine st_shift rfl rfl (by decide) hsh ?_ | refine st_append lay_ok rfl rfl rfl rfl rfl rfl rfl rfl (.lsl rfl rfl) .sl rfl (rowB_one (b := [UInt8.ofNat (n % 128 + 128)])) (by simp only [List.length_cons, List.length_nil]; omega) (by simp only [List.length_cons, List.length_nil]; omega) ?_) | refine gd rfl rfl rfl (fun hg => ?_) (fun hg => ?_) | refine gn rfl rfl rfl (fun hg => ?_) (fun hg => ?_)
      · rw [hr]
        refine n_rr ((out ++ [UInt8.ofNat (n % 128 + 128)], n / 128, f')) ?_ (.of [2] (by (repeat' first | exact trivial | refine And.intro ?_ ?_ | rfl); first | done | fail) (by (repeat' first | exact trivial | refine And.intro ?_ ?_ | rfl); first | done | fail) rfl) ?_
        · exact Nat.lt_succ_self _
        · refine ⟨?_, ?_, by omega, by omega, ?_⟩
          · rw [h1, numF, if_pos hge, List.append_assoc]; rfl
          · rw [Nat.pow_succ] at h2; omega
          · simp; omega
      · omega
    · have hend : b ++ numL n0 = out ++ [UInt8.ofNat n] := by rw [h1, numF, if_neg hge]
      have hr : List.map rowB out ++ [[SV.int .u8 (IntKind.u8.wrap (n : Int))]] = List.map rowB (b ++ numL n0) := by rw [hend, List.map_append, u8wrap]; rfl
      repeat' first | refine wr (by omega) ?_ | refine ln ?_ | refine stp lay_ok rfl ?_ | refine fin ?_ | refine n_thn ?_ | refine n_blk ?_ | refine e_thn ?_ | refine e_hit ?_ | refine e_miss rfl ?_ | refine r_thn ?_ | refine r_blk ?_ | refine e_rr ?_ | refine r_rr ?_ | refine e_cr ?_ | refine r_cr ?_ | refine .seq ?_ | refine reg ?_ | refine .block ?_ | refine .skip ?_ | refine .ret ?_ | refine .exit ?_ | refine cndT rfl ?_ | refine cndF rfl ?_ | refine c_dec rfl (fun hc => ?_) (fun hc => ?_) | refine c_ndec rfl (fun hc => ?_) (fun hc => ?_) | refine cnd rfl (fun hc => ?_) (fun hc => ?_) | ((first | refine o_none rfl ?_ | refine o_none_ ?_ | refine o_yes rfl rfl rfl ?_ | refine o_yes_ rfl rfl ?_); first | refine st_append lay_ok rfl rfl rfl rfl rfl rfl rfl rfl (.lsl rfl rfl) .sl rfl (rowW_one n) (by simp only [List.length_cons, List.length_nil]; omega) (by simp only [List.length_cons, List.length_nil]; omega) ?_) | refine gd rfl rfl rfl (fun hg => ?_) (fun hg => ?_) | refine gn rfl rfl rfl (fun hg => ?_) (fun hg => ?_)
      · omega
      · rw [hr]
        refine f_end (n0 := 1) (t'' := [(4, .lsl 0 1 0 ((b ++ numL n0).map rowB).length)]) (h'' := [(0, .arr 1 ((b ++ numL n0).map rowB))]) (WkR.of [2] (by (repeat' first | exact trivial | refine And.intro ?_ ?_ | rfl); first | done | fail) (by (repeat' first | exact trivial | refine And.intro ?_ ?_ | rfl); first | done | fail) rfl) rfl rfl ⟨?_, rfl⟩
        rfl
end Go.Proofs.YtgjoloaajocafaaDoorFn
namespace Go.Proofs.YtgjoloaajocafaaDoorFn
open Go.Proofs.YtgjoloaajocafaaDoorAl Go.Proofs.Tryd
attribute [local irreducible] IntKind.wrap CodeOk OpsL OpG ACalls thn inBlk rndR cutR WkR Wk fnR DW ExtOk partsOf
abbrev bytes (s : ByteArray) : List UInt8 := s.data.toList
theorem bytes_len (s : ByteArray) : (bytes s).length = s.size := by rw [Array.length_toList]; rfl
def textL (s : ByteArray) : List UInt8 := numL s.size ++ bytes s
theorem u64wrap (n : Nat) (h : n < 2 ^ 64) : IntKind.u64.wrap (n : Int) = n := by
  simp [IntKind.wrap, IntKind.signed, IntKind.bits]; omega
theorem numF_len : ∀ f n, (numF f n).length ≤ f
  | 0, _ => by simp [numF]
  | f + 1, n => by
    have := numF_len f (n / 128)
    rw [numF]; split <;> simp <;> omega
theorem text_ok (b : List UInt8) (s : ByteArray) (hb : b.length ≤ 3000000000) (hs : s.size ≤ 3000000000) : ACalls prog 53 0 [Bs b, Sx s] [] fun r h => r = .lsl 0 1 0 ((b ++ textL s).map rowB).length ∧ h = [(0, .arr 1 ((b ++ textL s).map rowB))] := by
  refine fnC lay_ok func53 rfl rfl rfl rfl rfl ?_
  have hn := num_ok b s.size hb (by omega)
  have hl := numF_len 10 s.size
  have hlen : ((b ++ numL s.size).map rowB).length ≤ 3000000010 := by simp [numL]; omega
  have hr : (b ++ numL s.size).map rowB ++ s.data.toList.map rowB = (b ++ textL s).map rowB := by rw [← List.map_append, textL, List.append_assoc]
  repeat' first | refine wr (by omega) ?_ | refine ln ?_ | refine stp lay_ok rfl ?_ | refine fin ?_ | refine n_thn ?_ | refine n_blk ?_ | refine e_thn ?_ | refine e_hit ?_ | refine e_miss rfl ?_ | refine r_thn ?_ | refine r_blk ?_ | refine e_rr ?_ | refine r_rr ?_ | refine e_cr ?_ | refine r_cr ?_ | refine .seq ?_ | refine reg ?_ | refine .block ?_ | refine .skip ?_ | refine .ret ?_ | refine .exit ?_ | refine cndT rfl ?_ | refine cndF rfl ?_ | refine c_dec rfl (fun hc => ?_) (fun hc => ?_) | refine c_ndec rfl (fun hc => ?_) (fun hc => ?_) | refine cnd rfl (fun hc => ?_) (fun hc => ?_) | refine gd rfl rfl rfl (fun hg => ?_) (fun hg => ?_) | refine gn rfl rfl rfl (fun hg => ?_) (fun hg => ?_)
  rw [u64wrap _ (by omega)]
  repeat' first | refine wr (by omega) ?_ | refine ln ?_ | refine stp lay_ok rfl ?_ | refine fin ?_ | refine n_thn ?_ | refine n_blk ?_ | refine e_thn ?_ | refine e_hit ?_ | refine e_miss rfl ?_ | refine r_thn ?_ | refine r_blk ?_ | refine e_rr ?_ | refine r_rr ?_ | refine e_cr ?_ | refine r_cr ?_ | refine .seq ?_ | refine reg ?_ | refine .block ?_ | refine .skip ?_ | refine .ret ?_ | refine .exit ?_ | refine cndT rfl ?_ | refine cndF rfl ?_ | refine c_dec rfl (fun hc => ?_) (fun hc => ?_) | refine c_ndec rfl (fun hc => ?_) (fun hc => ?_) | refine cnd rfl (fun hc => ?_) (fun hc => ?_) | ((first | refine o_none rfl ?_ | refine o_none_ ?_ | refine o_yes rfl rfl rfl ?_ | refine o_yes_ rfl rfl ?_); first | refine st_callF 1 (hn) b65 rfl rfl rfl rfl rfl rfl (by (repeat' first | exact trivial | refine And.intro ?_ ?_ | rfl); first | done | fail) rfl ?_ | refine st_appendS lay_ok rfl rfl rfl rfl rfl rfl rfl rfl (.lsl rfl rfl) rfl (by omega) (by omega) ?_) | refine gd rfl rfl rfl (fun hg => ?_) (fun hg => ?_) | refine gn rfl rfl rfl (fun hg => ?_) (fun hg => ?_)
  rw [hr]
  refine f_end (n0 := 1) (t'' := [(4, .lsl 0 1 0 ((b ++ textL s).map rowB).length)]) (h'' := [(0, .arr 1 ((b ++ textL s).map rowB))]) (WkR.of [1] (by (repeat' first | exact trivial | refine And.intro ?_ ?_ | rfl); first | done | fail) (by (repeat' first | exact trivial | refine And.intro ?_ ?_ | rfl); first | done | fail) rfl) rfl rfl ⟨?_, rfl⟩
  rfl
/-- A number's value and how many bytes it takes, from these bytes on. -/
def gnF : List UInt8 → Nat → Nat → Option (Nat × Nat)
  | [], _, _ => none
  | x :: r, i, acc => if 10 ≤ i ∨ (x.toNat = 0 ∧ 0 < i) ∨ (1 < x.toNat ∧ i = 9) then none
    else if 128 ≤ x.toNat then gnF r (i + 1) (acc + x.toNat % 128 * 2 ^ (7 * i)) else some (acc + x.toNat % 128 * 2 ^ (7 * i), i + 1)
def gnR (b : List UInt8) (at_ : Int) (most : Nat) : AV := if at_ < 0 ∨ (b.length : Int) < at_ then .tuple [U 0, I 0, errE 1] else
  match gnF (b.drop at_.toNat) 0 0 with
  | none => .tuple [U 0, I 0, errE 2]
  | some (n, k) => if most < n then .tuple [U 0, I 0, errE 7] else .tuple [U n, I (at_ + k), nilE]
theorem at_rowB {l : List UInt8} {k : Nat} (h : k < l.length) : (l.map rowB)[((k : Nat) : Int).toNat]? = some (rowB l[k]) := by simp [h]
theorem and127_all : ∀ k < 256, k &&& 127 = k % 128 := by decide +kernel
theorem and127 (x : UInt8) : binJ .and .u8 (x.toNat : Int) 127 = some (.int .u8 ((x.toNat % 128 : Nat) : Int)) := by
  have hx := x.toNat_lt
  have h1 : (BitVec.ofInt 8 (x.toNat : Int) &&& BitVec.ofInt 8 127).toNat = x.toNat % 128 := by
    simp only [BitVec.toNat_and, BitVec.toNat_ofInt]
    have e1 : ((x.toNat : Int) % ((2 ^ 8 : Nat) : Int)).toNat = x.toNat := by omega
    have e2 : ((127 : Int) % ((2 ^ 8 : Nat) : Int)).toNat = 127 := by decide
    rw [e1, e2, and127_all _ (by omega)]
  have e4 : IntKind.u8.bits = 8 := rfl
  simp only [binJ]
  rw [e4, h1, u8wrap]
  simp; omega
theorem bit_small {v i : Nat} (h1 : v ≤ 127 ∧ i ≤ 9) (h2 : i = 9 → v ≤ 1) : v * 2 ^ (7 * i) < 2 ^ 64 := by
  rcases Nat.lt_or_ge i 9 with h | h
  · have := Nat.pow_le_pow_right (n := 2) (by decide) (show 7 * i ≤ 56 by omega)
    have := Nat.mul_le_mul h1.1 this
    omega
  · obtain rfl : i = 9 := by omega
    have := h2 rfl
    omega
theorem acc_next {acc v i : Nat} (h : acc < 2 ^ (7 * i)) (hv : v ≤ 127) : acc + v * 2 ^ (7 * i) < 2 ^ (7 * (i + 1)) := by
  have e : 2 ^ (7 * (i + 1)) = 128 * 2 ^ (7 * i) := by rw [Nat.mul_add, Nat.pow_add]; omega
  have := Nat.mul_le_mul_right (2 ^ (7 * i)) hv
  omega
theorem shl_u64 (v i : Nat) (hi : i ≤ 9) (h : v * 2 ^ (7 * i) < 2 ^ 64) : shI .shl .u64 (IntKind.u64.wrap ((v : Nat) : Int)) (7 * (i : Int)) = some (.int .u64 ((v * 2 ^ (7 * i) : Nat) : Int)) := by
  have hv : v < 2 ^ 64 := Nat.lt_of_le_of_lt (Nat.le_mul_of_pos_right v (Nat.pow_pos (by decide))) h
  rw [u64wrap _ hv]
  simp only [shI]
  have e1 : min (7 * (i : Int)).toNat IntKind.u64.bits = 7 * i := by
    have : IntKind.u64.bits = 64 := rfl
    omega
  rw [e1]
  have e2 : ((v : Int) * 2 ^ (7 * i)) = ((v * 2 ^ (7 * i) : Nat) : Int) := by push_cast; rfl
  rw [e2, u64wrap _ h]
theorem or_u64 (acc v i : Nat) (h : acc < 2 ^ (7 * i)) (hv : v * 2 ^ (7 * i) < 2 ^ 64) (hi : i ≤ 9) : binJ .or .u64 (acc : Int) ((v * 2 ^ (7 * i) : Nat) : Int) = some (.int .u64 ((acc + v * 2 ^ (7 * i) : Nat) : Int)) := by
  have hp : 2 ^ (7 * i) ≤ 2 ^ 63 := Nat.pow_le_pow_right (by decide) (by omega)
  have ha : acc < 2 ^ 64 := by omega
  have hor : acc ||| v * 2 ^ (7 * i) = acc + v * 2 ^ (7 * i) := by
    rw [← Nat.shiftLeft_eq, Nat.or_comm, ← Nat.shiftLeft_add_eq_or_of_lt h, Nat.add_comm]
  have hs : acc + v * 2 ^ (7 * i) < 2 ^ 64 := by
    rw [← hor]; exact Nat.or_lt_two_pow ha hv
  have h1 : (BitVec.ofInt 64 (acc : Int) ||| BitVec.ofInt 64 ((v * 2 ^ (7 * i) : Nat) : Int)).toNat = acc + v * 2 ^ (7 * i) := by
    simp only [BitVec.toNat_or, BitVec.toNat_ofInt]
    have e1 : ((acc : Int) % ((2 ^ 64 : Nat) : Int)).toNat = acc := by omega
    have e2 : (((v * 2 ^ (7 * i) : Nat) : Int) % ((2 ^ 64 : Nat) : Int)).toNat = v * 2 ^ (7 * i) := by
      generalize v * 2 ^ (7 * i) = w at *
      omega
    rw [e1, e2, hor]
  have e4 : IntKind.u64.bits = 64 := rfl
  simp only [binJ]
  rw [e4, h1, u64wrap _ hs]
set_option maxHeartbeats 2000000 in
theorem getNum_ok (b : List UInt8) (p : Int) (most : Nat) (hb : b.length ≤ 4000000000) (hp : p ≤ 9000000000 ∧ -9000000000 ≤ p) (hm : most < 2 ^ 64) : ACalls prog 33 0 [Bs b, I p, U most] [] fun r h => r = gnR b p most ∧ h = [] := by
  refine fnC lay_ok func33 rfl rfl rfl rfl rfl ?_
  have hlm : (List.map rowB b).length = b.length := List.length_map _
  by_cases h0 : p < 0
  · repeat' first | refine wr (by omega) ?_ | refine ln ?_ | refine stp lay_ok rfl ?_ | refine fin ?_ | refine n_thn ?_ | refine n_blk ?_ | refine e_thn ?_ | refine e_hit ?_ | refine e_miss rfl ?_ | refine r_thn ?_ | refine r_blk ?_ | refine e_rr ?_ | refine r_rr ?_ | refine e_cr ?_ | refine r_cr ?_ | refine .seq ?_ | refine reg ?_ | refine .block ?_ | refine .skip ?_ | refine .ret ?_ | refine .exit ?_ | refine cndT rfl ?_ | refine cndF rfl ?_ | refine c_dec rfl (fun hc => ?_) (fun hc => ?_) | refine c_ndec rfl (fun hc => ?_) (fun hc => ?_) | refine cnd rfl (fun hc => ?_) (fun hc => ?_) | refine gd rfl rfl rfl (fun hg => ?_) (fun hg => ?_) | refine gn rfl rfl rfl (fun hg => ?_) (fun hg => ?_)
    · refine f_r [] rfl trivial rfl ⟨?_, rfl⟩; rw [gnR, if_pos (.inl h0)]; rfl
    all_goals omega
  · by_cases h1 : (b.length : Int) < p
    · repeat' first | refine wr (by omega) ?_ | refine ln ?_ | refine stp lay_ok rfl ?_ | refine fin ?_ | refine n_thn ?_ | refine n_blk ?_ | refine e_thn ?_ | refine e_hit ?_ | refine e_miss rfl ?_ | refine r_thn ?_ | refine r_blk ?_ | refine e_rr ?_ | refine r_rr ?_ | refine e_cr ?_ | refine r_cr ?_ | refine .seq ?_ | refine reg ?_ | refine .block ?_ | refine .skip ?_ | refine .ret ?_ | refine .exit ?_ | refine cndT rfl ?_ | refine cndF rfl ?_ | refine c_dec rfl (fun hc => ?_) (fun hc => ?_) | refine c_ndec rfl (fun hc => ?_) (fun hc => ?_) | refine cnd rfl (fun hc => ?_) (fun hc => ?_) | refine gd rfl rfl rfl (fun hg => ?_) (fun hg => ?_) | refine gn rfl rfl rfl (fun hg => ?_) (fun hg => ?_)
      all_goals first | omega | skip
      · refine f_r [] rfl trivial rfl ⟨?_, rfl⟩; rw [gnR, if_pos (.inr h1)]; rfl
      all_goals omega
    · obtain ⟨k, rfl⟩ : ∃ k : Nat, p = k := ⟨p.toNat, by omega⟩
      have hk : k ≤ b.length := by omega
      have hkk : ¬((k : Int) < 0 ∨ (b.length : Int) < k) := by omega
      have hdl : (List.map rowB b).drop k = (b.drop k).map rowB := (List.map_drop ..).symm
      have htk : ((List.map rowB b).drop k).take (b.length - k) = (b.drop k).map rowB := by rw [hdl, List.take_of_length_le]; simp
      have hlen : ((b.drop k).map rowB).length = b.length - k := by simp
      repeat' first | refine wr (by omega) ?_ | refine ln ?_ | refine stp lay_ok rfl ?_ | refine fin ?_ | refine n_thn ?_ | refine n_blk ?_ | refine e_thn ?_ | refine e_hit ?_ | refine e_miss rfl ?_ | refine r_thn ?_ | refine r_blk ?_ | refine e_rr ?_ | refine r_rr ?_ | refine e_cr ?_ | refine r_cr ?_ | refine .seq ?_ | refine reg ?_ | refine .block ?_ | refine .skip ?_ | refine .ret ?_ | refine .exit ?_ | refine cndT rfl ?_ | refine cndF rfl ?_ | refine c_dec rfl (fun hc => ?_) (fun hc => ?_) | refine c_ndec rfl (fun hc => ?_) (fun hc => ?_) | refine cnd rfl (fun hc => ?_) (fun hc => ?_) | ((first | refine o_none rfl ?_ | refine o_none_ ?_ | refine o_yes rfl rfl rfl ?_ | refine o_yes_ rfl rfl ?_); first | refine st_subL k b.length lay_ok rfl rfl rfl ⟨_, _, rfl, rfl⟩ hlm.symm hk (by omega) ?_) | refine gd rfl rfl rfl (fun hg => ?_) (fun hg => ?_) | refine gn rfl rfl rfl (fun hg => ?_) (fun hg => ?_)
      · exfalso; omega
      rw [htk]
      repeat' first | refine wr (by omega) ?_ | refine ln ?_ | refine stp lay_ok rfl ?_ | refine fin ?_ | refine n_thn ?_ | refine n_blk ?_ | refine e_thn ?_ | refine e_hit ?_ | refine e_miss rfl ?_ | refine r_thn ?_ | refine r_blk ?_ | refine e_rr ?_ | refine r_rr ?_ | refine e_cr ?_ | refine r_cr ?_ | refine .seq ?_ | refine reg ?_ | refine .block ?_ | refine .skip ?_ | refine .ret ?_ | refine .exit ?_ | refine cndT rfl ?_ | refine cndF rfl ?_ | refine c_dec rfl (fun hc => ?_) (fun hc => ?_) | refine c_ndec rfl (fun hc => ?_) (fun hc => ?_) | refine cnd rfl (fun hc => ?_) (fun hc => ?_) | refine gd rfl rfl rfl (fun hg => ?_) (fun hg => ?_) | refine gn rfl rfl rfl (fun hg => ?_) (fun hg => ?_)
      generalize hr : b.drop k = r at *
      have hrl : (List.map rowB r).length = r.length := List.length_map _
      refine lpR (fun (i, acc, f) => i ≤ r.length ∧ acc < 2 ^ (7 * i) ∧ i ≤ 10 ∧ f + i = r.length ∧ gnF r 0 0 = gnF (r.drop i) i acc) (fun (i, acc, f) => f) (fun (i, acc, f) => [(25, I i), (9, U acc)]) (fun (i, acc, f) => []) ((0, 0, r.length)) [1, 2, 23, 24] [] [] rfl rfl rfl (.of [] (by (repeat' first | exact trivial | refine And.intro ?_ ?_ | rfl); first | done | fail) (by (repeat' first | exact trivial | refine And.intro ?_ ?_ | rfl); first | done | fail) rfl) ?_ ?_
      · exact ⟨by omega, by decide, by omega, rfl, by simp⟩
      rintro ⟨i, acc, f⟩ ⟨g1, g2, g3, g4, g5⟩
      refine nrm rfl rfl ?_
      repeat' first | refine wr (by omega) ?_ | refine ln ?_ | refine stp lay_ok rfl ?_ | refine fin ?_ | refine n_thn ?_ | refine n_blk ?_ | refine e_thn ?_ | refine e_hit ?_ | refine e_miss rfl ?_ | refine r_thn ?_ | refine r_blk ?_ | refine e_rr ?_ | refine r_rr ?_ | refine e_cr ?_ | refine r_cr ?_ | refine .seq ?_ | refine reg ?_ | refine .block ?_ | refine .skip ?_ | refine .ret ?_ | refine .exit ?_ | refine cndT rfl ?_ | refine cndF rfl ?_ | refine c_dec rfl (fun hc => ?_) (fun hc => ?_) | refine c_ndec rfl (fun hc => ?_) (fun hc => ?_) | refine cnd rfl (fun hc => ?_) (fun hc => ?_) | refine gd rfl rfl rfl (fun hg => ?_) (fun hg => ?_) | refine gn rfl rfl rfl (fun hg => ?_) (fun hg => ?_)
      · have hi : i < r.length := by omega
        have hat := at_rowB hi
        rw [List.drop_eq_getElem_cons hi, gnF] at g5
        generalize r[i] = x at *
        by_cases hbad : 10 ≤ i ∨ x.toNat = 0 ∧ 0 < i ∨ 1 < x.toNat ∧ i = 9
        · rw [if_pos hbad] at g5
          have hend : gnR b (k : Int) most = .tuple [U 0, I 0, errE 2] := by
            rw [gnR, if_neg hkk, Int.toNat_natCast, hr, g5]
          repeat' first | refine wr (by omega) ?_ | refine ln ?_ | refine stp lay_ok rfl ?_ | refine fin ?_ | refine n_thn ?_ | refine n_blk ?_ | refine e_thn ?_ | refine e_hit ?_ | refine e_miss rfl ?_ | refine r_thn ?_ | refine r_blk ?_ | refine e_rr ?_ | refine r_rr ?_ | refine e_cr ?_ | refine r_cr ?_ | refine .seq ?_ | refine reg ?_ | refine .block ?_ | refine .skip ?_ | refine .ret ?_ | refine .exit ?_ | refine cndT rfl ?_ | refine cndF rfl ?_ | refine c_dec rfl (fun hc => ?_) (fun hc => ?_) | refine c_ndec rfl (fun hc => ?_) (fun hc => ?_) | refine cnd rfl (fun hc => ?_) (fun hc => ?_) | ((first | refine o_none rfl ?_ | refine o_none_ ?_ | refine o_yes rfl rfl rfl ?_ | refine o_yes_ rfl rfl ?_); first | refine st_index (rowB x) lay_ok rfl rfl rfl rfl (by omega) hat ?_) | refine gd rfl rfl rfl (fun hg => ?_) (fun hg => ?_) | refine gn rfl rfl rfl (fun hg => ?_) (fun hg => ?_)
          all_goals first
            | (exfalso; omega)
            | (refine f_r [] rfl trivial rfl ⟨?_, rfl⟩; rw [hend]; rfl)
        · rw [if_neg hbad] at g5
          have hand := and127 x
          have hv : x.toNat % 128 * 2 ^ (7 * i) < 2 ^ 64 := bit_small (by omega) (by omega)
          have hacc := acc_next (i := i) (v := x.toNat % 128) g2 (by omega)
          have hshl := shl_u64 (x.toNat % 128) i (by omega) hv
          have hor := or_u64 acc (x.toNat % 128) i g2 hv (by omega)
          generalize hz : acc + x.toNat % 128 * 2 ^ (7 * i) = z at *
          have hend : ¬ 128 ≤ x.toNat → gnR b (k : Int) most = if most < z then .tuple [U 0, I 0, errE 7] else .tuple [U z, I (k + i + 1), nilE] := fun hx => by
            rw [gnR, if_neg hkk, Int.toNat_natCast, hr, g5, if_neg hx]
            simp only [Int.natCast_add, Int.add_assoc]; rfl
          repeat' first | refine wr (by omega) ?_ | refine ln ?_ | refine stp lay_ok rfl ?_ | refine fin ?_ | refine n_thn ?_ | refine n_blk ?_ | refine e_thn ?_ | refine e_hit ?_ | refine e_miss rfl ?_ | refine r_thn ?_ | refine r_blk ?_ | refine e_rr ?_ | refine r_rr ?_ | refine e_cr ?_ | refine r_cr ?_ | refine .seq ?_ | refine reg ?_ | refine .block ?_ | refine .skip ?_ | refine .ret ?_ | refine .exit ?_ | refine cndT rfl ?_ | refine cndF rfl ?_ | refine c_dec rfl (fun hc => ?_) (fun hc => ?_) | refine c_ndec rfl (fun hc => ?_) (fun hc => ?_) | refine cnd rfl (fun hc => ?_) (fun hc => ?_) | ((first | refine o_none rfl ?_ | refine o_none_ ?_ | refine o_yes rfl rfl rfl ?_ | refine o_yes_ rfl rfl ?_); first | refine st_index (rowB x) lay_ok rfl rfl rfl rfl (by omega) hat ?_ | refine st_bits rfl rfl hand ?_ | refine st_shift rfl rfl (by omega) hshl ?_ | refine st_bits rfl rfl hor ?_) | refine gd rfl rfl rfl (fun hg => ?_) (fun hg => ?_) | refine gn rfl rfl rfl (fun hg => ?_) (fun hg => ?_)
          all_goals first
            | (exfalso; omega)
            | (refine f_r [] rfl trivial rfl ⟨?_, rfl⟩; rw [hend (by omega), if_pos (by omega)]; rfl)
            | (refine f_r [] rfl trivial rfl ⟨?_, rfl⟩; rw [hend (by omega), if_neg (by omega)]; rfl)
            | (refine n_rr ((i + 1, z, f - 1)) ?_ (.of [] (by (repeat' first | exact trivial | refine And.intro ?_ ?_ | rfl); first | done | fail) (by (repeat' first | exact trivial | refine And.intro ?_ ?_ | rfl); first | done | fail) rfl) ?_
               · show f - 1 < f; omega
               · refine ⟨by omega, hacc, by omega, by omega, ?_⟩
                 rw [g5, if_pos (by omega)])
      · have hend : gnR b (k : Int) most = .tuple [U 0, I 0, errE 2] := by
          rw [gnR, if_neg hkk, Int.toNat_natCast, hr, g5, List.drop_eq_nil_of_le (by omega), gnF]
        refine f_r [] rfl trivial rfl ⟨?_, rfl⟩
        rw [hend]; rfl
end Go.Proofs.YtgjoloaajocafaaDoorFn
namespace Go.Proofs.YtgjoloaajocafaaDoorFn
open Go.Proofs.YtgjoloaajocafaaDoorAl Go.Proofs.Tryd
attribute [local irreducible] IntKind.wrap CodeOk OpsL OpG ACalls thn inBlk rndR cutR WkR Wk fnR DW ExtOk partsOf
/-- A number that is read at a place: the error, or the number and the place behind it. -/
def gnC (b : List UInt8) (p most : Nat) : Except Int (Nat × Nat) := match gnF (b.drop p) 0 0 with
  | none => .error 2
  | some (n, k) => if most < n then .error 7 else .ok (n, p + k)
def gnX : Except Int (Nat × Nat) → AV
  | .error e => .tuple [U 0, I 0, errE e]
  | .ok (n, q) => .tuple [U n, I q, nilE]
theorem gnR_eq (b : List UInt8) (p most : Nat) (hp : p ≤ b.length) : gnR b (p : Int) most = gnX (gnC b p most) := by
  rw [gnR, if_neg (by omega), Int.toNat_natCast, gnC]
  cases gnF (b.drop p) 0 0 with
  | none => rfl
  | some x =>
    obtain ⟨n, k⟩ := x
    simp only []
    split <;> simp [gnX]
theorem getN_ok (b : List UInt8) (p most : Nat) (hb : b.length ≤ 4000000000) (hp : p ≤ b.length) (hm : most < 2 ^ 64) : ACalls prog 33 0 [Bs b, I p, U most] [] fun r h => r = gnX (gnC b p most) ∧ h = [] := by
  rw [← gnR_eq b p most hp]
  exact getNum_ok b p most hb (by omega) hm
theorem gnF_le : ∀ (l : List UInt8) (i acc : Nat) {n k : Nat}, gnF l i acc = some (n, k) → k ≤ i + l.length ∧ i < k
  | [], _, _, _, _, h => by simp [gnF] at h
  | x :: r, i, acc, n, k, h => by
    rw [gnF] at h
    split at h
    · cases h
    · split at h
      · have := gnF_le r _ _ h; simp; omega
      · simp only [Option.some.injEq, Prod.mk.injEq] at h
        simp; omega
theorem gnC_le {b : List UInt8} {p most n q : Nat} (hp : p ≤ b.length) (h : gnC b p most = .ok (n, q)) : n ≤ most ∧ q ≤ b.length ∧ p < q := by
  rw [gnC] at h
  cases hg : gnF (b.drop p) 0 0 with
  | none => rw [hg] at h; cases h
  | some x =>
    obtain ⟨n', k⟩ := x
    rw [hg] at h
    simp only [] at h
    split at h
    · cases h
    · simp only [Except.ok.injEq, Prod.mk.injEq] at h
      have := gnF_le _ _ _ hg
      simp at this
      omega
abbrev mt : ByteArray := ⟨#[]⟩
def txC (b : List UInt8) (p : Nat) : Except Int (ByteArray × Nat) := match gnC b p 4096 with
  | .error e => .error e
  | .ok (n, q) => if b.length < q + n then .error 2 else .ok (strOf ((b.drop q).take n), q + n)
def txX : Except Int (ByteArray × Nat) → AV
  | .error e => .tuple [Sx mt, I 0, errE e]
  | .ok (s, q) => .tuple [Sx s, I q, nilE]
theorem w4096 : IntKind.u64.wrap 4096 = ((4096 : Nat) : Int) := u64wrap 4096 (by decide)
theorem getT_ok (b : List UInt8) (p : Nat) (hb : b.length ≤ 4000000000) (hp : p ≤ b.length) : ACalls prog 54 0 [Bs b, I p, I 4096] [] fun r h => r = txX (txC b p) ∧ h = [] := by
  refine fnC lay_ok func54 rfl rfl rfl rfl rfl ?_
  have hg := getN_ok b p 4096 hb hp (by decide)
  have hlm : (List.map rowB b).length = b.length := List.length_map _
  repeat' first | refine wr (by omega) ?_ | refine ln ?_ | refine stp lay_ok rfl ?_ | refine fin ?_ | refine n_thn ?_ | refine n_blk ?_ | refine e_thn ?_ | refine e_hit ?_ | refine e_miss rfl ?_ | refine r_thn ?_ | refine r_blk ?_ | refine e_rr ?_ | refine r_rr ?_ | refine e_cr ?_ | refine r_cr ?_ | refine .seq ?_ | refine reg ?_ | refine .block ?_ | refine .skip ?_ | refine .ret ?_ | refine .exit ?_ | refine cndT rfl ?_ | refine cndF rfl ?_ | refine c_dec rfl (fun hc => ?_) (fun hc => ?_) | refine c_ndec rfl (fun hc => ?_) (fun hc => ?_) | refine cnd rfl (fun hc => ?_) (fun hc => ?_) | refine gd rfl rfl rfl (fun hg => ?_) (fun hg => ?_) | refine gn rfl rfl rfl (fun hg => ?_) (fun hg => ?_)
  rw [w4096]
  cases hc : gnC b p 4096 with
  | error e =>
    rw [hc] at hg; simp only [gnX] at hg
    have hend : txC b p = .error e := by rw [txC, hc]
    repeat' first | refine wr (by omega) ?_ | refine ln ?_ | refine stp lay_ok rfl ?_ | refine fin ?_ | refine n_thn ?_ | refine n_blk ?_ | refine e_thn ?_ | refine e_hit ?_ | refine e_miss rfl ?_ | refine r_thn ?_ | refine r_blk ?_ | refine e_rr ?_ | refine r_rr ?_ | refine e_cr ?_ | refine r_cr ?_ | refine .seq ?_ | refine reg ?_ | refine .block ?_ | refine .skip ?_ | refine .ret ?_ | refine .exit ?_ | refine cndT rfl ?_ | refine cndF rfl ?_ | refine c_dec rfl (fun hc => ?_) (fun hc => ?_) | refine c_ndec rfl (fun hc => ?_) (fun hc => ?_) | refine cnd rfl (fun hc => ?_) (fun hc => ?_) | ((first | refine o_none rfl ?_ | refine o_none_ ?_ | refine o_yes rfl rfl rfl ?_ | refine o_yes_ rfl rfl ?_); first | refine st_pure (hg) b33 rfl rfl rfl rfl ?_) | refine gd rfl rfl rfl (fun hg => ?_) (fun hg => ?_) | refine gn rfl rfl rfl (fun hg => ?_) (fun hg => ?_)
    refine f_r [] rfl trivial rfl ⟨?_, rfl⟩; rw [hend]; rfl
  | ok x =>
    obtain ⟨n, q⟩ := x
    have hle := gnC_le hp hc
    rw [hc] at hg; simp only [gnX] at hg
    have hend : txC b p = if b.length < q + n then .error 2 else .ok (strOf ((b.drop q).take n), q + n) := by rw [txC, hc]
    by_cases hx : b.length < q + n
    · rw [if_pos hx] at hend
      repeat' first | refine wr (by omega) ?_ | refine ln ?_ | refine stp lay_ok rfl ?_ | refine fin ?_ | refine n_thn ?_ | refine n_blk ?_ | refine e_thn ?_ | refine e_hit ?_ | refine e_miss rfl ?_ | refine r_thn ?_ | refine r_blk ?_ | refine e_rr ?_ | refine r_rr ?_ | refine e_cr ?_ | refine r_cr ?_ | refine .seq ?_ | refine reg ?_ | refine .block ?_ | refine .skip ?_ | refine .ret ?_ | refine .exit ?_ | refine cndT rfl ?_ | refine cndF rfl ?_ | refine c_dec rfl (fun hc => ?_) (fun hc => ?_) | refine c_ndec rfl (fun hc => ?_) (fun hc => ?_) | refine cnd rfl (fun hc => ?_) (fun hc => ?_) | ((first | refine o_none rfl ?_ | refine o_none_ ?_ | refine o_yes rfl rfl rfl ?_ | refine o_yes_ rfl rfl ?_); first | refine st_pure (hg) b33 rfl rfl rfl rfl ?_) | refine gd rfl rfl rfl (fun hg => ?_) (fun hg => ?_) | refine gn rfl rfl rfl (fun hg => ?_) (fun hg => ?_)
      · refine f_r [] rfl trivial rfl ⟨?_, rfl⟩; rw [hend]; rfl
      · exfalso; omega
    · rw [if_neg hx] at hend
      have hsl : ((List.map rowB b).drop q).take (q + n - q) = ((b.drop q).take n).map rowB := by
        rw [← List.map_drop, ← List.map_take, Nat.add_sub_cancel_left]
      repeat' first | refine wr (by omega) ?_ | refine ln ?_ | refine stp lay_ok rfl ?_ | refine fin ?_ | refine n_thn ?_ | refine n_blk ?_ | refine e_thn ?_ | refine e_hit ?_ | refine e_miss rfl ?_ | refine r_thn ?_ | refine r_blk ?_ | refine e_rr ?_ | refine r_rr ?_ | refine e_cr ?_ | refine r_cr ?_ | refine .seq ?_ | refine reg ?_ | refine .block ?_ | refine .skip ?_ | refine .ret ?_ | refine .exit ?_ | refine cndT rfl ?_ | refine cndF rfl ?_ | refine c_dec rfl (fun hc => ?_) (fun hc => ?_) | refine c_ndec rfl (fun hc => ?_) (fun hc => ?_) | refine cnd rfl (fun hc => ?_) (fun hc => ?_) | ((first | refine o_none rfl ?_ | refine o_none_ ?_ | refine o_yes rfl rfl rfl ?_ | refine o_yes_ rfl rfl ?_); first | refine st_pure (hg) b33 rfl rfl rfl rfl ?_ | refine st_subL q (q + n) lay_ok rfl rfl rfl ⟨_, _, rfl, rfl⟩ ⟨_, _, rfl, (Int.natCast_add q n).symm⟩ (by omega) (by omega) ?_) | refine gd rfl rfl rfl (fun hg => ?_) (fun hg => ?_) | refine gn rfl rfl rfl (fun hg => ?_) (fun hg => ?_)
      · exfalso; omega
      · rw [hsl]
        repeat' first | refine wr (by omega) ?_ | refine ln ?_ | refine stp lay_ok rfl ?_ | refine fin ?_ | refine n_thn ?_ | refine n_blk ?_ | refine e_thn ?_ | refine e_hit ?_ | refine e_miss rfl ?_ | refine r_thn ?_ | refine r_blk ?_ | refine e_rr ?_ | refine r_rr ?_ | refine e_cr ?_ | refine r_cr ?_ | refine .seq ?_ | refine reg ?_ | refine .block ?_ | refine .skip ?_ | refine .ret ?_ | refine .exit ?_ | refine cndT rfl ?_ | refine cndF rfl ?_ | refine c_dec rfl (fun hc => ?_) (fun hc => ?_) | refine c_ndec rfl (fun hc => ?_) (fun hc => ?_) | refine cnd rfl (fun hc => ?_) (fun hc => ?_) | ((first | refine o_none rfl ?_ | refine o_none_ ?_ | refine o_yes rfl rfl rfl ?_ | refine o_yes_ rfl rfl ?_); first | refine st_strOf lay_ok rfl rfl rfl rfl rfl rfl rfl ?_) | refine gd rfl rfl rfl (fun hg => ?_) (fun hg => ?_) | refine gn rfl rfl rfl (fun hg => ?_) (fun hg => ?_)
        refine f_r [] rfl trivial rfl ⟨?_, rfl⟩; rw [hend]; simp only [txX, Int.natCast_add]; rfl
end Go.Proofs.YtgjoloaajocafaaDoorFn
namespace Go.Proofs.YtgjoloaajocafaaDoorFn
open Go.Proofs.YtgjoloaajocafaaDoorAl Go.Proofs.Tryd
attribute [local irreducible] IntKind.wrap CodeOk OpsL OpG ACalls thn inBlk rndR cutR WkR Wk fnR DW ExtOk partsOf
theorem b57 : HasBody prog 57 := ⟨f57, func57, Option.some_ne_none _, by decide⟩
theorem b56 : HasBody prog 56 := ⟨f56, func56, Option.some_ne_none _, by decide⟩
theorem b39 : HasBody prog 39 := ⟨f39, func39, Option.some_ne_none _, by decide⟩
theorem rowS_one {b : List ByteArray} : ∀ row ∈ b.map rowS, ∀ y ∈ row, SV.one y = true := by
  intro row hr y hy
  obtain ⟨_, _, rfl⟩ := List.mem_map.1 hr
  simp only [rowS, List.mem_singleton] at hy; subst hy; rfl
theorem rowE_one {b : List EV} : ∀ row ∈ b.map rowE, ∀ y ∈ row, SV.one y = true := by
  intro row hr y hy
  obtain ⟨_, _, rfl⟩ := List.mem_map.1 hr
  simp only [rowE, List.mem_cons, List.not_mem_nil, or_false] at hy
  rcases hy with rfl | rfl | rfl <;> rfl
theorem cloneS_ok (b : List ByteArray) (hb : b.length ≤ 4000000000) : ACalls prog 57 0 [.st (.sl 1 (b.map rowS))] [] fun r h => r = .st (.sl 1 (b.map rowS)) ∧ h = [] := by
  refine fnC lay_ok func57 rfl rfl rfl rfl rfl ?_
  have hm : (List.map rowS b).length = b.length := List.length_map _
  repeat' first | refine wr (by omega) ?_ | refine ln ?_ | refine stp lay_ok rfl ?_ | refine fin ?_ | refine n_thn ?_ | refine n_blk ?_ | refine e_thn ?_ | refine e_hit ?_ | refine e_miss rfl ?_ | refine r_thn ?_ | refine r_blk ?_ | refine e_rr ?_ | refine r_rr ?_ | refine e_cr ?_ | refine r_cr ?_ | refine .seq ?_ | refine reg ?_ | refine .block ?_ | refine .skip ?_ | refine .ret ?_ | refine .exit ?_ | refine cndT rfl ?_ | refine cndF rfl ?_ | refine c_dec rfl (fun hc => ?_) (fun hc => ?_) | refine c_ndec rfl (fun hc => ?_) (fun hc => ?_) | refine cnd rfl (fun hc => ?_) (fun hc => ?_) | ((first | refine o_none rfl ?_ | refine o_none_ ?_ | refine o_yes rfl rfl rfl ?_ | refine o_yes_ rfl rfl ?_); first | refine st_nilSl lay_ok rfl rfl rfl rfl (fun z hz => ?_) | refine st_append lay_ok rfl rfl rfl rfl rfl rfl rfl rfl .sl0 .sl rfl rowS_one (by simp only [List.length_nil]; omega) (by simp only [List.length_nil]; omega) ?_) | refine gd rfl rfl rfl (fun hg => ?_) (fun hg => ?_) | refine gn rfl rfl rfl (fun hg => ?_) (fun hg => ?_)
  · cases z with
    | false => cases hc
    | true =>
      rw [hz rfl]
      refine f_end (n0 := 0) (t'' := [(2, .st (.sl 1 []))]) (h'' := []) (Wk.then (Wk.trans (Wk.nilT 1 2 rfl rfl) (Wk.frz 0 [2] rfl rfl rfl (by (repeat' first | exact trivial | refine And.intro ?_ ?_ | rfl); first | done | fail) (by (repeat' first | exact trivial | refine And.intro ?_ ?_ | rfl); first | done | fail) rfl rfl)) (WkR.of [] (by (repeat' first | exact trivial | refine And.intro ?_ ?_ | rfl); first | done | fail) (by (repeat' first | exact trivial | refine And.intro ?_ ?_ | rfl); first | done | fail) rfl)) rfl rfl ⟨?_, rfl⟩
      rfl
  · refine f_end (n0 := 0) (t'' := [(2, .st (.sl 1 (b.map rowS)))]) (h'' := []) (Wk.then (Wk.frz 0 [2] rfl rfl rfl (by (repeat' first | exact trivial | refine And.intro ?_ ?_ | rfl); first | done | fail) (by (repeat' first | exact trivial | refine And.intro ?_ ?_ | rfl); first | done | fail) rfl rfl) (WkR.of [] (by (repeat' first | exact trivial | refine And.intro ?_ ?_ | rfl); first | done | fail) (by (repeat' first | exact trivial | refine And.intro ?_ ?_ | rfl); first | done | fail) rfl)) rfl rfl ⟨?_, rfl⟩
    rfl
theorem cloneE_ok (b : List EV) (hb : b.length ≤ 4000000000) : ACalls prog 56 0 [.st (.sl 3 (b.map rowE))] [] fun r h => r = .lsl 0 3 0 (b.map rowE).length ∧ h = [(0, .arr 3 (b.map rowE))] := by
  refine fnC lay_ok func56 rfl rfl rfl rfl rfl ?_
  have hm : (List.map rowE b).length = b.length := List.length_map _
  repeat' first | refine wr (by omega) ?_ | refine ln ?_ | refine stp lay_ok rfl ?_ | refine fin ?_ | refine n_thn ?_ | refine n_blk ?_ | refine e_thn ?_ | refine e_hit ?_ | refine e_miss rfl ?_ | refine r_thn ?_ | refine r_blk ?_ | refine e_rr ?_ | refine r_rr ?_ | refine e_cr ?_ | refine r_cr ?_ | refine .seq ?_ | refine reg ?_ | refine .block ?_ | refine .skip ?_ | refine .ret ?_ | refine .exit ?_ | refine cndT rfl ?_ | refine cndF rfl ?_ | refine c_dec rfl (fun hc => ?_) (fun hc => ?_) | refine c_ndec rfl (fun hc => ?_) (fun hc => ?_) | refine cnd rfl (fun hc => ?_) (fun hc => ?_) | ((first | refine o_none rfl ?_ | refine o_none_ ?_ | refine o_yes rfl rfl rfl ?_ | refine o_yes_ rfl rfl ?_); first | refine st_nilSl lay_ok rfl rfl rfl rfl (fun z hz => ?_) | refine st_append lay_ok rfl rfl rfl rfl rfl rfl rfl rfl .sl0 .sl rfl rowE_one (by simp only [List.length_nil]; omega) (by simp only [List.length_nil]; omega) ?_) | refine gd rfl rfl rfl (fun hg => ?_) (fun hg => ?_) | refine gn rfl rfl rfl (fun hg => ?_) (fun hg => ?_)
  · cases z with
    | false => cases hc
    | true =>
      rw [hz rfl]
      refine f_end (n0 := 1) (t'' := [(2, .lsl 0 3 0 0)]) (h'' := [(0, .arr 3 [])]) (Wk.then (Wk.nilT 3 2 rfl rfl) (WkR.of [0] (by (repeat' first | exact trivial | refine And.intro ?_ ?_ | rfl); first | done | fail) (by (repeat' first | exact trivial | refine And.intro ?_ ?_ | rfl); first | done | fail) rfl)) rfl rfl ⟨?_, rfl⟩
      rfl
  · refine f_end (n0 := 1) (t'' := [(2, .lsl 0 3 0 (b.map rowE).length)]) (h'' := [(0, .arr 3 (b.map rowE))]) (WkR.of [0] (by (repeat' first | exact trivial | refine And.intro ?_ ?_ | rfl); first | done | fail) (by (repeat' first | exact trivial | refine And.intro ?_ ?_ | rfl); first | done | fail) rfl) rfl rfl ⟨?_, rfl⟩
    rfl
theorem set_same {α : Type} {l : List α} {i : Nat} {x : α} (h : l[i]? = some x) : l.set i x = l := by
  apply List.ext_getElem?
  intro j
  rw [List.getElem?_set]
  split
  · rename_i e; subst e; rw [h]; split
    · rfl
    · rename_i h2; rw [List.getElem?_eq_none (by omega)] at h; cases h
  · rfl
theorem entries_ok (b : List EV) (hb : b.length ≤ 4000000000) (hk : ∀ e ∈ b, e.keys.length ≤ 4000000000) : ACalls prog 39 0 [.st (.sl 3 (b.map rowE))] [] fun r h => r = .st (.sl 3 (b.map rowE)) ∧ h = [] := by
  refine fnC lay_ok func39 rfl rfl rfl rfl rfl ?_
  have hm : (List.map rowE b).length = b.length := List.length_map _
  have h1 := cloneE_ok b hb
  repeat' first | refine wr (by omega) ?_ | refine ln ?_ | refine stp lay_ok rfl ?_ | refine fin ?_ | refine n_thn ?_ | refine n_blk ?_ | refine e_thn ?_ | refine e_hit ?_ | refine e_miss rfl ?_ | refine r_thn ?_ | refine r_blk ?_ | refine e_rr ?_ | refine r_rr ?_ | refine e_cr ?_ | refine r_cr ?_ | refine .seq ?_ | refine reg ?_ | refine .block ?_ | refine .skip ?_ | refine .ret ?_ | refine .exit ?_ | refine cndT rfl ?_ | refine cndF rfl ?_ | refine c_dec rfl (fun hc => ?_) (fun hc => ?_) | refine c_ndec rfl (fun hc => ?_) (fun hc => ?_) | refine cnd rfl (fun hc => ?_) (fun hc => ?_) | ((first | refine o_none rfl ?_ | refine o_none_ ?_ | refine o_yes rfl rfl rfl ?_ | refine o_yes_ rfl rfl ?_); first | refine st_callF 1 (h1) b56 rfl rfl rfl rfl rfl rfl (by (repeat' first | exact trivial | refine And.intro ?_ ?_ | rfl); first | done | fail) rfl ?_) | refine gd rfl rfl rfl (fun hg => ?_) (fun hg => ?_) | refine gn rfl rfl rfl (fun hg => ?_) (fun hg => ?_)
  refine lpR (fun k => k ≤ b.length) (fun k => b.length - k) (fun k => [(9, I k), (3, .lsl 0 3 0 (b.map rowE).length)]) (fun k => [(0, .arr 3 (b.map rowE))]) (0) [3, 8] [0] [] rfl rfl rfl (.of [] (by (repeat' first | exact trivial | refine And.intro ?_ ?_ | rfl); first | done | fail) (by (repeat' first | exact trivial | refine And.intro ?_ ?_ | rfl); first | done | fail) rfl) ?_ ?_
  · exact Nat.zero_le _
  rintro k hk0
  refine nrm rfl rfl ?_
  repeat' first | refine wr (by omega) ?_ | refine ln ?_ | refine stp lay_ok rfl ?_ | refine fin ?_ | refine n_thn ?_ | refine n_blk ?_ | refine e_thn ?_ | refine e_hit ?_ | refine e_miss rfl ?_ | refine r_thn ?_ | refine r_blk ?_ | refine e_rr ?_ | refine r_rr ?_ | refine e_cr ?_ | refine r_cr ?_ | refine .seq ?_ | refine reg ?_ | refine .block ?_ | refine .skip ?_ | refine .ret ?_ | refine .exit ?_ | refine cndT rfl ?_ | refine cndF rfl ?_ | refine c_dec rfl (fun hc => ?_) (fun hc => ?_) | refine c_ndec rfl (fun hc => ?_) (fun hc => ?_) | refine cnd rfl (fun hc => ?_) (fun hc => ?_) | refine gd rfl rfl rfl (fun hg => ?_) (fun hg => ?_) | refine gn rfl rfl rfl (fun hg => ?_) (fun hg => ?_)
  · have hk' : k < b.length := by omega
    have hcl := cloneS_ok b[k].keys (hk _ (List.getElem_mem hk'))
    have hat : (b.map rowE)[0 + ((k : Nat) : Int).toNat]? = some (rowE b[k]) := by simp [hk']
    have hset : (b.map rowE).set (0 + ((k : Nat) : Int).toNat) (putAt (rowE b[k]) 2 [.sl 1 (b[k].keys.map rowS)]) = b.map rowE := set_same hat
    generalize b[k] = e at *
    repeat' first | refine wr (by omega) ?_ | refine ln ?_ | refine stp lay_ok rfl ?_ | refine fin ?_ | refine n_thn ?_ | refine n_blk ?_ | refine e_thn ?_ | refine e_hit ?_ | refine e_miss rfl ?_ | refine r_thn ?_ | refine r_blk ?_ | refine e_rr ?_ | refine r_rr ?_ | refine e_cr ?_ | refine r_cr ?_ | refine .seq ?_ | refine reg ?_ | refine .block ?_ | refine .skip ?_ | refine .ret ?_ | refine .exit ?_ | refine cndT rfl ?_ | refine cndF rfl ?_ | refine c_dec rfl (fun hc => ?_) (fun hc => ?_) | refine c_ndec rfl (fun hc => ?_) (fun hc => ?_) | refine cnd rfl (fun hc => ?_) (fun hc => ?_) | ((first | refine o_none rfl ?_ | refine o_none_ ?_ | refine o_yes rfl rfl rfl ?_ | refine o_yes_ rfl rfl ?_); first | refine st_indexL lay_ok rfl rfl rfl rfl (by omega) (by omega) ?_ | refine st_loadE (rowE e) lay_ok rfl rfl rfl hat rfl rfl rfl ?_ | refine st_pure (hcl) b57 rfl rfl rfl rfl ?_) | refine o_none_ (st_storeE lay_ok rfl rfl rfl hat rfl rfl rfl rfl ?_) | refine gd rfl rfl rfl (fun hg => ?_) (fun hg => ?_) | refine gn rfl rfl rfl (fun hg => ?_) (fun hg => ?_)
    refine n_rr (k + 1) ?_ (.of [] (by (repeat' first | exact trivial | refine And.intro ?_ ?_ | rfl | exact congrArg (fun r => some (AO.arr 3 r)) hset); first | done | fail) (by (repeat' first | exact trivial | refine And.intro ?_ ?_ | rfl | exact congrArg (fun r => some (AO.arr 3 r)) hset); first | done | fail) rfl) ?_
    · omega
    · exact hk'
  · refine f_end (n0 := 0) (t'' := [(2, .st (.sl 3 (b.map rowE)))]) (h'' := []) (Wk.then (Wk.frz 0 [2] rfl rfl rfl (by (repeat' first | exact trivial | refine And.intro ?_ ?_ | rfl); first | done | fail) (by (repeat' first | exact trivial | refine And.intro ?_ ?_ | rfl); first | done | fail) rfl rfl) (WkR.of [] (by (repeat' first | exact trivial | refine And.intro ?_ ?_ | rfl); first | done | fail) (by (repeat' first | exact trivial | refine And.intro ?_ ?_ | rfl); first | done | fail) rfl)) rfl rfl ⟨?_, rfl⟩
    rfl
end Go.Proofs.YtgjoloaajocafaaDoorFn
namespace Go.Proofs.YtgjoloaajocafaaDoorFn
open Go.Proofs.YtgjoloaajocafaaDoorAl Go.Proofs.Tryd
attribute [local irreducible] IntKind.wrap CodeOk OpsL OpG ACalls thn inBlk rndR cutR WkR Wk fnR DW ExtOk partsOf
theorem b38 : HasBody prog 38 := ⟨f38, func38, Option.some_ne_none _, by decide⟩
theorem b25 : HasBody prog 25 := ⟨f25, func25, Option.some_ne_none _, by decide⟩
theorem b29 : HasBody prog 29 := ⟨f29, func29, Option.some_ne_none _, by decide⟩
theorem b45 : HasBody prog 45 := ⟨f45, func45, Option.some_ne_none _, by decide⟩
theorem b46 : HasBody prog 46 := ⟨f46, func46, Option.some_ne_none _, by decide⟩
theorem b49 : HasBody prog 49 := ⟨f49, func49, Option.some_ne_none _, by decide⟩
theorem b62 : HasBody prog 62 := ⟨f62, func62, Option.some_ne_none _, by decide⟩
structure NV where
  client : Int
  name : ByteArray
  done : Bool
  entries : List EV
deriving DecidableEq
def rowN (s : NV) : List SV := [.int .i64 s.client, .str s.name, .bool s.done, .sl 3 (s.entries.map rowE)]
theorem rowN_one {b : List NV} : ∀ row ∈ b.map rowN, ∀ y ∈ row, SV.one y = true := by
  intro row hr y hy
  obtain ⟨_, _, rfl⟩ := List.mem_map.1 hr
  simp only [rowN, List.mem_cons, List.not_mem_nil, or_false] at hy
  rcases hy with rfl | rfl | rfl | rfl <;> rfl
theorem cloneN_ok (b : List NV) (hb : b.length ≤ 4000000000) : ACalls prog 38 0 [.st (.sl 4 (b.map rowN))] [] fun r h => r = .lsl 0 4 0 (b.map rowN).length ∧ h = [(0, .arr 4 (b.map rowN))] := by
  refine fnC lay_ok func38 rfl rfl rfl rfl rfl ?_
  have hm : (List.map rowN b).length = b.length := List.length_map _
  repeat' first | refine wr (by omega) ?_ | refine ln ?_ | refine stp lay_ok rfl ?_ | refine fin ?_ | refine n_thn ?_ | refine n_blk ?_ | refine e_thn ?_ | refine e_hit ?_ | refine e_miss rfl ?_ | refine r_thn ?_ | refine r_blk ?_ | refine e_rr ?_ | refine r_rr ?_ | refine e_cr ?_ | refine r_cr ?_ | refine .seq ?_ | refine reg ?_ | refine .block ?_ | refine .skip ?_ | refine .ret ?_ | refine .exit ?_ | refine cndT rfl ?_ | refine cndF rfl ?_ | refine c_dec rfl (fun hc => ?_) (fun hc => ?_) | refine c_ndec rfl (fun hc => ?_) (fun hc => ?_) | refine cnd rfl (fun hc => ?_) (fun hc => ?_) | ((first | refine o_none rfl ?_ | refine o_none_ ?_ | refine o_yes rfl rfl rfl ?_ | refine o_yes_ rfl rfl ?_); first | refine st_nilSl lay_ok rfl rfl rfl rfl (fun z hz => ?_) | refine st_append lay_ok rfl rfl rfl rfl rfl rfl rfl rfl .sl0 .sl rfl rowN_one (by simp only [List.length_nil]; omega) (by simp only [List.length_nil]; omega) ?_) | refine gd rfl rfl rfl (fun hg => ?_) (fun hg => ?_) | refine gn rfl rfl rfl (fun hg => ?_) (fun hg => ?_)
  · cases z with
    | false => cases hc
    | true =>
      rw [hz rfl]
      refine f_end (n0 := 1) (t'' := [(2, .lsl 0 4 0 0)]) (h'' := [(0, .arr 4 [])]) (Wk.then (Wk.nilT 4 2 rfl rfl) (WkR.of [0] (by (repeat' first | exact trivial | refine And.intro ?_ ?_ | rfl); first | done | fail) (by (repeat' first | exact trivial | refine And.intro ?_ ?_ | rfl); first | done | fail) rfl)) rfl rfl ⟨?_, rfl⟩
      rfl
  · refine f_end (n0 := 1) (t'' := [(2, .lsl 0 4 0 (b.map rowN).length)]) (h'' := [(0, .arr 4 (b.map rowN))]) (WkR.of [0] (by (repeat' first | exact trivial | refine And.intro ?_ ?_ | rfl); first | done | fail) (by (repeat' first | exact trivial | refine And.intro ?_ ?_ | rfl); first | done | fail) rfl) rfl rfl ⟨?_, rfl⟩
    rfl
/-- Lists that are not too long to be counted. -/
def EV.fit (e : EV) : Prop := e.path.size ≤ 4000000000 - 1 ∧ e.keys.length ≤ 4000000000
def NV.fit (s : NV) : Prop := s.name.size ≤ 4000000000 - 1 ∧ s.entries.length ≤ 4000000000 ∧ ∀ e ∈ s.entries, e.fit
theorem snapshots_ok (b : List NV) (hb : b.length ≤ 4000000000) (hk : ∀ s ∈ b, s.fit) : ACalls prog 25 0 [.st (.sl 4 (b.map rowN))] [] fun r h => r = .st (.sl 4 (b.map rowN)) ∧ h = [] := by
  refine fnC lay_ok func25 rfl rfl rfl rfl rfl ?_
  have hm : (List.map rowN b).length = b.length := List.length_map _
  have h1 := cloneN_ok b hb
  repeat' first | refine wr (by omega) ?_ | refine ln ?_ | refine stp lay_ok rfl ?_ | refine fin ?_ | refine n_thn ?_ | refine n_blk ?_ | refine e_thn ?_ | refine e_hit ?_ | refine e_miss rfl ?_ | refine r_thn ?_ | refine r_blk ?_ | refine e_rr ?_ | refine r_rr ?_ | refine e_cr ?_ | refine r_cr ?_ | refine .seq ?_ | refine reg ?_ | refine .block ?_ | refine .skip ?_ | refine .ret ?_ | refine .exit ?_ | refine cndT rfl ?_ | refine cndF rfl ?_ | refine c_dec rfl (fun hc => ?_) (fun hc => ?_) | refine c_ndec rfl (fun hc => ?_) (fun hc => ?_) | refine cnd rfl (fun hc => ?_) (fun hc => ?_) | ((first | refine o_none rfl ?_ | refine o_none_ ?_ | refine o_yes rfl rfl rfl ?_ | refine o_yes_ rfl rfl ?_); first | refine st_callF 1 (h1) b38 rfl rfl rfl rfl rfl rfl (by (repeat' first | exact trivial | refine And.intro ?_ ?_ | rfl); first | done | fail) rfl ?_) | refine gd rfl rfl rfl (fun hg => ?_) (fun hg => ?_) | refine gn rfl rfl rfl (fun hg => ?_) (fun hg => ?_)
  refine lpR (fun k => k ≤ b.length) (fun k => b.length - k) (fun k => [(9, I k), (3, .lsl 0 4 0 (b.map rowN).length)]) (fun k => [(0, .arr 4 (b.map rowN))]) (0) [3, 8] [0] [] rfl rfl rfl (.of [] (by (repeat' first | exact trivial | refine And.intro ?_ ?_ | rfl); first | done | fail) (by (repeat' first | exact trivial | refine And.intro ?_ ?_ | rfl); first | done | fail) rfl) ?_ ?_
  · exact Nat.zero_le _
  rintro k hk0
  refine nrm rfl rfl ?_
  repeat' first | refine wr (by omega) ?_ | refine ln ?_ | refine stp lay_ok rfl ?_ | refine fin ?_ | refine n_thn ?_ | refine n_blk ?_ | refine e_thn ?_ | refine e_hit ?_ | refine e_miss rfl ?_ | refine r_thn ?_ | refine r_blk ?_ | refine e_rr ?_ | refine r_rr ?_ | refine e_cr ?_ | refine r_cr ?_ | refine .seq ?_ | refine reg ?_ | refine .block ?_ | refine .skip ?_ | refine .ret ?_ | refine .exit ?_ | refine cndT rfl ?_ | refine cndF rfl ?_ | refine c_dec rfl (fun hc => ?_) (fun hc => ?_) | refine c_ndec rfl (fun hc => ?_) (fun hc => ?_) | refine cnd rfl (fun hc => ?_) (fun hc => ?_) | refine gd rfl rfl rfl (fun hg => ?_) (fun hg => ?_) | refine gn rfl rfl rfl (fun hg => ?_) (fun hg => ?_)
  · have hk' : k < b.length := by omega
    have hfit := hk _ (List.getElem_mem hk')
    have hcl := entries_ok b[k].entries hfit.2.1 (fun e he => (hfit.2.2 e he).2)
    have hat : (b.map rowN)[0 + ((k : Nat) : Int).toNat]? = some (rowN b[k]) := by simp [hk']
    have hset : (b.map rowN).set (0 + ((k : Nat) : Int).toNat) (putAt (rowN b[k]) 3 [.sl 3 (b[k].entries.map rowE)]) = b.map rowN := set_same hat
    generalize b[k] = e at *
    repeat' first | refine wr (by omega) ?_ | refine ln ?_ | refine stp lay_ok rfl ?_ | refine fin ?_ | refine n_thn ?_ | refine n_blk ?_ | refine e_thn ?_ | refine e_hit ?_ | refine e_miss rfl ?_ | refine r_thn ?_ | refine r_blk ?_ | refine e_rr ?_ | refine r_rr ?_ | refine e_cr ?_ | refine r_cr ?_ | refine .seq ?_ | refine reg ?_ | refine .block ?_ | refine .skip ?_ | refine .ret ?_ | refine .exit ?_ | refine cndT rfl ?_ | refine cndF rfl ?_ | refine c_dec rfl (fun hc => ?_) (fun hc => ?_) | refine c_ndec rfl (fun hc => ?_) (fun hc => ?_) | refine cnd rfl (fun hc => ?_) (fun hc => ?_) | ((first | refine o_none rfl ?_ | refine o_none_ ?_ | refine o_yes rfl rfl rfl ?_ | refine o_yes_ rfl rfl ?_); first | refine st_indexL lay_ok rfl rfl rfl rfl (by omega) (by omega) ?_ | refine st_loadE (rowN e) lay_ok rfl rfl rfl hat rfl rfl rfl ?_ | refine st_pure (hcl) b39 rfl rfl rfl rfl ?_) | refine o_none_ (st_storeE lay_ok rfl rfl rfl hat rfl rfl rfl rfl ?_) | refine gd rfl rfl rfl (fun hg => ?_) (fun hg => ?_) | refine gn rfl rfl rfl (fun hg => ?_) (fun hg => ?_)
    refine n_rr (k + 1) ?_ (.of [] (by (repeat' first | exact trivial | refine And.intro ?_ ?_ | rfl | exact congrArg (fun r => some (AO.arr 4 r)) hset); first | done | fail) (by (repeat' first | exact trivial | refine And.intro ?_ ?_ | rfl | exact congrArg (fun r => some (AO.arr 4 r)) hset); first | done | fail) rfl) ?_
    · omega
    · exact hk'
  · refine f_end (n0 := 0) (t'' := [(2, .st (.sl 4 (b.map rowN)))]) (h'' := []) (Wk.then (Wk.frz 0 [2] rfl rfl rfl (by (repeat' first | exact trivial | refine And.intro ?_ ?_ | rfl); first | done | fail) (by (repeat' first | exact trivial | refine And.intro ?_ ?_ | rfl); first | done | fail) rfl rfl) (WkR.of [] (by (repeat' first | exact trivial | refine And.intro ?_ ?_ | rfl); first | done | fail) (by (repeat' first | exact trivial | refine And.intro ?_ ?_ | rfl); first | done | fail) rfl)) rfl rfl ⟨?_, rfl⟩
    rfl
theorem idxN_ok (f : Nat) (bf : HasBody prog f) (cs : List SV) (p : NV → Bool) (l : List NV) (hl : l.length ≤ 4000000000) (hf : ∀ e ∈ l, ACalls prog f 0 [.st (.agg (rowN e)), .st (.sptr cs)] [] fun r h => r = B (p e) ∧ h = []) :
    ACalls prog 62 0 [.st (.sl 4 (l.map rowN)), .fn (.func f) [] [.st (.sptr cs)]] [] fun r h => r = I (fidx p l) ∧ h = [] := by
  refine fnC lay_ok func62 rfl rfl rfl rfl rfl ?_
  repeat' first | refine wr (by omega) ?_ | refine ln ?_ | refine stp lay_ok rfl ?_ | refine fin ?_ | refine n_thn ?_ | refine n_blk ?_ | refine e_thn ?_ | refine e_hit ?_ | refine e_miss rfl ?_ | refine r_thn ?_ | refine r_blk ?_ | refine e_rr ?_ | refine r_rr ?_ | refine e_cr ?_ | refine r_cr ?_ | refine .seq ?_ | refine reg ?_ | refine .block ?_ | refine .skip ?_ | refine .ret ?_ | refine .exit ?_ | refine cndT rfl ?_ | refine cndF rfl ?_ | refine c_dec rfl (fun hc => ?_) (fun hc => ?_) | refine c_ndec rfl (fun hc => ?_) (fun hc => ?_) | refine cnd rfl (fun hc => ?_) (fun hc => ?_) | refine gd rfl rfl rfl (fun hg => ?_) (fun hg => ?_) | refine gn rfl rfl rfl (fun hg => ?_) (fun hg => ?_)
  refine lpR (fun k => k ≤ l.length ∧ ∀ j (h : j < k), ∀ h2 : j < l.length, p l[j] = false) (fun k => l.length - k) (fun k => [(8, I k)]) (fun k => []) (0) [0, 1, 7] [] [] rfl rfl rfl (.of [] (by (repeat' first | exact trivial | refine And.intro ?_ ?_ | rfl); first | done | fail) (by (repeat' first | exact trivial | refine And.intro ?_ ?_ | rfl); first | done | fail) rfl) ?_ ?_
  · exact ⟨Nat.zero_le _, fun j h => by omega⟩
  rintro k ⟨hk, hall⟩
  refine nrm rfl rfl ?_
  repeat' first | refine wr (by omega) ?_ | refine ln ?_ | refine stp lay_ok rfl ?_ | refine fin ?_ | refine n_thn ?_ | refine n_blk ?_ | refine e_thn ?_ | refine e_hit ?_ | refine e_miss rfl ?_ | refine r_thn ?_ | refine r_blk ?_ | refine e_rr ?_ | refine r_rr ?_ | refine e_cr ?_ | refine r_cr ?_ | refine .seq ?_ | refine reg ?_ | refine .block ?_ | refine .skip ?_ | refine .ret ?_ | refine .exit ?_ | refine cndT rfl ?_ | refine cndF rfl ?_ | refine c_dec rfl (fun hc => ?_) (fun hc => ?_) | refine c_ndec rfl (fun hc => ?_) (fun hc => ?_) | refine cnd rfl (fun hc => ?_) (fun hc => ?_) | refine gd rfl rfl rfl (fun hg => ?_) (fun hg => ?_) | refine gn rfl rfl rfl (fun hg => ?_) (fun hg => ?_)
  · have hk' : k < l.length := by omega
    have hat : (l.map rowN)[((k : Nat) : Int).toNat]? = some (rowN l[k]) := by simp [hk']
    have h1 := hf l[k] (List.getElem_mem hk')
    cases hp : p l[k] with
    | true =>
      rw [hp] at h1
      repeat' first | refine wr (by omega) ?_ | refine ln ?_ | refine stp lay_ok rfl ?_ | refine fin ?_ | refine n_thn ?_ | refine n_blk ?_ | refine e_thn ?_ | refine e_hit ?_ | refine e_miss rfl ?_ | refine r_thn ?_ | refine r_blk ?_ | refine e_rr ?_ | refine r_rr ?_ | refine e_cr ?_ | refine r_cr ?_ | refine .seq ?_ | refine reg ?_ | refine .block ?_ | refine .skip ?_ | refine .ret ?_ | refine .exit ?_ | refine cndT rfl ?_ | refine cndF rfl ?_ | refine c_dec rfl (fun hc => ?_) (fun hc => ?_) | refine c_ndec rfl (fun hc => ?_) (fun hc => ?_) | refine cnd rfl (fun hc => ?_) (fun hc => ?_) | ((first | refine o_none rfl ?_ | refine o_none_ ?_ | refine o_yes rfl rfl rfl ?_ | refine o_yes_ rfl rfl ?_); first | refine st_index (rowN l[k]) lay_ok rfl rfl rfl rfl (by omega) hat ?_ | refine st_pure (h1) bf rfl rfl rfl rfl ?_) | refine gd rfl rfl rfl (fun hg => ?_) (fun hg => ?_) | refine gn rfl rfl rfl (fun hg => ?_) (fun hg => ?_)
      refine f_r [] rfl trivial rfl ⟨?_, rfl⟩
      rw [fidx_step _ l k hk' (fun j h => hall j h _) hp]; rfl
    | false =>
      rw [hp] at h1
      repeat' first | refine wr (by omega) ?_ | refine ln ?_ | refine stp lay_ok rfl ?_ | refine fin ?_ | refine n_thn ?_ | refine n_blk ?_ | refine e_thn ?_ | refine e_hit ?_ | refine e_miss rfl ?_ | refine r_thn ?_ | refine r_blk ?_ | refine e_rr ?_ | refine r_rr ?_ | refine e_cr ?_ | refine r_cr ?_ | refine .seq ?_ | refine reg ?_ | refine .block ?_ | refine .skip ?_ | refine .ret ?_ | refine .exit ?_ | refine cndT rfl ?_ | refine cndF rfl ?_ | refine c_dec rfl (fun hc => ?_) (fun hc => ?_) | refine c_ndec rfl (fun hc => ?_) (fun hc => ?_) | refine cnd rfl (fun hc => ?_) (fun hc => ?_) | ((first | refine o_none rfl ?_ | refine o_none_ ?_ | refine o_yes rfl rfl rfl ?_ | refine o_yes_ rfl rfl ?_); first | refine st_index (rowN l[k]) lay_ok rfl rfl rfl rfl (by omega) hat ?_ | refine st_pure (h1) bf rfl rfl rfl rfl ?_) | refine gd rfl rfl rfl (fun hg => ?_) (fun hg => ?_) | refine gn rfl rfl rfl (fun hg => ?_) (fun hg => ?_)
      refine n_rr (k + 1) ?_ (.of [] (by (repeat' first | exact trivial | refine And.intro ?_ ?_ | rfl); first | done | fail) (by (repeat' first | exact trivial | refine And.intro ?_ ?_ | rfl); first | done | fail) rfl) ?_
      · omega
      · refine ⟨hk', fun j h h2 => ?_⟩
        by_cases hj : j = k
        · subst hj; exact hp
        · exact hall j (by omega) h2
  · refine f_r [] rfl trivial rfl ⟨?_, rfl⟩
    rw [fidx_none _ l (fun j h => hall j (by omega) h)]; rfl
theorem conN_ok (f : Nat) (bf : HasBody prog f) (cs : List SV) (p : NV → Bool) (l : List NV) (hl : l.length ≤ 4000000000) (hf : ∀ e ∈ l, ACalls prog f 0 [.st (.agg (rowN e)), .st (.sptr cs)] [] fun r h => r = B (p e) ∧ h = []) :
    ACalls prog 49 0 [.st (.sl 4 (l.map rowN)), .fn (.func f) [] [.st (.sptr cs)]] [] fun r h => r = B (l.any p) ∧ h = [] := by
  refine fnC lay_ok func49 rfl rfl rfl rfl rfl ?_
  have h1 := idxN_ok f bf cs p l hl hf
  repeat' first | refine wr (by omega) ?_ | refine ln ?_ | refine stp lay_ok rfl ?_ | refine fin ?_ | refine n_thn ?_ | refine n_blk ?_ | refine e_thn ?_ | refine e_hit ?_ | refine e_miss rfl ?_ | refine r_thn ?_ | refine r_blk ?_ | refine e_rr ?_ | refine r_rr ?_ | refine e_cr ?_ | refine r_cr ?_ | refine .seq ?_ | refine reg ?_ | refine .block ?_ | refine .skip ?_ | refine .ret ?_ | refine .exit ?_ | refine cndT rfl ?_ | refine cndF rfl ?_ | refine c_dec rfl (fun hc => ?_) (fun hc => ?_) | refine c_ndec rfl (fun hc => ?_) (fun hc => ?_) | refine cnd rfl (fun hc => ?_) (fun hc => ?_) | ((first | refine o_none rfl ?_ | refine o_none_ ?_ | refine o_yes rfl rfl rfl ?_ | refine o_yes_ rfl rfl ?_); first | refine st_pure (h1) b62 rfl rfl rfl rfl ?_) | refine gd rfl rfl rfl (fun hg => ?_) (fun hg => ?_) | refine gn rfl rfl rfl (fun hg => ?_) (fun hg => ?_)
  refine f_r [] rfl trivial rfl ⟨?_, rfl⟩
  rw [← fidx_any]; rfl
theorem idxE0_ok (f : Nat) (bf : HasBody prog f) (p : EV → Bool) (l : List EV) (hl : l.length ≤ 4000000000) (hf : ∀ e ∈ l, ACalls prog f 0 [.st (.agg (rowE e))] [] fun r h => r = B (p e) ∧ h = []) :
    ACalls prog 64 0 [.st (.sl 3 (l.map rowE)), .st (.fn (.func f) [] [])] [] fun r h => r = I (fidx p l) ∧ h = [] := by
  refine fnC lay_ok func64 rfl rfl rfl rfl rfl ?_
  repeat' first | refine wr (by omega) ?_ | refine ln ?_ | refine stp lay_ok rfl ?_ | refine fin ?_ | refine n_thn ?_ | refine n_blk ?_ | refine e_thn ?_ | refine e_hit ?_ | refine e_miss rfl ?_ | refine r_thn ?_ | refine r_blk ?_ | refine e_rr ?_ | refine r_rr ?_ | refine e_cr ?_ | refine r_cr ?_ | refine .seq ?_ | refine reg ?_ | refine .block ?_ | refine .skip ?_ | refine .ret ?_ | refine .exit ?_ | refine cndT rfl ?_ | refine cndF rfl ?_ | refine c_dec rfl (fun hc => ?_) (fun hc => ?_) | refine c_ndec rfl (fun hc => ?_) (fun hc => ?_) | refine cnd rfl (fun hc => ?_) (fun hc => ?_) | refine gd rfl rfl rfl (fun hg => ?_) (fun hg => ?_) | refine gn rfl rfl rfl (fun hg => ?_) (fun hg => ?_)
  refine lpR (fun k => k ≤ l.length ∧ ∀ j (h : j < k), ∀ h2 : j < l.length, p l[j] = false) (fun k => l.length - k) (fun k => [(8, I k)]) (fun k => []) (0) [0, 1, 7] [] [] rfl rfl rfl (.of [] (by (repeat' first | exact trivial | refine And.intro ?_ ?_ | rfl); first | done | fail) (by (repeat' first | exact trivial | refine And.intro ?_ ?_ | rfl); first | done | fail) rfl) ?_ ?_
  · exact ⟨Nat.zero_le _, fun j h => by omega⟩
  rintro k ⟨hk, hall⟩
  refine nrm rfl rfl ?_
  repeat' first | refine wr (by omega) ?_ | refine ln ?_ | refine stp lay_ok rfl ?_ | refine fin ?_ | refine n_thn ?_ | refine n_blk ?_ | refine e_thn ?_ | refine e_hit ?_ | refine e_miss rfl ?_ | refine r_thn ?_ | refine r_blk ?_ | refine e_rr ?_ | refine r_rr ?_ | refine e_cr ?_ | refine r_cr ?_ | refine .seq ?_ | refine reg ?_ | refine .block ?_ | refine .skip ?_ | refine .ret ?_ | refine .exit ?_ | refine cndT rfl ?_ | refine cndF rfl ?_ | refine c_dec rfl (fun hc => ?_) (fun hc => ?_) | refine c_ndec rfl (fun hc => ?_) (fun hc => ?_) | refine cnd rfl (fun hc => ?_) (fun hc => ?_) | refine gd rfl rfl rfl (fun hg => ?_) (fun hg => ?_) | refine gn rfl rfl rfl (fun hg => ?_) (fun hg => ?_)
  · have hk' : k < l.length := by omega
    have hat : (l.map rowE)[((k : Nat) : Int).toNat]? = some (rowE l[k]) := by simp [hk']
    have h1 := hf l[k] (List.getElem_mem hk')
    cases hp : p l[k] with
    | true =>
      rw [hp] at h1
      repeat' first | refine wr (by omega) ?_ | refine ln ?_ | refine stp lay_ok rfl ?_ | refine fin ?_ | refine n_thn ?_ | refine n_blk ?_ | refine e_thn ?_ | refine e_hit ?_ | refine e_miss rfl ?_ | refine r_thn ?_ | refine r_blk ?_ | refine e_rr ?_ | refine r_rr ?_ | refine e_cr ?_ | refine r_cr ?_ | refine .seq ?_ | refine reg ?_ | refine .block ?_ | refine .skip ?_ | refine .ret ?_ | refine .exit ?_ | refine cndT rfl ?_ | refine cndF rfl ?_ | refine c_dec rfl (fun hc => ?_) (fun hc => ?_) | refine c_ndec rfl (fun hc => ?_) (fun hc => ?_) | refine cnd rfl (fun hc => ?_) (fun hc => ?_) | ((first | refine o_none rfl ?_ | refine o_none_ ?_ | refine o_yes rfl rfl rfl ?_ | refine o_yes_ rfl rfl ?_); first | refine st_index (rowE l[k]) lay_ok rfl rfl rfl rfl (by omega) hat ?_ | refine st_pure (h1) bf rfl rfl rfl rfl ?_) | refine gd rfl rfl rfl (fun hg => ?_) (fun hg => ?_) | refine gn rfl rfl rfl (fun hg => ?_) (fun hg => ?_)
      refine f_r [] rfl trivial rfl ⟨?_, rfl⟩
      rw [fidx_step _ l k hk' (fun j h => hall j h _) hp]; rfl
    | false =>
      rw [hp] at h1
      repeat' first | refine wr (by omega) ?_ | refine ln ?_ | refine stp lay_ok rfl ?_ | refine fin ?_ | refine n_thn ?_ | refine n_blk ?_ | refine e_thn ?_ | refine e_hit ?_ | refine e_miss rfl ?_ | refine r_thn ?_ | refine r_blk ?_ | refine e_rr ?_ | refine r_rr ?_ | refine e_cr ?_ | refine r_cr ?_ | refine .seq ?_ | refine reg ?_ | refine .block ?_ | refine .skip ?_ | refine .ret ?_ | refine .exit ?_ | refine cndT rfl ?_ | refine cndF rfl ?_ | refine c_dec rfl (fun hc => ?_) (fun hc => ?_) | refine c_ndec rfl (fun hc => ?_) (fun hc => ?_) | refine cnd rfl (fun hc => ?_) (fun hc => ?_) | ((first | refine o_none rfl ?_ | refine o_none_ ?_ | refine o_yes rfl rfl rfl ?_ | refine o_yes_ rfl rfl ?_); first | refine st_index (rowE l[k]) lay_ok rfl rfl rfl rfl (by omega) hat ?_ | refine st_pure (h1) bf rfl rfl rfl rfl ?_) | refine gd rfl rfl rfl (fun hg => ?_) (fun hg => ?_) | refine gn rfl rfl rfl (fun hg => ?_) (fun hg => ?_)
      refine n_rr (k + 1) ?_ (.of [] (by (repeat' first | exact trivial | refine And.intro ?_ ?_ | rfl); first | done | fail) (by (repeat' first | exact trivial | refine And.intro ?_ ?_ | rfl); first | done | fail) rfl) ?_
      · omega
      · refine ⟨hk', fun j h h2 => ?_⟩
        by_cases hj : j = k
        · subst hj; exact hp
        · exact hall j (by omega) h2
  · refine f_r [] rfl trivial rfl ⟨?_, rfl⟩
    rw [fidx_none _ l (fun j h => hall j (by omega) h)]; rfl
theorem conE0_ok (f : Nat) (bf : HasBody prog f) (p : EV → Bool) (l : List EV) (hl : l.length ≤ 4000000000) (hf : ∀ e ∈ l, ACalls prog f 0 [.st (.agg (rowE e))] [] fun r h => r = B (p e) ∧ h = []) :
    ACalls prog 51 0 [.st (.sl 3 (l.map rowE)), .st (.fn (.func f) [] [])] [] fun r h => r = B (l.any p) ∧ h = [] := by
  refine fnC lay_ok func51 rfl rfl rfl rfl rfl ?_
  have h1 := idxE0_ok f bf p l hl hf
  repeat' first | refine wr (by omega) ?_ | refine ln ?_ | refine stp lay_ok rfl ?_ | refine fin ?_ | refine n_thn ?_ | refine n_blk ?_ | refine e_thn ?_ | refine e_hit ?_ | refine e_miss rfl ?_ | refine r_thn ?_ | refine r_blk ?_ | refine e_rr ?_ | refine r_rr ?_ | refine e_cr ?_ | refine r_cr ?_ | refine .seq ?_ | refine reg ?_ | refine .block ?_ | refine .skip ?_ | refine .ret ?_ | refine .exit ?_ | refine cndT rfl ?_ | refine cndF rfl ?_ | refine c_dec rfl (fun hc => ?_) (fun hc => ?_) | refine c_ndec rfl (fun hc => ?_) (fun hc => ?_) | refine cnd rfl (fun hc => ?_) (fun hc => ?_) | ((first | refine o_none rfl ?_ | refine o_none_ ?_ | refine o_yes rfl rfl rfl ?_ | refine o_yes_ rfl rfl ?_); first | refine st_pure (h1) b64 rfl rfl rfl rfl ?_) | refine gd rfl rfl rfl (fun hg => ?_) (fun hg => ?_) | refine gn rfl rfl rfl (fun hg => ?_) (fun hg => ?_)
  refine f_r [] rfl trivial rfl ⟨?_, rfl⟩
  rw [← fidx_any]; rfl
theorem may1_ok (s x : NV) : ACalls prog 45 0 [.st (.agg (rowN x)), .st (.sptr (rowN s))] [] fun r h => r = B (decide (x.client = s.client) && decide (x.name = s.name)) ∧ h = [] := by
  obtain ⟨c, n, d, es⟩ := s
  obtain ⟨c', n', d', es'⟩ := x
  refine fnC lay_ok func45 rfl rfl rfl rfl rfl ?_
  repeat' first | refine wr (by omega) ?_ | refine ln ?_ | refine stp lay_ok rfl ?_ | refine fin ?_ | refine n_thn ?_ | refine n_blk ?_ | refine e_thn ?_ | refine e_hit ?_ | refine e_miss rfl ?_ | refine r_thn ?_ | refine r_blk ?_ | refine e_rr ?_ | refine r_rr ?_ | refine e_cr ?_ | refine r_cr ?_ | refine .seq ?_ | refine reg ?_ | refine .block ?_ | refine .skip ?_ | refine .ret ?_ | refine .exit ?_ | refine cndT rfl ?_ | refine cndF rfl ?_ | refine c_dec rfl (fun hc => ?_) (fun hc => ?_) | refine c_ndec rfl (fun hc => ?_) (fun hc => ?_) | refine cnd rfl (fun hc => ?_) (fun hc => ?_) | refine gd rfl rfl rfl (fun hg => ?_) (fun hg => ?_) | refine gn rfl rfl rfl (fun hg => ?_) (fun hg => ?_)
  all_goals
    refine f_r [] rfl trivial rfl ⟨?_, rfl⟩
    simp_all [retOf, B]
theorem may2_ok (e : EV) : ACalls prog 46 0 [.st (.agg (rowE e))] [] fun r h => r = B (decide (e.keys.length > 16)) ∧ h = [] := by
  obtain ⟨c, n, d⟩ := e
  refine fnC lay_ok func46 rfl rfl rfl rfl rfl ?_
  repeat' first | refine wr (by omega) ?_ | refine ln ?_ | refine stp lay_ok rfl ?_ | refine fin ?_ | refine n_thn ?_ | refine n_blk ?_ | refine e_thn ?_ | refine e_hit ?_ | refine e_miss rfl ?_ | refine r_thn ?_ | refine r_blk ?_ | refine e_rr ?_ | refine r_rr ?_ | refine e_cr ?_ | refine r_cr ?_ | refine .seq ?_ | refine reg ?_ | refine .block ?_ | refine .skip ?_ | refine .ret ?_ | refine .exit ?_ | refine cndT rfl ?_ | refine cndF rfl ?_ | refine c_dec rfl (fun hc => ?_) (fun hc => ?_) | refine c_ndec rfl (fun hc => ?_) (fun hc => ?_) | refine cnd rfl (fun hc => ?_) (fun hc => ?_) | refine gd rfl rfl rfl (fun hg => ?_) (fun hg => ?_) | refine gn rfl rfl rfl (fun hg => ?_) (fun hg => ?_)
  refine f_r [] rfl trivial rfl ⟨?_, rfl⟩
  simp only [retOf, B, AV.st.injEq, SV.bool.injEq]
  rw [Bool.eq_iff_iff]; simp; omega
end Go.Proofs.YtgjoloaajocafaaDoorFn
namespace Go.Proofs.YtgjoloaajocafaaDoorFn
open Go.Proofs.YtgjoloaajocafaaDoorAl Go.Proofs.Tryd
attribute [local irreducible] IntKind.wrap CodeOk OpsL OpG ACalls thn inBlk rndR cutR WkR Wk fnR DW ExtOk partsOf
def treeOk (l : List EV) : Bool := decide (l.length ≤ 32) && (badFrom l l.length 0).isNone
theorem treeC_cases (l : List EV) : (treeOk l = true ∧ treeC l = nilE) ∨ (treeOk l = false ∧ (treeC l = errE 7 ∨ ∃ i n, treeC l = spotE i n)) := by
  unfold treeOk treeC
  by_cases h : 32 < l.length
  · right
    rw [if_pos h]
    exact ⟨by simp; omega, .inl rfl⟩
  · rw [if_neg h]
    cases badFrom l l.length 0 with
    | none => left; exact ⟨by simp; omega, rfl⟩
    | some x => right; exact ⟨by simp, .inr ⟨_, _, rfl⟩⟩
def many (c : Int) (l : List NV) : Nat := l.countP fun x => decide (x.client = c)
theorem many_take (c : Int) (l : List NV) (k : Nat) (h : k < l.length) : many c (l.take (k + 1)) = many c (l.take k) + if l[k].client = c then 1 else 0 := by
  rw [many, List.take_succ_eq_append_getElem h, List.countP_append, many]
  simp [List.countP_cons]
theorem many_le (c : Int) (l : List NV) : many c l ≤ l.length := List.countP_le_length
def nameOk (s : ByteArray) : Bool := pathOk s && !decide (slAt s ≥ 0)
/-- Whether a snapshot may stand behind others. -/
def mayN (ahead : List NV) (s : NV) : Bool := decide (0 ≤ s.client ∧ s.client < 8) && decide (many s.client ahead < 8) && nameOk s.name && !(ahead.any fun x => decide (x.client = s.client) && decide (x.name = s.name)) && treeOk s.entries && !(s.entries.any fun e => decide (e.keys.length > 16))
set_option maxHeartbeats 4000000 in
theorem may_ok' (ahead : List NV) (s : NV) (hl : ahead.length ≤ 4000000000) (hs : s.fit) : ACalls prog 29 0 [.st (.sl 4 (ahead.map rowN)), .st (.agg (rowN s))] [] fun r h => r = B (mayN ahead s) ∧ h = [] := by
  have hcs := conN_ok 45 b45 (rowN s) (fun x => decide (x.client = s.client) && decide (x.name = s.name)) ahead hl (fun x _ => may1_ok s x)
  have hce := conE0_ok 46 b46 (fun e => decide (e.keys.length > 16)) s.entries hs.2.1 (fun e _ => may2_ok e)
  have htc := treeCheck_ok s.entries hs.2.1 (fun e he => (hs.2.2 e he).1) (fun e he => (hs.2.2 e he).2)
  have hpc := pathCheck_ok s.name hs.1
  have hct := contains_ok s.name
  have hm : (List.map rowN ahead).length = ahead.length := List.length_map _
  have hmy : mayN ahead s = (decide (0 ≤ s.client ∧ s.client < 8) && decide (many s.client ahead < 8) && nameOk s.name && !(ahead.any fun x => decide (x.client = s.client) && decide (x.name = s.name)) && treeOk s.entries && !(s.entries.any fun e => decide (e.keys.length > 16))) := rfl
  have hno : nameOk s.name = (pathOk s.name && !decide (slAt s.name ≥ 0)) := rfl
  generalize mayN ahead s = M at *
  generalize hA : (ahead.any fun x => decide (x.client = s.client) && decide (x.name = s.name)) = A at *
  generalize hE : (s.entries.any fun e => decide (e.keys.length > 16)) = E at *
  generalize decide (slAt s.name ≥ 0) = Z at *
  obtain ⟨c, n, d, es⟩ := s
  simp only at *
  refine fnC lay_ok func29 rfl rfl rfl rfl rfl ?_
  repeat' first | refine o_frb 0 [.int .i64 c, .str n, .bool d, .sl 3 (es.map rowE)] rfl rfl rfl (by (repeat' first | exact trivial | refine And.intro ?_ ?_ | rfl); first | done | fail) (by (repeat' first | exact trivial | refine And.intro ?_ ?_ | rfl); first | done | fail) rfl rfl ?_ | refine wr (by omega) ?_ | refine ln ?_ | refine stp lay_ok rfl ?_ | refine fin ?_ | refine n_thn ?_ | refine n_blk ?_ | refine e_thn ?_ | refine e_hit ?_ | refine e_miss rfl ?_ | refine r_thn ?_ | refine r_blk ?_ | refine e_rr ?_ | refine r_rr ?_ | refine e_cr ?_ | refine r_cr ?_ | refine .seq ?_ | refine reg ?_ | refine .block ?_ | refine .skip ?_ | refine .ret ?_ | refine .exit ?_ | refine cndT rfl ?_ | refine cndF rfl ?_ | refine c_dec rfl (fun hc => ?_) (fun hc => ?_) | refine c_ndec rfl (fun hc => ?_) (fun hc => ?_) | refine cnd rfl (fun hc => ?_) (fun hc => ?_) | refine gd rfl rfl rfl (fun hg => ?_) (fun hg => ?_) | refine gn rfl rfl rfl (fun hg => ?_) (fun hg => ?_)
  refine lpR (fun k => k ≤ ahead.length) (fun k => ahead.length - k) (fun k => [(13, I k), (5, I (many c (ahead.take k)))]) (fun k => []) (0) [0, 3, 11, 12] [] [] rfl rfl rfl (.of [] (by (repeat' first | exact trivial | refine And.intro ?_ ?_ | rfl); first | done | fail) (by (repeat' first | exact trivial | refine And.intro ?_ ?_ | rfl); first | done | fail) rfl) ?_ ?_
  · exact Nat.zero_le _
  rintro k hk
  refine nrm rfl rfl ?_
  repeat' first | refine wr (by omega) ?_ | refine ln ?_ | refine stp lay_ok rfl ?_ | refine fin ?_ | refine n_thn ?_ | refine n_blk ?_ | refine e_thn ?_ | refine e_hit ?_ | refine e_miss rfl ?_ | refine r_thn ?_ | refine r_blk ?_ | refine e_rr ?_ | refine r_rr ?_ | refine e_cr ?_ | refine r_cr ?_ | refine .seq ?_ | refine reg ?_ | refine .block ?_ | refine .skip ?_ | refine .ret ?_ | refine .exit ?_ | refine cndT rfl ?_ | refine cndF rfl ?_ | refine c_dec rfl (fun hc => ?_) (fun hc => ?_) | refine c_ndec rfl (fun hc => ?_) (fun hc => ?_) | refine cnd rfl (fun hc => ?_) (fun hc => ?_) | refine gd rfl rfl rfl (fun hg => ?_) (fun hg => ?_) | refine gn rfl rfl rfl (fun hg => ?_) (fun hg => ?_)
  · have hk' : k < ahead.length := by omega
    have hat : (ahead.map rowN)[((k : Nat) : Int).toNat]? = some (rowN ahead[k]) := by simp [hk']
    have hmt := many_take c ahead k hk'
    have hml := many_le c (ahead.take k)
    rw [List.length_take] at hml
    generalize ahead[k] = x at *
    obtain ⟨c', n', d', es'⟩ := x
    simp only at *
    repeat' first | refine wr (by omega) ?_ | refine ln ?_ | refine stp lay_ok rfl ?_ | refine fin ?_ | refine n_thn ?_ | refine n_blk ?_ | refine e_thn ?_ | refine e_hit ?_ | refine e_miss rfl ?_ | refine r_thn ?_ | refine r_blk ?_ | refine e_rr ?_ | refine r_rr ?_ | refine e_cr ?_ | refine r_cr ?_ | refine .seq ?_ | refine reg ?_ | refine .block ?_ | refine .skip ?_ | refine .ret ?_ | refine .exit ?_ | refine cndT rfl ?_ | refine cndF rfl ?_ | refine c_dec rfl (fun hc => ?_) (fun hc => ?_) | refine c_ndec rfl (fun hc => ?_) (fun hc => ?_) | refine cnd rfl (fun hc => ?_) (fun hc => ?_) | ((first | refine o_none rfl ?_ | refine o_none_ ?_ | refine o_yes rfl rfl rfl ?_ | refine o_yes_ rfl rfl ?_); first | refine st_index (rowN ⟨c', n', d', es'⟩) lay_ok rfl rfl rfl rfl (by omega) hat ?_) | refine gd rfl rfl rfl (fun hg => ?_) (fun hg => ?_) | refine gn rfl rfl rfl (fun hg => ?_) (fun hg => ?_)
    · refine n_rr (k + 1) ?_ (.of [] (by (repeat' first | exact trivial | refine And.intro ?_ ?_ | rfl | rw [hmt, if_pos (by assumption)]; push_cast; rfl); first | done | fail) (by (repeat' first | exact trivial | refine And.intro ?_ ?_ | rfl | rw [hmt, if_pos (by assumption)]; push_cast; rfl); first | done | fail) rfl) ?_
      · omega
      · exact hk'
    · refine n_rr (k + 1) ?_ (.of [] (by (repeat' first | exact trivial | refine And.intro ?_ ?_ | rfl | rw [hmt, if_neg (by assumption)]; rfl); first | done | fail) (by (repeat' first | exact trivial | refine And.intro ?_ ?_ | rfl | rw [hmt, if_neg (by assumption)]; rfl); first | done | fail) rfl) ?_
      · omega
      · exact hk'
  · have hke : k = ahead.length := by omega
    subst hke
    rw [List.take_length]
    rcases treeC_cases es with ⟨h1, h2⟩ | ⟨h1, h2 | ⟨i0, n0, h2⟩⟩ <;> rw [h1] at hmy <;> rw [h2] at htc
    all_goals
      cases hpo : pathOk n <;> rw [hpo] at hpc hno <;> simp only [if_true, if_false, Bool.false_eq_true] at hpc
      all_goals
        repeat' first | refine wr (by omega) ?_ | refine ln ?_ | refine stp lay_ok rfl ?_ | refine fin ?_ | refine n_thn ?_ | refine n_blk ?_ | refine e_thn ?_ | refine e_hit ?_ | refine e_miss rfl ?_ | refine r_thn ?_ | refine r_blk ?_ | refine e_rr ?_ | refine r_rr ?_ | refine e_cr ?_ | refine r_cr ?_ | refine .seq ?_ | refine reg ?_ | refine .block ?_ | refine .skip ?_ | refine .ret ?_ | refine .exit ?_ | refine cndT rfl ?_ | refine cndF rfl ?_ | refine c_dec rfl (fun hc => ?_) (fun hc => ?_) | refine c_ndec rfl (fun hc => ?_) (fun hc => ?_) | refine cnd rfl (fun hc => ?_) (fun hc => ?_) | ((first | refine o_none rfl ?_ | refine o_none_ ?_ | refine o_yes rfl rfl rfl ?_ | refine o_yes_ rfl rfl ?_); first | refine st_pure (hpc) b47 rfl rfl rfl rfl ?_ | refine st_pure (hct) b48 rfl rfl rfl rfl ?_ | refine st_pure (hcs) b49 rfl rfl rfl rfl ?_ | refine st_pure (htc) b50 rfl rfl rfl rfl ?_ | refine st_pure (hce) b51 rfl rfl rfl rfl ?_) | refine gb (b := A) rfl rfl rfl (fun hg => ?_) (fun hg => ?_) | refine gb (b := E) rfl rfl rfl (fun hg => ?_) (fun hg => ?_) | refine gb (b := Z) rfl rfl rfl (fun hg => ?_) (fun hg => ?_) | refine gb (b := (!A)) rfl rfl rfl (fun hg => ?_) (fun hg => ?_) | refine gb (b := (!E)) rfl rfl rfl (fun hg => ?_) (fun hg => ?_) | refine gb (b := (!Z)) rfl rfl rfl (fun hg => ?_) (fun hg => ?_) | refine gd rfl rfl rfl (fun hg => ?_) (fun hg => ?_) | refine gn rfl rfl rfl (fun hg => ?_) (fun hg => ?_)
        all_goals
          refine f_r [] rfl trivial rfl ⟨?_, rfl⟩
          rw [hmy, hno]
          clear hcs hce htc hct hpc hmy hno hA hE hs
          first
            | (simp_all [retOf, B]; done)
            | (simp_all [retOf, B]; omega)
end Go.Proofs.YtgjoloaajocafaaDoorFn
namespace Go.Proofs.YtgjoloaajocafaaDoorFn
open Go.Proofs.YtgjoloaajocafaaDoorAl Go.Proofs.Tryd
attribute [local irreducible] IntKind.wrap CodeOk OpsL OpG ACalls thn inBlk rndR cutR WkR Wk fnR DW ExtOk partsOf
theorem b13 : HasBody prog 13 := ⟨f13, func13, Option.some_ne_none _, by decide⟩
theorem b10 : HasBody prog 10 := ⟨f10, func10, Option.some_ne_none _, by decide⟩
theorem b19 : HasBody prog 19 := ⟨f19, func19, Option.some_ne_none _, by decide⟩
/-- Whether snapshots may be a catalog's. -/
def fromF : List NV → List NV → Bool
  | _, [] => true
  | ahead, s :: r => mayN ahead s && fromF (ahead ++ [s]) r
abbrev fromB (l : List NV) : Bool := fromF [] l
theorem fromF_step {l : List NV} {k : Nat} (h : k < l.length) : fromF (l.take k) (l.drop k) = (mayN (l.take k) l[k] && fromF (l.take (k + 1)) (l.drop (k + 1))) := by
  rw [List.drop_eq_getElem_cons h, fromF, List.take_succ_eq_append_getElem h]
theorem from_ok (l : List NV) (hl : l.length ≤ 4000000000) (hk : ∀ s ∈ l, s.fit) (hb : fromB l = true) :
    ACalls prog 13 0 [.st (.sl 4 (l.map rowN))] [] fun r h => r = .tuple [.ptr 0 0, nilE] ∧ h = [(0, .cells [.st (.sl 4 (l.map rowN))])] := by
  have hsn := snapshots_ok l hl hk
  have hm : (List.map rowN l).length = l.length := List.length_map _
  refine fnC lay_ok func13 rfl rfl rfl rfl rfl ?_
  repeat' first | refine wr (by omega) ?_ | refine ln ?_ | refine stp lay_ok rfl ?_ | refine fin ?_ | refine n_thn ?_ | refine n_blk ?_ | refine e_thn ?_ | refine e_hit ?_ | refine e_miss rfl ?_ | refine r_thn ?_ | refine r_blk ?_ | refine e_rr ?_ | refine r_rr ?_ | refine e_cr ?_ | refine r_cr ?_ | refine .seq ?_ | refine reg ?_ | refine .block ?_ | refine .skip ?_ | refine .ret ?_ | refine .exit ?_ | refine cndT rfl ?_ | refine cndF rfl ?_ | refine c_dec rfl (fun hc => ?_) (fun hc => ?_) | refine c_ndec rfl (fun hc => ?_) (fun hc => ?_) | refine cnd rfl (fun hc => ?_) (fun hc => ?_) | refine gd rfl rfl rfl (fun hg => ?_) (fun hg => ?_) | refine gn rfl rfl rfl (fun hg => ?_) (fun hg => ?_) | refine dwr (by omega) ?_ | refine dwl ?_ | refine dws lay_ok rfl rfl rfl rfl rfl rfl rfl ?_ | refine dwu lay_ok rfl rfl rfl rfl rfl rfl rfl rfl rfl ?_ | refine dw_end ?_ | refine dw_skip rfl rfl rfl ?_ | refine dwn lay_ok rfl rfl rfl rfl rfl ?_ | refine dw_dec rfl rfl rfl (fun hg => ?_) (fun hg => ?_) | refine dw_ndec rfl rfl rfl (fun hg => ?_) (fun hg => ?_)
  refine lpR (fun k => k ≤ l.length ∧ fromF (l.take k) (l.drop k) = true) (fun k => l.length - k) (fun k => [(8, I k)]) (fun k => []) (0) [0, 6, 7] [] [] rfl rfl rfl (.of [] (by (repeat' first | exact trivial | refine And.intro ?_ ?_ | rfl); first | done | fail) (by (repeat' first | exact trivial | refine And.intro ?_ ?_ | rfl); first | done | fail) rfl) ?_ ?_
  · exact ⟨Nat.zero_le _, hb⟩
  rintro k ⟨hk1, hk2⟩
  refine nrm rfl rfl ?_
  repeat' first | refine wr (by omega) ?_ | refine ln ?_ | refine stp lay_ok rfl ?_ | refine fin ?_ | refine n_thn ?_ | refine n_blk ?_ | refine e_thn ?_ | refine e_hit ?_ | refine e_miss rfl ?_ | refine r_thn ?_ | refine r_blk ?_ | refine e_rr ?_ | refine r_rr ?_ | refine e_cr ?_ | refine r_cr ?_ | refine .seq ?_ | refine reg ?_ | refine .block ?_ | refine .skip ?_ | refine .ret ?_ | refine .exit ?_ | refine cndT rfl ?_ | refine cndF rfl ?_ | refine c_dec rfl (fun hc => ?_) (fun hc => ?_) | refine c_ndec rfl (fun hc => ?_) (fun hc => ?_) | refine cnd rfl (fun hc => ?_) (fun hc => ?_) | refine gd rfl rfl rfl (fun hg => ?_) (fun hg => ?_) | refine gn rfl rfl rfl (fun hg => ?_) (fun hg => ?_) | refine dwr (by omega) ?_ | refine dwl ?_ | refine dws lay_ok rfl rfl rfl rfl rfl rfl rfl ?_ | refine dwu lay_ok rfl rfl rfl rfl rfl rfl rfl rfl rfl ?_ | refine dw_end ?_ | refine dw_skip rfl rfl rfl ?_ | refine dwn lay_ok rfl rfl rfl rfl rfl ?_ | refine dw_dec rfl rfl rfl (fun hg => ?_) (fun hg => ?_) | refine dw_ndec rfl rfl rfl (fun hg => ?_) (fun hg => ?_)
  · have hk' : k < l.length := by omega
    have hat : (l.map rowN)[((k : Nat) : Int).toNat]? = some (rowN l[k]) := by simp [hk']
    rw [fromF_step hk', Bool.and_eq_true] at hk2
    have hmy := may_ok' (l.take k) l[k] (by simp; omega) (hk _ (List.getElem_mem hk'))
    rw [hk2.1, List.map_take] at hmy
    generalize l[k] = s at *
    obtain ⟨c, n, d, es⟩ := s
    repeat' first | refine o_frb 0 [.int .i64 c, .str n, .bool d, .sl 3 (es.map rowE)] rfl rfl rfl (by (repeat' first | exact trivial | refine And.intro ?_ ?_ | rfl); first | done | fail) (by (repeat' first | exact trivial | refine And.intro ?_ ?_ | rfl); first | done | fail) rfl rfl ?_ | refine wr (by omega) ?_ | refine ln ?_ | refine stp lay_ok rfl ?_ | refine fin ?_ | refine n_thn ?_ | refine n_blk ?_ | refine e_thn ?_ | refine e_hit ?_ | refine e_miss rfl ?_ | refine r_thn ?_ | refine r_blk ?_ | refine e_rr ?_ | refine r_rr ?_ | refine e_cr ?_ | refine r_cr ?_ | refine .seq ?_ | refine reg ?_ | refine .block ?_ | refine .skip ?_ | refine .ret ?_ | refine .exit ?_ | refine cndT rfl ?_ | refine cndF rfl ?_ | refine c_dec rfl (fun hc => ?_) (fun hc => ?_) | refine c_ndec rfl (fun hc => ?_) (fun hc => ?_) | refine cnd rfl (fun hc => ?_) (fun hc => ?_) | ((first | refine o_none rfl ?_ | refine o_none_ ?_ | refine o_yes rfl rfl rfl ?_ | refine o_yes_ rfl rfl ?_); first | refine st_index (rowN ⟨c, n, d, es⟩) lay_ok rfl rfl rfl rfl (by omega) hat ?_) | refine gd rfl rfl rfl (fun hg => ?_) (fun hg => ?_) | refine gn rfl rfl rfl (fun hg => ?_) (fun hg => ?_) | refine dwr (by omega) ?_ | refine dwl ?_ | refine dws lay_ok rfl rfl rfl rfl rfl rfl rfl ?_ | refine dwu lay_ok rfl rfl rfl rfl rfl rfl rfl rfl rfl ?_ | refine dw_end ?_ | refine dw_skip rfl rfl rfl ?_ | refine dwn lay_ok rfl rfl rfl rfl rfl ?_ | refine dwb rfl rfl rfl rfl rfl (by (first | refine st_index (rowN ⟨c, n, d, es⟩) lay_ok rfl rfl rfl rfl (by omega) hat ?_); exact fin rfl) rfl rfl ?_ | refine dwg rfl rfl rfl rfl rfl (by (first | refine st_index (rowN ⟨c, n, d, es⟩) lay_ok rfl rfl rfl rfl (by omega) hat ?_); exact fin rfl) rfl rfl rfl rfl rfl ?_ | refine dw_dec rfl rfl rfl (fun hg => ?_) (fun hg => ?_) | refine dw_ndec rfl rfl rfl (fun hg => ?_) (fun hg => ?_)
    refine dreg [(0, [], [14, 16]), (1, [], [13, 16]), (2, [0, 1], [16]), (3, [], [13, 14, 15]), (4, [0, 1, 2, 3], []), (5, [0, 1, 2, 3, 4], [])] mixed (by kernel_rfl) ?_
    repeat' first | refine wr (by omega) ?_ | refine ln ?_ | refine stp lay_ok rfl ?_ | refine fin ?_ | refine n_thn ?_ | refine n_blk ?_ | refine e_thn ?_ | refine e_hit ?_ | refine e_miss rfl ?_ | refine r_thn ?_ | refine r_blk ?_ | refine e_rr ?_ | refine r_rr ?_ | refine e_cr ?_ | refine r_cr ?_ | refine .seq ?_ | refine reg ?_ | refine .block ?_ | refine .skip ?_ | refine .ret ?_ | refine .exit ?_ | refine cndT rfl ?_ | refine cndF rfl ?_ | refine c_dec rfl (fun hc => ?_) (fun hc => ?_) | refine c_ndec rfl (fun hc => ?_) (fun hc => ?_) | refine cnd rfl (fun hc => ?_) (fun hc => ?_) | ((first | refine o_none rfl ?_ | refine o_none_ ?_ | refine o_yes rfl rfl rfl ?_ | refine o_yes_ rfl rfl ?_); first | refine st_subL 0 k lay_ok rfl rfl rfl rfl ⟨_, _, rfl, rfl⟩ (Nat.zero_le _) (by omega) ?_ | refine st_pure (hmy) b29 rfl rfl rfl rfl ?_) | refine gd rfl rfl rfl (fun hg => ?_) (fun hg => ?_) | refine gn rfl rfl rfl (fun hg => ?_) (fun hg => ?_) | refine dwr (by omega) ?_ | refine dwl ?_ | refine dws lay_ok rfl rfl rfl rfl rfl rfl rfl ?_ | refine dwu lay_ok rfl rfl rfl rfl rfl rfl rfl rfl rfl ?_ | refine dw_end ?_ | refine dw_skip rfl rfl rfl ?_ | refine dwn lay_ok rfl rfl rfl rfl rfl ?_ | refine dwb rfl rfl rfl rfl rfl (by (first | refine st_subL 0 k lay_ok rfl rfl rfl rfl ⟨_, _, rfl, rfl⟩ (Nat.zero_le _) (by omega) ?_ | refine st_pure (hmy) b29 rfl rfl rfl rfl ?_); exact fin rfl) rfl rfl ?_ | refine dwg rfl rfl rfl rfl rfl (by (first | refine st_subL 0 k lay_ok rfl rfl rfl rfl ⟨_, _, rfl, rfl⟩ (Nat.zero_le _) (by omega) ?_ | refine st_pure (hmy) b29 rfl rfl rfl rfl ?_); exact fin rfl) rfl rfl rfl rfl rfl ?_ | refine dw_dec rfl rfl rfl (fun hg => ?_) (fun hg => ?_) | refine dw_ndec rfl rfl rfl (fun hg => ?_) (fun hg => ?_)
    refine n_rr (k + 1) ?_ (.of [] (by (repeat' first | exact trivial | refine And.intro ?_ ?_ | rfl); first | done | fail) (by (repeat' first | exact trivial | refine And.intro ?_ ?_ | rfl); first | done | fail) rfl) ?_
    · omega
    · exact ⟨hk', hk2.2⟩
  · repeat' first | refine wr (by omega) ?_ | refine ln ?_ | refine stp lay_ok rfl ?_ | refine fin ?_ | refine n_thn ?_ | refine n_blk ?_ | refine e_thn ?_ | refine e_hit ?_ | refine e_miss rfl ?_ | refine r_thn ?_ | refine r_blk ?_ | refine e_rr ?_ | refine r_rr ?_ | refine e_cr ?_ | refine r_cr ?_ | refine .seq ?_ | refine reg ?_ | refine .block ?_ | refine .skip ?_ | refine .ret ?_ | refine .exit ?_ | refine cndT rfl ?_ | refine cndF rfl ?_ | refine c_dec rfl (fun hc => ?_) (fun hc => ?_) | refine c_ndec rfl (fun hc => ?_) (fun hc => ?_) | refine cnd rfl (fun hc => ?_) (fun hc => ?_) | ((first | refine o_none rfl ?_ | refine o_none_ ?_ | refine o_yes rfl rfl rfl ?_ | refine o_yes_ rfl rfl ?_); first | refine st_pure (hsn) b25 rfl rfl rfl rfl ?_) | refine gd rfl rfl rfl (fun hg => ?_) (fun hg => ?_) | refine gn rfl rfl rfl (fun hg => ?_) (fun hg => ?_) | refine dwr (by omega) ?_ | refine dwl ?_ | refine dws lay_ok rfl rfl rfl rfl rfl rfl rfl ?_ | refine dwu lay_ok rfl rfl rfl rfl rfl rfl rfl rfl rfl ?_ | refine dw_end ?_ | refine dw_skip rfl rfl rfl ?_ | refine dwn lay_ok rfl rfl rfl rfl rfl ?_ | refine dwb rfl rfl rfl rfl rfl (by (first | refine st_pure (hsn) b25 rfl rfl rfl rfl ?_); exact fin rfl) rfl rfl ?_ | refine dwg rfl rfl rfl rfl rfl (by (first | refine st_pure (hsn) b25 rfl rfl rfl rfl ?_); exact fin rfl) rfl rfl rfl rfl rfl ?_ | refine dw_dec rfl rfl rfl (fun hg => ?_) (fun hg => ?_) | refine dw_ndec rfl rfl rfl (fun hg => ?_) (fun hg => ?_)
    refine f_end (n0 := 1) (t'' := [(2, .ptr 0 0), (3, nilE)]) (h'' := [(0, .cells [.st (.sl 4 (l.map rowN))])]) (WkR.of [0] (by (repeat' first | exact trivial | refine And.intro ?_ ?_ | rfl); first | done | fail) (by (repeat' first | exact trivial | refine And.intro ?_ ?_ | rfl); first | done | fail) rfl) rfl rfl ⟨?_, rfl⟩
    rfl
theorem from_no (l : List NV) (hl : l.length ≤ 4000000000) (hk : ∀ s ∈ l, s.fit) (hb : fromB l = false) :
    ACalls prog 13 0 [.st (.sl 4 (l.map rowN))] [] fun r h => r = .tuple [.st .nilptr, errE 1] ∧ h = [] := by
  have hm : (List.map rowN l).length = l.length := List.length_map _
  refine fnC lay_ok func13 rfl rfl rfl rfl rfl ?_
  repeat' first | refine wr (by omega) ?_ | refine ln ?_ | refine stp lay_ok rfl ?_ | refine fin ?_ | refine n_thn ?_ | refine n_blk ?_ | refine e_thn ?_ | refine e_hit ?_ | refine e_miss rfl ?_ | refine r_thn ?_ | refine r_blk ?_ | refine e_rr ?_ | refine r_rr ?_ | refine e_cr ?_ | refine r_cr ?_ | refine .seq ?_ | refine reg ?_ | refine .block ?_ | refine .skip ?_ | refine .ret ?_ | refine .exit ?_ | refine cndT rfl ?_ | refine cndF rfl ?_ | refine c_dec rfl (fun hc => ?_) (fun hc => ?_) | refine c_ndec rfl (fun hc => ?_) (fun hc => ?_) | refine cnd rfl (fun hc => ?_) (fun hc => ?_) | refine gd rfl rfl rfl (fun hg => ?_) (fun hg => ?_) | refine gn rfl rfl rfl (fun hg => ?_) (fun hg => ?_) | refine dwr (by omega) ?_ | refine dwl ?_ | refine dws lay_ok rfl rfl rfl rfl rfl rfl rfl ?_ | refine dwu lay_ok rfl rfl rfl rfl rfl rfl rfl rfl rfl ?_ | refine dw_end ?_ | refine dw_skip rfl rfl rfl ?_ | refine dwn lay_ok rfl rfl rfl rfl rfl ?_ | refine dw_dec rfl rfl rfl (fun hg => ?_) (fun hg => ?_) | refine dw_ndec rfl rfl rfl (fun hg => ?_) (fun hg => ?_)
  refine lpR (fun k => k ≤ l.length ∧ fromF (l.take k) (l.drop k) = false) (fun k => l.length - k) (fun k => [(8, I k)]) (fun k => []) (0) [0, 6, 7] [] [] rfl rfl rfl (.of [] (by (repeat' first | exact trivial | refine And.intro ?_ ?_ | rfl); first | done | fail) (by (repeat' first | exact trivial | refine And.intro ?_ ?_ | rfl); first | done | fail) rfl) ?_ ?_
  · exact ⟨Nat.zero_le _, hb⟩
  rintro k ⟨hk1, hk2⟩
  refine nrm rfl rfl ?_
  repeat' first | refine wr (by omega) ?_ | refine ln ?_ | refine stp lay_ok rfl ?_ | refine fin ?_ | refine n_thn ?_ | refine n_blk ?_ | refine e_thn ?_ | refine e_hit ?_ | refine e_miss rfl ?_ | refine r_thn ?_ | refine r_blk ?_ | refine e_rr ?_ | refine r_rr ?_ | refine e_cr ?_ | refine r_cr ?_ | refine .seq ?_ | refine reg ?_ | refine .block ?_ | refine .skip ?_ | refine .ret ?_ | refine .exit ?_ | refine cndT rfl ?_ | refine cndF rfl ?_ | refine c_dec rfl (fun hc => ?_) (fun hc => ?_) | refine c_ndec rfl (fun hc => ?_) (fun hc => ?_) | refine cnd rfl (fun hc => ?_) (fun hc => ?_) | refine gd rfl rfl rfl (fun hg => ?_) (fun hg => ?_) | refine gn rfl rfl rfl (fun hg => ?_) (fun hg => ?_) | refine dwr (by omega) ?_ | refine dwl ?_ | refine dws lay_ok rfl rfl rfl rfl rfl rfl rfl ?_ | refine dwu lay_ok rfl rfl rfl rfl rfl rfl rfl rfl rfl ?_ | refine dw_end ?_ | refine dw_skip rfl rfl rfl ?_ | refine dwn lay_ok rfl rfl rfl rfl rfl ?_ | refine dw_dec rfl rfl rfl (fun hg => ?_) (fun hg => ?_) | refine dw_ndec rfl rfl rfl (fun hg => ?_) (fun hg => ?_)
  · have hk' : k < l.length := by omega
    have hat : (l.map rowN)[((k : Nat) : Int).toNat]? = some (rowN l[k]) := by simp [hk']
    rw [fromF_step hk'] at hk2
    have hmy := may_ok' (l.take k) l[k] (by simp; omega) (hk _ (List.getElem_mem hk'))
    rw [List.map_take] at hmy
    cases hmm : mayN (l.take k) l[k] with
    | false =>
      rw [hmm] at hmy
      generalize l[k] = s at *
      obtain ⟨c, n, d, es⟩ := s
      repeat' first | refine o_frb 0 [.int .i64 c, .str n, .bool d, .sl 3 (es.map rowE)] rfl rfl rfl (by (repeat' first | exact trivial | refine And.intro ?_ ?_ | rfl); first | done | fail) (by (repeat' first | exact trivial | refine And.intro ?_ ?_ | rfl); first | done | fail) rfl rfl ?_ | refine wr (by omega) ?_ | refine ln ?_ | refine stp lay_ok rfl ?_ | refine fin ?_ | refine n_thn ?_ | refine n_blk ?_ | refine e_thn ?_ | refine e_hit ?_ | refine e_miss rfl ?_ | refine r_thn ?_ | refine r_blk ?_ | refine e_rr ?_ | refine r_rr ?_ | refine e_cr ?_ | refine r_cr ?_ | refine .seq ?_ | refine reg ?_ | refine .block ?_ | refine .skip ?_ | refine .ret ?_ | refine .exit ?_ | refine cndT rfl ?_ | refine cndF rfl ?_ | refine c_dec rfl (fun hc => ?_) (fun hc => ?_) | refine c_ndec rfl (fun hc => ?_) (fun hc => ?_) | refine cnd rfl (fun hc => ?_) (fun hc => ?_) | ((first | refine o_none rfl ?_ | refine o_none_ ?_ | refine o_yes rfl rfl rfl ?_ | refine o_yes_ rfl rfl ?_); first | refine st_index (rowN ⟨c, n, d, es⟩) lay_ok rfl rfl rfl rfl (by omega) hat ?_) | refine gd rfl rfl rfl (fun hg => ?_) (fun hg => ?_) | refine gn rfl rfl rfl (fun hg => ?_) (fun hg => ?_) | refine dwr (by omega) ?_ | refine dwl ?_ | refine dws lay_ok rfl rfl rfl rfl rfl rfl rfl ?_ | refine dwu lay_ok rfl rfl rfl rfl rfl rfl rfl rfl rfl ?_ | refine dw_end ?_ | refine dw_skip rfl rfl rfl ?_ | refine dwn lay_ok rfl rfl rfl rfl rfl ?_ | refine dwb rfl rfl rfl rfl rfl (by (first | refine st_index (rowN ⟨c, n, d, es⟩) lay_ok rfl rfl rfl rfl (by omega) hat ?_); exact fin rfl) rfl rfl ?_ | refine dwg rfl rfl rfl rfl rfl (by (first | refine st_index (rowN ⟨c, n, d, es⟩) lay_ok rfl rfl rfl rfl (by omega) hat ?_); exact fin rfl) rfl rfl rfl rfl rfl ?_ | refine dw_dec rfl rfl rfl (fun hg => ?_) (fun hg => ?_) | refine dw_ndec rfl rfl rfl (fun hg => ?_) (fun hg => ?_)
      refine dreg [(0, [], [14, 16]), (1, [], [13, 16]), (2, [0, 1], [16]), (3, [], [13, 14, 15]), (4, [0, 1, 2, 3], []), (5, [0, 1, 2, 3, 4], [])] mixed (by kernel_rfl) ?_
      repeat' first | refine wr (by omega) ?_ | refine ln ?_ | refine stp lay_ok rfl ?_ | refine fin ?_ | refine n_thn ?_ | refine n_blk ?_ | refine e_thn ?_ | refine e_hit ?_ | refine e_miss rfl ?_ | refine r_thn ?_ | refine r_blk ?_ | refine e_rr ?_ | refine r_rr ?_ | refine e_cr ?_ | refine r_cr ?_ | refine .seq ?_ | refine reg ?_ | refine .block ?_ | refine .skip ?_ | refine .ret ?_ | refine .exit ?_ | refine cndT rfl ?_ | refine cndF rfl ?_ | refine c_dec rfl (fun hc => ?_) (fun hc => ?_) | refine c_ndec rfl (fun hc => ?_) (fun hc => ?_) | refine cnd rfl (fun hc => ?_) (fun hc => ?_) | ((first | refine o_none rfl ?_ | refine o_none_ ?_ | refine o_yes rfl rfl rfl ?_ | refine o_yes_ rfl rfl ?_); first | refine st_subL 0 k lay_ok rfl rfl rfl rfl ⟨_, _, rfl, rfl⟩ (Nat.zero_le _) (by omega) ?_ | refine st_pure (hmy) b29 rfl rfl rfl rfl ?_) | refine gd rfl rfl rfl (fun hg => ?_) (fun hg => ?_) | refine gn rfl rfl rfl (fun hg => ?_) (fun hg => ?_) | refine dwr (by omega) ?_ | refine dwl ?_ | refine dws lay_ok rfl rfl rfl rfl rfl rfl rfl ?_ | refine dwu lay_ok rfl rfl rfl rfl rfl rfl rfl rfl rfl ?_ | refine dw_end ?_ | refine dw_skip rfl rfl rfl ?_ | refine dwn lay_ok rfl rfl rfl rfl rfl ?_ | refine dwb rfl rfl rfl rfl rfl (by (first | refine st_subL 0 k lay_ok rfl rfl rfl rfl ⟨_, _, rfl, rfl⟩ (Nat.zero_le _) (by omega) ?_ | refine st_pure (hmy) b29 rfl rfl rfl rfl ?_); exact fin rfl) rfl rfl ?_ | refine dwg rfl rfl rfl rfl rfl (by (first | refine st_subL 0 k lay_ok rfl rfl rfl rfl ⟨_, _, rfl, rfl⟩ (Nat.zero_le _) (by omega) ?_ | refine st_pure (hmy) b29 rfl rfl rfl rfl ?_); exact fin rfl) rfl rfl rfl rfl rfl ?_ | refine dw_dec rfl rfl rfl (fun hg => ?_) (fun hg => ?_) | refine dw_ndec rfl rfl rfl (fun hg => ?_) (fun hg => ?_)
      refine f_r [] rfl trivial rfl ⟨?_, rfl⟩
      rfl
    | true =>
      rw [hmm] at hmy hk2
      generalize l[k] = s at *
      obtain ⟨c, n, d, es⟩ := s
      repeat' first | refine o_frb 0 [.int .i64 c, .str n, .bool d, .sl 3 (es.map rowE)] rfl rfl rfl (by (repeat' first | exact trivial | refine And.intro ?_ ?_ | rfl); first | done | fail) (by (repeat' first | exact trivial | refine And.intro ?_ ?_ | rfl); first | done | fail) rfl rfl ?_ | refine wr (by omega) ?_ | refine ln ?_ | refine stp lay_ok rfl ?_ | refine fin ?_ | refine n_thn ?_ | refine n_blk ?_ | refine e_thn ?_ | refine e_hit ?_ | refine e_miss rfl ?_ | refine r_thn ?_ | refine r_blk ?_ | refine e_rr ?_ | refine r_rr ?_ | refine e_cr ?_ | refine r_cr ?_ | refine .seq ?_ | refine reg ?_ | refine .block ?_ | refine .skip ?_ | refine .ret ?_ | refine .exit ?_ | refine cndT rfl ?_ | refine cndF rfl ?_ | refine c_dec rfl (fun hc => ?_) (fun hc => ?_) | refine c_ndec rfl (fun hc => ?_) (fun hc => ?_) | refine cnd rfl (fun hc => ?_) (fun hc => ?_) | ((first | refine o_none rfl ?_ | refine o_none_ ?_ | refine o_yes rfl rfl rfl ?_ | refine o_yes_ rfl rfl ?_); first | refine st_index (rowN ⟨c, n, d, es⟩) lay_ok rfl rfl rfl rfl (by omega) hat ?_) | refine gd rfl rfl rfl (fun hg => ?_) (fun hg => ?_) | refine gn rfl rfl rfl (fun hg => ?_) (fun hg => ?_) | refine dwr (by omega) ?_ | refine dwl ?_ | refine dws lay_ok rfl rfl rfl rfl rfl rfl rfl ?_ | refine dwu lay_ok rfl rfl rfl rfl rfl rfl rfl rfl rfl ?_ | refine dw_end ?_ | refine dw_skip rfl rfl rfl ?_ | refine dwn lay_ok rfl rfl rfl rfl rfl ?_ | refine dwb rfl rfl rfl rfl rfl (by (first | refine st_index (rowN ⟨c, n, d, es⟩) lay_ok rfl rfl rfl rfl (by omega) hat ?_); exact fin rfl) rfl rfl ?_ | refine dwg rfl rfl rfl rfl rfl (by (first | refine st_index (rowN ⟨c, n, d, es⟩) lay_ok rfl rfl rfl rfl (by omega) hat ?_); exact fin rfl) rfl rfl rfl rfl rfl ?_ | refine dw_dec rfl rfl rfl (fun hg => ?_) (fun hg => ?_) | refine dw_ndec rfl rfl rfl (fun hg => ?_) (fun hg => ?_)
      refine dreg [(0, [], [14, 16]), (1, [], [13, 16]), (2, [0, 1], [16]), (3, [], [13, 14, 15]), (4, [0, 1, 2, 3], []), (5, [0, 1, 2, 3, 4], [])] mixed (by kernel_rfl) ?_
      repeat' first | refine wr (by omega) ?_ | refine ln ?_ | refine stp lay_ok rfl ?_ | refine fin ?_ | refine n_thn ?_ | refine n_blk ?_ | refine e_thn ?_ | refine e_hit ?_ | refine e_miss rfl ?_ | refine r_thn ?_ | refine r_blk ?_ | refine e_rr ?_ | refine r_rr ?_ | refine e_cr ?_ | refine r_cr ?_ | refine .seq ?_ | refine reg ?_ | refine .block ?_ | refine .skip ?_ | refine .ret ?_ | refine .exit ?_ | refine cndT rfl ?_ | refine cndF rfl ?_ | refine c_dec rfl (fun hc => ?_) (fun hc => ?_) | refine c_ndec rfl (fun hc => ?_) (fun hc => ?_) | refine cnd rfl (fun hc => ?_) (fun hc => ?_) | ((first | refine o_none rfl ?_ | refine o_none_ ?_ | refine o_yes rfl rfl rfl ?_ | refine o_yes_ rfl rfl ?_); first | refine st_subL 0 k lay_ok rfl rfl rfl rfl ⟨_, _, rfl, rfl⟩ (Nat.zero_le _) (by omega) ?_ | refine st_pure (hmy) b29 rfl rfl rfl rfl ?_) | refine gd rfl rfl rfl (fun hg => ?_) (fun hg => ?_) | refine gn rfl rfl rfl (fun hg => ?_) (fun hg => ?_) | refine dwr (by omega) ?_ | refine dwl ?_ | refine dws lay_ok rfl rfl rfl rfl rfl rfl rfl ?_ | refine dwu lay_ok rfl rfl rfl rfl rfl rfl rfl rfl rfl ?_ | refine dw_end ?_ | refine dw_skip rfl rfl rfl ?_ | refine dwn lay_ok rfl rfl rfl rfl rfl ?_ | refine dwb rfl rfl rfl rfl rfl (by (first | refine st_subL 0 k lay_ok rfl rfl rfl rfl ⟨_, _, rfl, rfl⟩ (Nat.zero_le _) (by omega) ?_ | refine st_pure (hmy) b29 rfl rfl rfl rfl ?_); exact fin rfl) rfl rfl ?_ | refine dwg rfl rfl rfl rfl rfl (by (first | refine st_subL 0 k lay_ok rfl rfl rfl rfl ⟨_, _, rfl, rfl⟩ (Nat.zero_le _) (by omega) ?_ | refine st_pure (hmy) b29 rfl rfl rfl rfl ?_); exact fin rfl) rfl rfl rfl rfl rfl ?_ | refine dw_dec rfl rfl rfl (fun hg => ?_) (fun hg => ?_) | refine dw_ndec rfl rfl rfl (fun hg => ?_) (fun hg => ?_)
      refine n_rr (k + 1) ?_ (.of [] (by (repeat' first | exact trivial | refine And.intro ?_ ?_ | rfl); first | done | fail) (by (repeat' first | exact trivial | refine And.intro ?_ ?_ | rfl); first | done | fail) rfl) ?_
      · omega
      · exact ⟨hk', hk2⟩
  · exfalso
    have : k = l.length := by omega
    subst this
    rw [List.drop_length, fromF] at hk2
    cases hk2
theorem snaps_ok (l : List NV) (hl : l.length ≤ 4000000000) (hk : ∀ s ∈ l, s.fit) : ACalls prog 10 0 [.st (.sptr [.sl 4 (l.map rowN)])] [] fun r h => r = .st (.sl 4 (l.map rowN)) ∧ h = [] := by
  have hsn := snapshots_ok l hl hk
  refine fnC lay_ok func10 rfl rfl rfl rfl rfl ?_
  repeat' first | refine wr (by omega) ?_ | refine ln ?_ | refine stp lay_ok rfl ?_ | refine fin ?_ | refine n_thn ?_ | refine n_blk ?_ | refine e_thn ?_ | refine e_hit ?_ | refine e_miss rfl ?_ | refine r_thn ?_ | refine r_blk ?_ | refine e_rr ?_ | refine r_rr ?_ | refine e_cr ?_ | refine r_cr ?_ | refine .seq ?_ | refine reg ?_ | refine .block ?_ | refine .skip ?_ | refine .ret ?_ | refine .exit ?_ | refine cndT rfl ?_ | refine cndF rfl ?_ | refine c_dec rfl (fun hc => ?_) (fun hc => ?_) | refine c_ndec rfl (fun hc => ?_) (fun hc => ?_) | refine cnd rfl (fun hc => ?_) (fun hc => ?_) | ((first | refine o_none rfl ?_ | refine o_none_ ?_ | refine o_yes rfl rfl rfl ?_ | refine o_yes_ rfl rfl ?_); first | refine st_pure (hsn) b25 rfl rfl rfl rfl ?_) | refine gd rfl rfl rfl (fun hg => ?_) (fun hg => ?_) | refine gn rfl rfl rfl (fun hg => ?_) (fun hg => ?_) | refine dwr (by omega) ?_ | refine dwl ?_ | refine dws lay_ok rfl rfl rfl rfl rfl rfl rfl ?_ | refine dwu lay_ok rfl rfl rfl rfl rfl rfl rfl rfl rfl ?_ | refine dw_end ?_ | refine dw_skip rfl rfl rfl ?_ | refine dwn lay_ok rfl rfl rfl rfl rfl ?_ | refine dwb rfl rfl rfl rfl rfl (by (first | refine st_pure (hsn) b25 rfl rfl rfl rfl ?_); exact fin rfl) rfl rfl ?_ | refine dwg rfl rfl rfl rfl rfl (by (first | refine st_pure (hsn) b25 rfl rfl rfl rfl ?_); exact fin rfl) rfl rfl rfl rfl rfl ?_ | refine dw_dec rfl rfl rfl (fun hg => ?_) (fun hg => ?_) | refine dw_ndec rfl rfl rfl (fun hg => ?_) (fun hg => ?_)
  refine f_r [] rfl trivial rfl ⟨?_, rfl⟩; rfl
end Go.Proofs.YtgjoloaajocafaaDoorFn
namespace Go.Proofs.YtgjoloaajocafaaDoorFn
open Go.Proofs.YtgjoloaajocafaaDoorAl Go.Proofs.Tryd
attribute [local irreducible] IntKind.wrap CodeOk OpsL OpG ACalls thn inBlk rndR cutR WkR Wk fnR DW ExtOk partsOf
theorem b20 : HasBody prog 20 := ⟨f20, func20, Option.some_ne_none _, by decide⟩
theorem b34 : HasBody prog 34 := ⟨f34, func34, Option.some_ne_none _, by decide⟩
/-- Where a reader stands, and whether something is amiss. -/
structure RS where
  at_ : Nat
  bad : Bool
abbrev rcell (b : List UInt8) (s : RS) : AO := .cells [Bs b, I s.at_, B s.bad]
def numR (b : List UInt8) (s : RS) : Nat × RS := if s.bad then (0, s) else match gnC b s.at_ 65536 with
  | .error _ => (0, ⟨s.at_, true⟩)
  | .ok (n, q) => (n, ⟨q, false⟩)
def textR (b : List UInt8) (s : RS) : ByteArray × RS := if s.bad then (mt, s) else match txC b s.at_ with
  | .error _ => (mt, ⟨s.at_, true⟩)
  | .ok (x, q) => (x, ⟨q, false⟩)
theorem numR_le {b : List UInt8} {s : RS} (h : s.at_ ≤ b.length) : (numR b s).2.at_ ≤ b.length ∧ (numR b s).1 ≤ 65536 := by
  unfold numR
  split
  · exact ⟨h, Nat.zero_le _⟩
  · split
    · exact ⟨h, Nat.zero_le _⟩
    · rename_i e; have := gnC_le h e; exact ⟨this.2.1, this.1⟩
theorem txC_le {b : List UInt8} {p q : Nat} {x : ByteArray} (hp : p ≤ b.length) (h : txC b p = .ok (x, q)) : q ≤ b.length ∧ x.size ≤ 4096 := by
  unfold txC at h
  split at h
  · cases h
  · rename_i n q' e
    have := gnC_le hp e
    split at h
    · cases h
    · simp only [Except.ok.injEq, Prod.mk.injEq] at h
      obtain ⟨rfl, rfl⟩ := h
      refine ⟨by omega, ?_⟩
      have e2 : (strOf ((b.drop q').take n)).size = ((b.drop q').take n).length := by simp [strOf, ByteArray.size]
      rw [e2, List.length_take]; omega
theorem textR_le {b : List UInt8} {s : RS} (h : s.at_ ≤ b.length) : (textR b s).2.at_ ≤ b.length ∧ (textR b s).1.size ≤ 4096 := by
  unfold textR
  split
  · exact ⟨h, show mt.size ≤ 4096 by decide⟩
  · split
    · exact ⟨h, show mt.size ≤ 4096 by decide⟩
    · rename_i e; exact txC_le h e
theorem w65536 : (65536 : Int) = ((65536 : Nat) : Int) := rfl
theorem rnum_ok (b : List UInt8) (s : RS) (hb : b.length ≤ 4000000000) (hp : s.at_ ≤ b.length) :
    ACalls prog 20 1 [.ptr 0 0] [(0, rcell b s)] fun r h => r = I (numR b s).1 ∧ h = [(0, rcell b (numR b s).2)] := by
  obtain ⟨p, bad⟩ := s
  have hg := getN_ok b p 65536 hb hp (by decide)
  refine fnC lay_ok func20 rfl rfl rfl rfl rfl ?_
  cases bad with
  | true =>
    repeat' first | refine wr (by omega) ?_ | refine ln ?_ | refine stp lay_ok rfl ?_ | refine fin ?_ | refine n_thn ?_ | refine n_blk ?_ | refine e_thn ?_ | refine e_hit ?_ | refine e_miss rfl ?_ | refine r_thn ?_ | refine r_blk ?_ | refine e_rr ?_ | refine r_rr ?_ | refine e_cr ?_ | refine r_cr ?_ | refine .seq ?_ | refine reg ?_ | refine .block ?_ | refine .skip ?_ | refine .ret ?_ | refine .exit ?_ | refine cndT rfl ?_ | refine cndF rfl ?_ | refine c_dec rfl (fun hc => ?_) (fun hc => ?_) | refine c_ndec rfl (fun hc => ?_) (fun hc => ?_) | refine cnd rfl (fun hc => ?_) (fun hc => ?_) | refine gd rfl rfl rfl (fun hg => ?_) (fun hg => ?_) | refine gn rfl rfl rfl (fun hg => ?_) (fun hg => ?_) | refine dwr (by omega) ?_ | refine dwl ?_ | refine dws lay_ok rfl rfl rfl rfl rfl rfl rfl ?_ | refine dwu lay_ok rfl rfl rfl rfl rfl rfl rfl rfl rfl ?_ | refine dw_end ?_ | refine dw_skip rfl rfl rfl ?_ | refine dwn lay_ok rfl rfl rfl rfl rfl ?_ | refine dw_dec rfl rfl rfl (fun hg => ?_) (fun hg => ?_) | refine dw_ndec rfl rfl rfl (fun hg => ?_) (fun hg => ?_)
    refine f_r [(0, rcell b ⟨p, true⟩)] rfl (by (repeat' first | exact trivial | refine And.intro ?_ ?_ | rfl); first | done | fail) rfl ⟨?_, rfl⟩
    rfl
  | false =>
    cases hc : gnC b p 65536 with
    | error e =>
      have hn : numR b ⟨p, false⟩ = (0, ⟨p, true⟩) := by simp [numR, hc]
      rw [hc] at hg; simp only [gnX] at hg
      rw [hn]
      repeat' first | refine wr (by omega) ?_ | refine ln ?_ | refine stp lay_ok rfl ?_ | refine fin ?_ | refine n_thn ?_ | refine n_blk ?_ | refine e_thn ?_ | refine e_hit ?_ | refine e_miss rfl ?_ | refine r_thn ?_ | refine r_blk ?_ | refine e_rr ?_ | refine r_rr ?_ | refine e_cr ?_ | refine r_cr ?_ | refine .seq ?_ | refine reg ?_ | refine .block ?_ | refine .skip ?_ | refine .ret ?_ | refine .exit ?_ | refine cndT rfl ?_ | refine cndF rfl ?_ | refine c_dec rfl (fun hc => ?_) (fun hc => ?_) | refine c_ndec rfl (fun hc => ?_) (fun hc => ?_) | refine cnd rfl (fun hc => ?_) (fun hc => ?_) | refine gd rfl rfl rfl (fun hg => ?_) (fun hg => ?_) | refine gn rfl rfl rfl (fun hg => ?_) (fun hg => ?_) | refine dwr (by omega) ?_ | refine dwl ?_ | refine dws lay_ok rfl rfl rfl rfl rfl rfl rfl ?_ | refine dwu lay_ok rfl rfl rfl rfl rfl rfl rfl rfl rfl ?_ | refine dw_end ?_ | refine dw_skip rfl rfl rfl ?_ | refine dwn lay_ok rfl rfl rfl rfl rfl ?_ | refine dw_dec rfl rfl rfl (fun hg => ?_) (fun hg => ?_) | refine dw_ndec rfl rfl rfl (fun hg => ?_) (fun hg => ?_)
      refine dreg [(0, [], [15, 16, 17, 18]), (1, [0], [15, 16, 17, 18]), (2, [0, 1], [15, 16, 17, 18]), (3, [0, 1, 2], [15, 16, 17, 18]), (4, [], [11, 12, 13, 14]), (5, [4], [11, 12, 13, 14]), (6, [4, 5], [11, 12, 13, 14]), (7, [4, 5, 6], [11, 12, 13, 14]), (8, [0, 1, 2, 3, 4, 5, 6, 7], []), (9, [0, 1, 2, 3, 4, 5, 6, 7, 8], []), (10, [0, 1, 2, 3, 4, 5, 6, 7, 8, 9], [21, 22]), (11, [0, 1, 2, 3, 4, 5, 6, 7, 8, 9], [20, 22, 3]), (12, [0, 1, 2, 3, 4, 5, 6, 7, 8, 9], [20, 21, 3, 4]), (13, [0, 1, 2, 3, 4, 5, 6, 7, 8, 9, 10], [21, 22]), (14, [0, 1, 2, 3, 4, 5, 6, 7, 8, 9, 10, 11, 13], [22]), (15, [0, 1, 2, 3, 4, 5, 6, 7, 8, 9, 10, 11, 12, 13, 14], [])] mixed (by kernel_rfl) ?_
      repeat' first | refine wr (by omega) ?_ | refine ln ?_ | refine stp lay_ok rfl ?_ | refine fin ?_ | refine n_thn ?_ | refine n_blk ?_ | refine e_thn ?_ | refine e_hit ?_ | refine e_miss rfl ?_ | refine r_thn ?_ | refine r_blk ?_ | refine e_rr ?_ | refine r_rr ?_ | refine e_cr ?_ | refine r_cr ?_ | refine .seq ?_ | refine reg ?_ | refine .block ?_ | refine .skip ?_ | refine .ret ?_ | refine .exit ?_ | refine cndT rfl ?_ | refine cndF rfl ?_ | refine c_dec rfl (fun hc => ?_) (fun hc => ?_) | refine c_ndec rfl (fun hc => ?_) (fun hc => ?_) | refine cnd rfl (fun hc => ?_) (fun hc => ?_) | ((first | refine o_none rfl ?_ | refine o_none_ ?_ | refine o_yes rfl rfl rfl ?_ | refine o_yes_ rfl rfl ?_); first | refine st_pure (hg) b33 rfl rfl rfl rfl ?_) | refine gd rfl rfl rfl (fun hg => ?_) (fun hg => ?_) | refine gn rfl rfl rfl (fun hg => ?_) (fun hg => ?_) | refine dwr (by omega) ?_ | refine dwl ?_ | refine dws lay_ok rfl rfl rfl rfl rfl rfl rfl ?_ | refine dwu lay_ok rfl rfl rfl rfl rfl rfl rfl rfl rfl ?_ | refine dw_end ?_ | refine dw_skip rfl rfl rfl ?_ | refine dwn lay_ok rfl rfl rfl rfl rfl ?_ | refine dwb rfl rfl rfl rfl rfl (by (first | refine st_pure (hg) b33 rfl rfl rfl rfl ?_); exact fin rfl) rfl rfl ?_ | refine dwg rfl rfl rfl rfl rfl (by (first | refine st_pure (hg) b33 rfl rfl rfl rfl ?_); exact fin rfl) rfl rfl rfl rfl rfl ?_ | refine dw_dec rfl rfl rfl (fun hg => ?_) (fun hg => ?_) | refine dw_ndec rfl rfl rfl (fun hg => ?_) (fun hg => ?_)
      refine f_r [(0, rcell b ⟨p, true⟩)] rfl (by (repeat' first | exact trivial | refine And.intro ?_ ?_ | rfl); first | done | fail) rfl ⟨?_, rfl⟩
      rfl
    | ok x =>
      obtain ⟨n, q⟩ := x
      have hle := gnC_le hp hc
      have hn : numR b ⟨p, false⟩ = (n, ⟨q, false⟩) := by simp [numR, hc]
      rw [hc] at hg; simp only [gnX] at hg
      rw [hn]
      repeat' first | refine wr (by omega) ?_ | refine ln ?_ | refine stp lay_ok rfl ?_ | refine fin ?_ | refine n_thn ?_ | refine n_blk ?_ | refine e_thn ?_ | refine e_hit ?_ | refine e_miss rfl ?_ | refine r_thn ?_ | refine r_blk ?_ | refine e_rr ?_ | refine r_rr ?_ | refine e_cr ?_ | refine r_cr ?_ | refine .seq ?_ | refine reg ?_ | refine .block ?_ | refine .skip ?_ | refine .ret ?_ | refine .exit ?_ | refine cndT rfl ?_ | refine cndF rfl ?_ | refine c_dec rfl (fun hc => ?_) (fun hc => ?_) | refine c_ndec rfl (fun hc => ?_) (fun hc => ?_) | refine cnd rfl (fun hc => ?_) (fun hc => ?_) | refine gd rfl rfl rfl (fun hg => ?_) (fun hg => ?_) | refine gn rfl rfl rfl (fun hg => ?_) (fun hg => ?_) | refine dwr (by omega) ?_ | refine dwl ?_ | refine dws lay_ok rfl rfl rfl rfl rfl rfl rfl ?_ | refine dwu lay_ok rfl rfl rfl rfl rfl rfl rfl rfl rfl ?_ | refine dw_end ?_ | refine dw_skip rfl rfl rfl ?_ | refine dwn lay_ok rfl rfl rfl rfl rfl ?_ | refine dw_dec rfl rfl rfl (fun hg => ?_) (fun hg => ?_) | refine dw_ndec rfl rfl rfl (fun hg => ?_) (fun hg => ?_)
      refine dreg [(0, [], [15, 16, 17, 18]), (1, [0], [15, 16, 17, 18]), (2, [0, 1], [15, 16, 17, 18]), (3, [0, 1, 2], [15, 16, 17, 18]), (4, [], [11, 12, 13, 14]), (5, [4], [11, 12, 13, 14]), (6, [4, 5], [11, 12, 13, 14]), (7, [4, 5, 6], [11, 12, 13, 14]), (8, [0, 1, 2, 3, 4, 5, 6, 7], []), (9, [0, 1, 2, 3, 4, 5, 6, 7, 8], []), (10, [0, 1, 2, 3, 4, 5, 6, 7, 8, 9], [21, 22]), (11, [0, 1, 2, 3, 4, 5, 6, 7, 8, 9], [20, 22, 3]), (12, [0, 1, 2, 3, 4, 5, 6, 7, 8, 9], [20, 21, 3, 4]), (13, [0, 1, 2, 3, 4, 5, 6, 7, 8, 9, 10], [21, 22]), (14, [0, 1, 2, 3, 4, 5, 6, 7, 8, 9, 10, 11, 13], [22]), (15, [0, 1, 2, 3, 4, 5, 6, 7, 8, 9, 10, 11, 12, 13, 14], [])] mixed (by kernel_rfl) ?_
      repeat' first | refine wr (by omega) ?_ | refine ln ?_ | refine stp lay_ok rfl ?_ | refine fin ?_ | refine n_thn ?_ | refine n_blk ?_ | refine e_thn ?_ | refine e_hit ?_ | refine e_miss rfl ?_ | refine r_thn ?_ | refine r_blk ?_ | refine e_rr ?_ | refine r_rr ?_ | refine e_cr ?_ | refine r_cr ?_ | refine .seq ?_ | refine reg ?_ | refine .block ?_ | refine .skip ?_ | refine .ret ?_ | refine .exit ?_ | refine cndT rfl ?_ | refine cndF rfl ?_ | refine c_dec rfl (fun hc => ?_) (fun hc => ?_) | refine c_ndec rfl (fun hc => ?_) (fun hc => ?_) | refine cnd rfl (fun hc => ?_) (fun hc => ?_) | ((first | refine o_none rfl ?_ | refine o_none_ ?_ | refine o_yes rfl rfl rfl ?_ | refine o_yes_ rfl rfl ?_); first | refine st_pure (hg) b33 rfl rfl rfl rfl ?_) | refine gd rfl rfl rfl (fun hg => ?_) (fun hg => ?_) | refine gn rfl rfl rfl (fun hg => ?_) (fun hg => ?_) | refine dwr (by omega) ?_ | refine dwl ?_ | refine dws lay_ok rfl rfl rfl rfl rfl rfl rfl ?_ | refine dwu lay_ok rfl rfl rfl rfl rfl rfl rfl rfl rfl ?_ | refine dw_end ?_ | refine dw_skip rfl rfl rfl ?_ | refine dwn lay_ok rfl rfl rfl rfl rfl ?_ | refine dwb rfl rfl rfl rfl rfl (by (first | refine st_pure (hg) b33 rfl rfl rfl rfl ?_); exact fin rfl) rfl rfl ?_ | refine dwg rfl rfl rfl rfl rfl (by (first | refine st_pure (hg) b33 rfl rfl rfl rfl ?_); exact fin rfl) rfl rfl rfl rfl rfl ?_ | refine dw_dec rfl rfl rfl (fun hg => ?_) (fun hg => ?_) | refine dw_ndec rfl rfl rfl (fun hg => ?_) (fun hg => ?_)
      refine f_r [(0, rcell b ⟨q, false⟩)] rfl (by (repeat' first | exact trivial | refine And.intro ?_ ?_ | rfl); first | done | fail) rfl ⟨?_, rfl⟩
      rfl
theorem rtext_ok (b : List UInt8) (s : RS) (hb : b.length ≤ 4000000000) (hp : s.at_ ≤ b.length) :
    ACalls prog 34 1 [.ptr 0 0] [(0, rcell b s)] fun r h => r = Sx (textR b s).1 ∧ h = [(0, rcell b (textR b s).2)] := by
  obtain ⟨p, bad⟩ := s
  have hg := getT_ok b p hb hp
  refine fnC lay_ok func34 rfl rfl rfl rfl rfl ?_
  cases bad with
  | true =>
    repeat' first | refine wr (by omega) ?_ | refine ln ?_ | refine stp lay_ok rfl ?_ | refine fin ?_ | refine n_thn ?_ | refine n_blk ?_ | refine e_thn ?_ | refine e_hit ?_ | refine e_miss rfl ?_ | refine r_thn ?_ | refine r_blk ?_ | refine e_rr ?_ | refine r_rr ?_ | refine e_cr ?_ | refine r_cr ?_ | refine .seq ?_ | refine reg ?_ | refine .block ?_ | refine .skip ?_ | refine .ret ?_ | refine .exit ?_ | refine cndT rfl ?_ | refine cndF rfl ?_ | refine c_dec rfl (fun hc => ?_) (fun hc => ?_) | refine c_ndec rfl (fun hc => ?_) (fun hc => ?_) | refine cnd rfl (fun hc => ?_) (fun hc => ?_) | refine gd rfl rfl rfl (fun hg => ?_) (fun hg => ?_) | refine gn rfl rfl rfl (fun hg => ?_) (fun hg => ?_) | refine dwr (by omega) ?_ | refine dwl ?_ | refine dws lay_ok rfl rfl rfl rfl rfl rfl rfl ?_ | refine dwu lay_ok rfl rfl rfl rfl rfl rfl rfl rfl rfl ?_ | refine dw_end ?_ | refine dw_skip rfl rfl rfl ?_ | refine dwn lay_ok rfl rfl rfl rfl rfl ?_ | refine dw_dec rfl rfl rfl (fun hg => ?_) (fun hg => ?_) | refine dw_ndec rfl rfl rfl (fun hg => ?_) (fun hg => ?_)
    refine f_r [(0, rcell b ⟨p, true⟩)] rfl (by (repeat' first | exact trivial | refine And.intro ?_ ?_ | rfl); first | done | fail) rfl ⟨?_, rfl⟩
    rfl
  | false =>
    cases hc : txC b p with
    | error e =>
      have hn : textR b ⟨p, false⟩ = (mt, ⟨p, true⟩) := by simp [textR, hc]
      rw [hc] at hg; simp only [txX] at hg
      rw [hn]
      repeat' first | refine wr (by omega) ?_ | refine ln ?_ | refine stp lay_ok rfl ?_ | refine fin ?_ | refine n_thn ?_ | refine n_blk ?_ | refine e_thn ?_ | refine e_hit ?_ | refine e_miss rfl ?_ | refine r_thn ?_ | refine r_blk ?_ | refine e_rr ?_ | refine r_rr ?_ | refine e_cr ?_ | refine r_cr ?_ | refine .seq ?_ | refine reg ?_ | refine .block ?_ | refine .skip ?_ | refine .ret ?_ | refine .exit ?_ | refine cndT rfl ?_ | refine cndF rfl ?_ | refine c_dec rfl (fun hc => ?_) (fun hc => ?_) | refine c_ndec rfl (fun hc => ?_) (fun hc => ?_) | refine cnd rfl (fun hc => ?_) (fun hc => ?_) | refine gd rfl rfl rfl (fun hg => ?_) (fun hg => ?_) | refine gn rfl rfl rfl (fun hg => ?_) (fun hg => ?_) | refine dwr (by omega) ?_ | refine dwl ?_ | refine dws lay_ok rfl rfl rfl rfl rfl rfl rfl ?_ | refine dwu lay_ok rfl rfl rfl rfl rfl rfl rfl rfl rfl ?_ | refine dw_end ?_ | refine dw_skip rfl rfl rfl ?_ | refine dwn lay_ok rfl rfl rfl rfl rfl ?_ | refine dw_dec rfl rfl rfl (fun hg => ?_) (fun hg => ?_) | refine dw_ndec rfl rfl rfl (fun hg => ?_) (fun hg => ?_)
      refine dreg [(0, [], [15, 16, 17, 18]), (1, [0], [15, 16, 17, 18]), (2, [0, 1], [15, 16, 17, 18]), (3, [0, 1, 2], [15, 16, 17, 18]), (4, [], [11, 12, 13, 14]), (5, [4], [11, 12, 13, 14]), (6, [4, 5], [11, 12, 13, 14]), (7, [4, 5, 6], [11, 12, 13, 14]), (8, [0, 1, 2, 3, 4, 5, 6, 7], []), (9, [0, 1, 2, 3, 4, 5, 6, 7, 8], []), (10, [0, 1, 2, 3, 4, 5, 6, 7, 8, 9], [21, 22]), (11, [0, 1, 2, 3, 4, 5, 6, 7, 8, 9], [20, 22, 3]), (12, [0, 1, 2, 3, 4, 5, 6, 7, 8, 9], [20, 21, 3, 4]), (13, [0, 1, 2, 3, 4, 5, 6, 7, 8, 9, 10], [21, 22]), (14, [0, 1, 2, 3, 4, 5, 6, 7, 8, 9, 10, 11, 13], [22]), (15, [0, 1, 2, 3, 4, 5, 6, 7, 8, 9, 10, 11, 12, 13, 14], [])] mixed (by kernel_rfl) ?_
      repeat' first | refine wr (by omega) ?_ | refine ln ?_ | refine stp lay_ok rfl ?_ | refine fin ?_ | refine n_thn ?_ | refine n_blk ?_ | refine e_thn ?_ | refine e_hit ?_ | refine e_miss rfl ?_ | refine r_thn ?_ | refine r_blk ?_ | refine e_rr ?_ | refine r_rr ?_ | refine e_cr ?_ | refine r_cr ?_ | refine .seq ?_ | refine reg ?_ | refine .block ?_ | refine .skip ?_ | refine .ret ?_ | refine .exit ?_ | refine cndT rfl ?_ | refine cndF rfl ?_ | refine c_dec rfl (fun hc => ?_) (fun hc => ?_) | refine c_ndec rfl (fun hc => ?_) (fun hc => ?_) | refine cnd rfl (fun hc => ?_) (fun hc => ?_) | ((first | refine o_none rfl ?_ | refine o_none_ ?_ | refine o_yes rfl rfl rfl ?_ | refine o_yes_ rfl rfl ?_); first | refine st_pure (hg) b54 rfl rfl rfl rfl ?_) | refine gd rfl rfl rfl (fun hg => ?_) (fun hg => ?_) | refine gn rfl rfl rfl (fun hg => ?_) (fun hg => ?_) | refine dwr (by omega) ?_ | refine dwl ?_ | refine dws lay_ok rfl rfl rfl rfl rfl rfl rfl ?_ | refine dwu lay_ok rfl rfl rfl rfl rfl rfl rfl rfl rfl ?_ | refine dw_end ?_ | refine dw_skip rfl rfl rfl ?_ | refine dwn lay_ok rfl rfl rfl rfl rfl ?_ | refine dwb rfl rfl rfl rfl rfl (by (first | refine st_pure (hg) b54 rfl rfl rfl rfl ?_); exact fin rfl) rfl rfl ?_ | refine dwg rfl rfl rfl rfl rfl (by (first | refine st_pure (hg) b54 rfl rfl rfl rfl ?_); exact fin rfl) rfl rfl rfl rfl rfl ?_ | refine dw_dec rfl rfl rfl (fun hg => ?_) (fun hg => ?_) | refine dw_ndec rfl rfl rfl (fun hg => ?_) (fun hg => ?_)
      refine f_r [(0, rcell b ⟨p, true⟩)] rfl (by (repeat' first | exact trivial | refine And.intro ?_ ?_ | rfl); first | done | fail) rfl ⟨?_, rfl⟩
      rfl
    | ok x =>
      obtain ⟨n, q⟩ := x
      have hle := txC_le hp hc
      have hn : textR b ⟨p, false⟩ = (n, ⟨q, false⟩) := by simp [textR, hc]
      rw [hc] at hg; simp only [txX] at hg
      rw [hn]
      repeat' first | refine wr (by omega) ?_ | refine ln ?_ | refine stp lay_ok rfl ?_ | refine fin ?_ | refine n_thn ?_ | refine n_blk ?_ | refine e_thn ?_ | refine e_hit ?_ | refine e_miss rfl ?_ | refine r_thn ?_ | refine r_blk ?_ | refine e_rr ?_ | refine r_rr ?_ | refine e_cr ?_ | refine r_cr ?_ | refine .seq ?_ | refine reg ?_ | refine .block ?_ | refine .skip ?_ | refine .ret ?_ | refine .exit ?_ | refine cndT rfl ?_ | refine cndF rfl ?_ | refine c_dec rfl (fun hc => ?_) (fun hc => ?_) | refine c_ndec rfl (fun hc => ?_) (fun hc => ?_) | refine cnd rfl (fun hc => ?_) (fun hc => ?_) | refine gd rfl rfl rfl (fun hg => ?_) (fun hg => ?_) | refine gn rfl rfl rfl (fun hg => ?_) (fun hg => ?_) | refine dwr (by omega) ?_ | refine dwl ?_ | refine dws lay_ok rfl rfl rfl rfl rfl rfl rfl ?_ | refine dwu lay_ok rfl rfl rfl rfl rfl rfl rfl rfl rfl ?_ | refine dw_end ?_ | refine dw_skip rfl rfl rfl ?_ | refine dwn lay_ok rfl rfl rfl rfl rfl ?_ | refine dw_dec rfl rfl rfl (fun hg => ?_) (fun hg => ?_) | refine dw_ndec rfl rfl rfl (fun hg => ?_) (fun hg => ?_)
      refine dreg [(0, [], [15, 16, 17, 18]), (1, [0], [15, 16, 17, 18]), (2, [0, 1], [15, 16, 17, 18]), (3, [0, 1, 2], [15, 16, 17, 18]), (4, [], [11, 12, 13, 14]), (5, [4], [11, 12, 13, 14]), (6, [4, 5], [11, 12, 13, 14]), (7, [4, 5, 6], [11, 12, 13, 14]), (8, [0, 1, 2, 3, 4, 5, 6, 7], []), (9, [0, 1, 2, 3, 4, 5, 6, 7, 8], []), (10, [0, 1, 2, 3, 4, 5, 6, 7, 8, 9], [21, 22]), (11, [0, 1, 2, 3, 4, 5, 6, 7, 8, 9], [20, 22, 3]), (12, [0, 1, 2, 3, 4, 5, 6, 7, 8, 9], [20, 21, 3, 4]), (13, [0, 1, 2, 3, 4, 5, 6, 7, 8, 9, 10], [21, 22]), (14, [0, 1, 2, 3, 4, 5, 6, 7, 8, 9, 10, 11, 13], [22]), (15, [0, 1, 2, 3, 4, 5, 6, 7, 8, 9, 10, 11, 12, 13, 14], [])] mixed (by kernel_rfl) ?_
      repeat' first | refine wr (by omega) ?_ | refine ln ?_ | refine stp lay_ok rfl ?_ | refine fin ?_ | refine n_thn ?_ | refine n_blk ?_ | refine e_thn ?_ | refine e_hit ?_ | refine e_miss rfl ?_ | refine r_thn ?_ | refine r_blk ?_ | refine e_rr ?_ | refine r_rr ?_ | refine e_cr ?_ | refine r_cr ?_ | refine .seq ?_ | refine reg ?_ | refine .block ?_ | refine .skip ?_ | refine .ret ?_ | refine .exit ?_ | refine cndT rfl ?_ | refine cndF rfl ?_ | refine c_dec rfl (fun hc => ?_) (fun hc => ?_) | refine c_ndec rfl (fun hc => ?_) (fun hc => ?_) | refine cnd rfl (fun hc => ?_) (fun hc => ?_) | ((first | refine o_none rfl ?_ | refine o_none_ ?_ | refine o_yes rfl rfl rfl ?_ | refine o_yes_ rfl rfl ?_); first | refine st_pure (hg) b54 rfl rfl rfl rfl ?_) | refine gd rfl rfl rfl (fun hg => ?_) (fun hg => ?_) | refine gn rfl rfl rfl (fun hg => ?_) (fun hg => ?_) | refine dwr (by omega) ?_ | refine dwl ?_ | refine dws lay_ok rfl rfl rfl rfl rfl rfl rfl ?_ | refine dwu lay_ok rfl rfl rfl rfl rfl rfl rfl rfl rfl ?_ | refine dw_end ?_ | refine dw_skip rfl rfl rfl ?_ | refine dwn lay_ok rfl rfl rfl rfl rfl ?_ | refine dwb rfl rfl rfl rfl rfl (by (first | refine st_pure (hg) b54 rfl rfl rfl rfl ?_); exact fin rfl) rfl rfl ?_ | refine dwg rfl rfl rfl rfl rfl (by (first | refine st_pure (hg) b54 rfl rfl rfl rfl ?_); exact fin rfl) rfl rfl rfl rfl rfl ?_ | refine dw_dec rfl rfl rfl (fun hg => ?_) (fun hg => ?_) | refine dw_ndec rfl rfl rfl (fun hg => ?_) (fun hg => ?_)
      refine f_r [(0, rcell b ⟨q, false⟩)] rfl (by (repeat' first | exact trivial | refine And.intro ?_ ?_ | rfl); first | done | fail) rfl ⟨?_, rfl⟩
      rfl
end Go.Proofs.YtgjoloaajocafaaDoorFn
namespace Go.Proofs.YtgjoloaajocafaaDoorFn
open Go.Proofs.YtgjoloaajocafaaDoorAl Go.Proofs.Tryd
attribute [local irreducible] IntKind.wrap CodeOk OpsL OpG ACalls thn inBlk rndR cutR WkR Wk fnR DW ExtOk partsOf
theorem b35 : HasBody prog 35 := ⟨f35, func35, Option.some_ne_none _, by decide⟩
/-- So many texts, behind others. -/
def textsR (b : List UInt8) : Nat → RS → List ByteArray → List ByteArray × RS
  | 0, s, acc => (acc, s)
  | n + 1, s, acc => if s.bad then (acc, s) else textsR b n (textR b s).2 (acc ++ [(textR b s).1])
theorem textsR_bad (b : List UInt8) (n : Nat) (p : Nat) (acc : List ByteArray) : textsR b n ⟨p, true⟩ acc = (acc, ⟨p, true⟩) := by
  cases n <;> simp [textsR]
def entryR (b : List UInt8) (s : RS) : EV × RS :=
  let r1 := textR b s
  let r2 := numR b r1.2
  let r3 := numR b r2.2
  let r4 := textsR b r3.1 r3.2 []
  (⟨r1.1, r2.1, r4.1⟩, r4.2)
theorem rentry_ok (b : List UInt8) (s : RS) (hb : b.length ≤ 4000000000) (hp : s.at_ ≤ b.length) :
    ACalls prog 35 1 [.ptr 0 0] [(0, rcell b s)] fun r h => r = .st (.agg (rowE (entryR b s).1)) ∧ h = [(0, rcell b (entryR b s).2)] := by
  have hT := rtext_ok b s hb hp
  have hle := textR_le hp
  simp only [entryR]
  generalize textR b s = r1 at *
  obtain ⟨p, s1⟩ := r1
  simp only at *
  have hN := rnum_ok b s1 hb hle.1
  have hle1 := numR_le hle.1
  generalize numR b s1 = r2 at *
  obtain ⟨z, s2⟩ := r2
  simp only at *
  have hN2 := rnum_ok b s2 hb hle1.1
  have hle2 := numR_le hle1.1
  generalize numR b s2 = r3 at *
  obtain ⟨n, s3⟩ := r3
  simp only at *
  refine ACalls.drop1 (h1 := [(0, rcell b (textsR b n s3 []).2), (1, .cells [.st (.str p), .st (.int .i64 (z : Int)), .st (.sl 1 ((textsR b n s3 []).1.map rowS))])]) ⟨rfl, trivial⟩ ?_
  refine fnC lay_ok func35 rfl rfl rfl rfl rfl ?_
  repeat' first | refine wr (by omega) ?_ | refine ln ?_ | refine stp lay_ok rfl ?_ | refine fin ?_ | refine n_thn ?_ | refine n_blk ?_ | refine e_thn ?_ | refine e_hit ?_ | refine e_miss rfl ?_ | refine r_thn ?_ | refine r_blk ?_ | refine e_rr ?_ | refine r_rr ?_ | refine e_cr ?_ | refine r_cr ?_ | refine .seq ?_ | refine reg ?_ | refine .block ?_ | refine .skip ?_ | refine .ret ?_ | refine .exit ?_ | refine cndT rfl ?_ | refine cndF rfl ?_ | refine c_dec rfl (fun hc => ?_) (fun hc => ?_) | refine c_ndec rfl (fun hc => ?_) (fun hc => ?_) | refine cnd rfl (fun hc => ?_) (fun hc => ?_) | ((first | refine o_none rfl ?_ | refine o_none_ ?_ | refine o_yes rfl rfl rfl ?_ | refine o_yes_ rfl rfl ?_); first | refine st_callF 0 (hT) b34 rfl rfl rfl rfl rfl rfl (by (repeat' first | exact trivial | refine And.intro ?_ ?_ | rfl); first | done | fail) rfl ?_ | refine st_callF 0 (hN) b20 rfl rfl rfl rfl rfl rfl (by (repeat' first | exact trivial | refine And.intro ?_ ?_ | rfl); first | done | fail) rfl ?_ | refine st_callF 0 (hN2) b20 rfl rfl rfl rfl rfl rfl (by (repeat' first | exact trivial | refine And.intro ?_ ?_ | rfl); first | done | fail) rfl ?_) | refine gd rfl rfl rfl (fun hg => ?_) (fun hg => ?_) | refine gn rfl rfl rfl (fun hg => ?_) (fun hg => ?_) | refine dwr (by omega) ?_ | refine dwl ?_ | refine dws lay_ok rfl rfl rfl rfl rfl rfl rfl ?_ | refine dwu lay_ok rfl rfl rfl rfl rfl rfl rfl rfl rfl ?_ | refine dw_end ?_ | refine dw_skip rfl rfl rfl ?_ | refine dwn lay_ok rfl rfl rfl rfl rfl ?_ | refine dwb rfl rfl rfl rfl rfl (by (first | refine st_callF 0 (hT) b34 rfl rfl rfl rfl rfl rfl (by (repeat' first | exact trivial | refine And.intro ?_ ?_ | rfl); first | done | fail) rfl ?_ | refine st_callF 0 (hN) b20 rfl rfl rfl rfl rfl rfl (by (repeat' first | exact trivial | refine And.intro ?_ ?_ | rfl); first | done | fail) rfl ?_ | refine st_callF 0 (hN2) b20 rfl rfl rfl rfl rfl rfl (by (repeat' first | exact trivial | refine And.intro ?_ ?_ | rfl); first | done | fail) rfl ?_); exact fin rfl) rfl rfl ?_ | refine dwg rfl rfl rfl rfl rfl (by (first | refine st_callF 0 (hT) b34 rfl rfl rfl rfl rfl rfl (by (repeat' first | exact trivial | refine And.intro ?_ ?_ | rfl); first | done | fail) rfl ?_ | refine st_callF 0 (hN) b20 rfl rfl rfl rfl rfl rfl (by (repeat' first | exact trivial | refine And.intro ?_ ?_ | rfl); first | done | fail) rfl ?_ | refine st_callF 0 (hN2) b20 rfl rfl rfl rfl rfl rfl (by (repeat' first | exact trivial | refine And.intro ?_ ?_ | rfl); first | done | fail) rfl ?_); exact fin rfl) rfl rfl rfl rfl rfl ?_ | refine dw_dec rfl rfl rfl (fun hg => ?_) (fun hg => ?_) | refine dw_ndec rfl rfl rfl (fun hg => ?_) (fun hg => ?_)
  refine CodeOk.wk (Wk.nilC 1 2 2 rfl rfl rfl rfl rfl) (Nat.le_succ _) ?_
  refine nrm rfl rfl ?_
  refine lpR (fun (s, ks, f) => s.at_ ≤ b.length ∧ ks.length + f ≤ 65536 ∧ textsR b n s3 [] = textsR b f s ks) (fun (s, ks, f) => f) (fun (s, ks, f) => [(4, I f)]) (fun (s, ks, f) => [(0, rcell b s), (2, .cells [.st (.str p), .st (.int .i64 (z : Int)), .lsl 4 1 0 (ks.map rowS).length]), (4, .arr 1 (ks.map rowS))]) ((s3, [], n)) [0, 2, 3] [0, 2] [3] rfl rfl rfl (.of [3] (by (repeat' first | exact trivial | refine And.intro ?_ ?_ | rfl); first | done | fail) (by (repeat' first | exact trivial | refine And.intro ?_ ?_ | rfl); first | done | fail) rfl) ?_ ?_
  · exact ⟨hle2.1, by simp; omega, rfl⟩
  rintro ⟨⟨q, bad⟩, ks, f⟩ ⟨g1, g2, g3⟩
  refine nrm rfl rfl ?_
  rw [g3]
  clear g3
  cases f with
  | zero =>
    rw [textsR]
    repeat' first | refine wr (by omega) ?_ | refine ln ?_ | refine stp lay_ok rfl ?_ | refine fin ?_ | refine n_thn ?_ | refine n_blk ?_ | refine e_thn ?_ | refine e_hit ?_ | refine e_miss rfl ?_ | refine r_thn ?_ | refine r_blk ?_ | refine e_rr ?_ | refine r_rr ?_ | refine e_cr ?_ | refine r_cr ?_ | refine .seq ?_ | refine reg ?_ | refine .block ?_ | refine .skip ?_ | refine .ret ?_ | refine .exit ?_ | refine cndT rfl ?_ | refine cndF rfl ?_ | refine c_dec rfl (fun hc => ?_) (fun hc => ?_) | refine c_ndec rfl (fun hc => ?_) (fun hc => ?_) | refine cnd rfl (fun hc => ?_) (fun hc => ?_) | refine gd rfl rfl rfl (fun hg => ?_) (fun hg => ?_) | refine gn rfl rfl rfl (fun hg => ?_) (fun hg => ?_) | refine dwr (by omega) ?_ | refine dwl ?_ | refine dws lay_ok rfl rfl rfl rfl rfl rfl rfl ?_ | refine dwu lay_ok rfl rfl rfl rfl rfl rfl rfl rfl rfl ?_ | refine dw_end ?_ | refine dw_skip rfl rfl rfl ?_ | refine dwn lay_ok rfl rfl rfl rfl rfl ?_ | refine dw_dec rfl rfl rfl (fun hg => ?_) (fun hg => ?_) | refine dw_ndec rfl rfl rfl (fun hg => ?_) (fun hg => ?_)
    refine f_end (n0 := 2) (t'' := [(2, .ptr 1 0)]) (h'' := [(0, rcell b ⟨q, bad⟩), (1, .cells [.st (.str p), .st (.int .i64 (z : Int)), .st (.sl 1 (ks.map rowS))])]) (Wk.then (Wk.frz 4 [2] rfl rfl rfl (by (repeat' first | exact trivial | refine And.intro ?_ ?_ | rfl); first | done | fail) (by (repeat' first | exact trivial | refine And.intro ?_ ?_ | rfl); first | done | fail) rfl rfl) (WkR.of [1] (by (repeat' first | exact trivial | refine And.intro ?_ ?_ | rfl); first | done | fail) (by (repeat' first | exact trivial | refine And.intro ?_ ?_ | rfl); first | done | fail) rfl)) rfl rfl ⟨?_, rfl⟩
    rfl
  | succ f =>
    cases bad with
    | true =>
      rw [textsR, if_pos rfl]
      repeat' first | refine wr (by omega) ?_ | refine ln ?_ | refine stp lay_ok rfl ?_ | refine fin ?_ | refine n_thn ?_ | refine n_blk ?_ | refine e_thn ?_ | refine e_hit ?_ | refine e_miss rfl ?_ | refine r_thn ?_ | refine r_blk ?_ | refine e_rr ?_ | refine r_rr ?_ | refine e_cr ?_ | refine r_cr ?_ | refine .seq ?_ | refine reg ?_ | refine .block ?_ | refine .skip ?_ | refine .ret ?_ | refine .exit ?_ | refine cndT rfl ?_ | refine cndF rfl ?_ | refine c_dec rfl (fun hc => ?_) (fun hc => ?_) | refine c_ndec rfl (fun hc => ?_) (fun hc => ?_) | refine cnd rfl (fun hc => ?_) (fun hc => ?_) | refine gd rfl rfl rfl (fun hg => ?_) (fun hg => ?_) | refine gn rfl rfl rfl (fun hg => ?_) (fun hg => ?_) | refine dwr (by omega) ?_ | refine dwl ?_ | refine dws lay_ok rfl rfl rfl rfl rfl rfl rfl ?_ | refine dwu lay_ok rfl rfl rfl rfl rfl rfl rfl rfl rfl ?_ | refine dw_end ?_ | refine dw_skip rfl rfl rfl ?_ | refine dwn lay_ok rfl rfl rfl rfl rfl ?_ | refine dw_dec rfl rfl rfl (fun hg => ?_) (fun hg => ?_) | refine dw_ndec rfl rfl rfl (fun hg => ?_) (fun hg => ?_)
      · refine f_end (n0 := 2) (t'' := [(2, .ptr 1 0)]) (h'' := [(0, rcell b ⟨q, true⟩), (1, .cells [.st (.str p), .st (.int .i64 (z : Int)), .st (.sl 1 (ks.map rowS))])]) (Wk.then (Wk.frz 4 [2] rfl rfl rfl (by (repeat' first | exact trivial | refine And.intro ?_ ?_ | rfl); first | done | fail) (by (repeat' first | exact trivial | refine And.intro ?_ ?_ | rfl); first | done | fail) rfl rfl) (WkR.of [1] (by (repeat' first | exact trivial | refine And.intro ?_ ?_ | rfl); first | done | fail) (by (repeat' first | exact trivial | refine And.intro ?_ ?_ | rfl); first | done | fail) rfl)) rfl rfl ⟨?_, rfl⟩
        rfl
      · exfalso; omega
    | false =>
      rw [textsR, if_neg (by simp)]
      have hT := rtext_ok b ⟨q, false⟩ hb g1
      have hle := textR_le (s := ⟨q, false⟩) g1
      generalize textR b ⟨q, false⟩ = r1 at *
      obtain ⟨x, s1⟩ := r1
      simp only at *
      have hm : (List.map rowS ks).length = ks.length := List.length_map _
      have hr : List.map rowS ks ++ [[SV.str x]] = List.map rowS (ks ++ [x]) := by rw [List.map_append]; rfl
      repeat' first | refine wr (by omega) ?_ | refine ln ?_ | refine stp lay_ok rfl ?_ | refine fin ?_ | refine n_thn ?_ | refine n_blk ?_ | refine e_thn ?_ | refine e_hit ?_ | refine e_miss rfl ?_ | refine r_thn ?_ | refine r_blk ?_ | refine e_rr ?_ | refine r_rr ?_ | refine e_cr ?_ | refine r_cr ?_ | refine .seq ?_ | refine reg ?_ | refine .block ?_ | refine .skip ?_ | refine .ret ?_ | refine .exit ?_ | refine cndT rfl ?_ | refine cndF rfl ?_ | refine c_dec rfl (fun hc => ?_) (fun hc => ?_) | refine c_ndec rfl (fun hc => ?_) (fun hc => ?_) | refine cnd rfl (fun hc => ?_) (fun hc => ?_) | refine gd rfl rfl rfl (fun hg => ?_) (fun hg => ?_) | refine gn rfl rfl rfl (fun hg => ?_) (fun hg => ?_) | refine dwr (by omega) ?_ | refine dwl ?_ | refine dws lay_ok rfl rfl rfl rfl rfl rfl rfl ?_ | refine dwu lay_ok rfl rfl rfl rfl rfl rfl rfl rfl rfl ?_ | refine dw_end ?_ | refine dw_skip rfl rfl rfl ?_ | refine dwn lay_ok rfl rfl rfl rfl rfl ?_ | refine dw_dec rfl rfl rfl (fun hg => ?_) (fun hg => ?_) | refine dw_ndec rfl rfl rfl (fun hg => ?_) (fun hg => ?_)
      · refine dreg [(0, [], [25, 26, 27]), (1, [0], [25, 26, 27]), (2, [], [23, 24]), (3, [2], [23, 24]), (4, [2, 3], [23, 24]), (5, [0, 1, 2, 3, 4], []), (6, [0, 1, 2, 3, 4, 5], []), (7, [0, 1, 2, 3, 4, 5, 6], [])] mixed (by kernel_rfl) ?_
        repeat' first | refine wr (by omega) ?_ | refine ln ?_ | refine stp lay_ok rfl ?_ | refine fin ?_ | refine n_thn ?_ | refine n_blk ?_ | refine e_thn ?_ | refine e_hit ?_ | refine e_miss rfl ?_ | refine r_thn ?_ | refine r_blk ?_ | refine e_rr ?_ | refine r_rr ?_ | refine e_cr ?_ | refine r_cr ?_ | refine .seq ?_ | refine reg ?_ | refine .block ?_ | refine .skip ?_ | refine .ret ?_ | refine .exit ?_ | refine cndT rfl ?_ | refine cndF rfl ?_ | refine c_dec rfl (fun hc => ?_) (fun hc => ?_) | refine c_ndec rfl (fun hc => ?_) (fun hc => ?_) | refine cnd rfl (fun hc => ?_) (fun hc => ?_) | ((first | refine o_none rfl ?_ | refine o_none_ ?_ | refine o_yes rfl rfl rfl ?_ | refine o_yes_ rfl rfl ?_); first | refine st_callF 0 (hT) b34 rfl rfl rfl rfl rfl rfl (by (repeat' first | exact trivial | refine And.intro ?_ ?_ | rfl); first | done | fail) rfl ?_ | refine st_append lay_ok rfl rfl rfl rfl rfl rfl rfl rfl (.lsl rfl rfl) .sl rfl (rowS_one (b := [x])) (by simp only [List.length_cons, List.length_nil]; omega) (by simp only [List.length_cons, List.length_nil]; omega) ?_) | refine gd rfl rfl rfl (fun hg => ?_) (fun hg => ?_) | refine gn rfl rfl rfl (fun hg => ?_) (fun hg => ?_) | refine dwr (by omega) ?_ | refine dwl ?_ | refine dws lay_ok rfl rfl rfl rfl rfl rfl rfl ?_ | refine dwu lay_ok rfl rfl rfl rfl rfl rfl rfl rfl rfl ?_ | refine dw_end ?_ | refine dw_skip rfl rfl rfl ?_ | refine dwn lay_ok rfl rfl rfl rfl rfl ?_ | refine dwb rfl rfl rfl rfl rfl (by (first | refine st_callF 0 (hT) b34 rfl rfl rfl rfl rfl rfl (by (repeat' first | exact trivial | refine And.intro ?_ ?_ | rfl); first | done | fail) rfl ?_ | refine st_append lay_ok rfl rfl rfl rfl rfl rfl rfl rfl (.lsl rfl rfl) .sl rfl (rowS_one (b := [x])) (by simp only [List.length_cons, List.length_nil]; omega) (by simp only [List.length_cons, List.length_nil]; omega) ?_); exact fin rfl) rfl rfl ?_ | refine dwg rfl rfl rfl rfl rfl (by (first | refine st_callF 0 (hT) b34 rfl rfl rfl rfl rfl rfl (by (repeat' first | exact trivial | refine And.intro ?_ ?_ | rfl); first | done | fail) rfl ?_ | refine st_append lay_ok rfl rfl rfl rfl rfl rfl rfl rfl (.lsl rfl rfl) .sl rfl (rowS_one (b := [x])) (by simp only [List.length_cons, List.length_nil]; omega) (by simp only [List.length_cons, List.length_nil]; omega) ?_); exact fin rfl) rfl rfl rfl rfl rfl ?_ | refine dw_dec rfl rfl rfl (fun hg => ?_) (fun hg => ?_) | refine dw_ndec rfl rfl rfl (fun hg => ?_) (fun hg => ?_)
        rw [hr]
        refine n_rr ((s1, ks ++ [x], f)) ?_ (.of [5] (by (repeat' first | exact trivial | refine And.intro ?_ ?_ | rfl | exact congrArg (fun z : Int => some (AV.st (.int .i64 z))) (show ((f + 1 : Nat) : Int) - 1 = (f : Int) by omega)); first | done | fail) (by (repeat' first | exact trivial | refine And.intro ?_ ?_ | rfl | exact congrArg (fun z : Int => some (AV.st (.int .i64 z))) (show ((f + 1 : Nat) : Int) - 1 = (f : Int) by omega)); first | done | fail) rfl) ?_
        · exact Nat.lt_succ_self _
        · exact ⟨hle.1, by show (ks ++ [x]).length + f ≤ 65536; rw [List.length_append, List.length_singleton]; omega, rfl⟩
      · exfalso; omega
end Go.Proofs.YtgjoloaajocafaaDoorFn
namespace Go.Proofs.YtgjoloaajocafaaDoorFn
open Go.Proofs.YtgjoloaajocafaaDoorAl Go.Proofs.Tryd
attribute [local irreducible] IntKind.wrap CodeOk OpsL OpG ACalls thn inBlk rndR cutR WkR Wk fnR DW ExtOk partsOf
theorem b21 : HasBody prog 21 := ⟨f21, func21, Option.some_ne_none _, by decide⟩
theorem textsR_le (b : List UInt8) : ∀ (n : Nat) (s : RS) (acc : List ByteArray), s.at_ ≤ b.length → (textsR b n s acc).2.at_ ≤ b.length ∧ (textsR b n s acc).1.length ≤ acc.length + n
  | 0, s, acc, h => ⟨h, Nat.le_refl _⟩
  | n + 1, s, acc, h => by
    rw [textsR]
    split
    · exact ⟨h, by simp⟩
    · have := textsR_le b n (textR b s).2 (acc ++ [(textR b s).1]) (textR_le h).1
      refine ⟨this.1, ?_⟩
      have h2 := this.2
      rw [List.length_append, List.length_singleton] at h2; omega
theorem entryR_le {b : List UInt8} {s : RS} (h : s.at_ ≤ b.length) : (entryR b s).2.at_ ≤ b.length ∧ (entryR b s).1.path.size ≤ 4096 ∧ (entryR b s).1.keys.length ≤ 65536 := by
  have h1 := textR_le h
  have h2 := numR_le h1.1
  have h3 := numR_le h2.1
  have h4 := textsR_le b (numR b (numR b (textR b s).2).2).1 (numR b (numR b (textR b s).2).2).2 [] h3.1
  refine ⟨h4.1, h1.2, ?_⟩
  have h5 := h4.2
  have h6 := h3.2
  simp only [List.length_nil] at h5
  exact Nat.le_trans h5 (by omega)
def entsR (b : List UInt8) : Nat → RS → List EV → List EV × RS
  | 0, s, acc => (acc, s)
  | n + 1, s, acc => if s.bad then (acc, s) else entsR b n (entryR b s).2 (acc ++ [(entryR b s).1])
def snapR (b : List UInt8) (s : RS) : NV × RS :=
  let r1 := numR b s
  let r2 := textR b r1.2
  let r3 := numR b r2.2
  let r4 := numR b ⟨r3.2.at_, r3.2.bad || decide ((r3.1 : Int) > 1)⟩
  let r5 := entsR b r4.1 r4.2 []
  (⟨r1.1, r2.1, decide ((r3.1 : Int) = 1), r5.1⟩, r5.2)
theorem rsnap_ok (b : List UInt8) (s : RS) (hb : b.length ≤ 4000000000) (hp : s.at_ ≤ b.length) :
    ACalls prog 21 1 [.ptr 0 0] [(0, rcell b s)] fun r h => r = .st (.agg (rowN (snapR b s).1)) ∧ h = [(0, rcell b (snapR b s).2)] := by
  have hN1 := rnum_ok b s hb hp
  have hle1 := numR_le hp
  simp only [snapR]
  generalize numR b s = r1 at *
  obtain ⟨c, s1⟩ := r1
  simp only at *
  have hT := rtext_ok b s1 hb hle1.1
  have hle2 := textR_le hle1.1
  generalize textR b s1 = r2 at *
  obtain ⟨p, s2⟩ := r2
  simp only at *
  have hN2 := rnum_ok b s2 hb hle2.1
  have hle3 := numR_le hle2.1
  generalize numR b s2 = r3 at *
  obtain ⟨d, ⟨q3, bad3⟩⟩ := r3
  simp only at *
  have hN3 := rnum_ok b ⟨q3, bad3 || decide ((d : Int) > 1)⟩ hb hle3.1
  have hle4 := numR_le (b := b) (s := ⟨q3, bad3 || decide ((d : Int) > 1)⟩) hle3.1
  generalize numR b ⟨q3, bad3 || decide ((d : Int) > 1)⟩ = r4 at *
  obtain ⟨n, s4⟩ := r4
  simp only at *
  generalize hz : decide ((d : Int) = 1) = z
  refine ACalls.drop1 (h1 := [(0, rcell b (entsR b n s4 []).2), (1, .cells [.st (.int .i64 (c : Int)), .st (.str p), .st (.bool z), .st (.sl 3 ((entsR b n s4 []).1.map rowE))])]) ⟨rfl, trivial⟩ ?_
  refine fnC lay_ok func21 rfl rfl rfl rfl rfl ?_
  cases bad3
  all_goals
    repeat' first | refine wr (by omega) ?_ | refine ln ?_ | refine stp lay_ok rfl ?_ | refine fin ?_ | refine n_thn ?_ | refine n_blk ?_ | refine e_thn ?_ | refine e_hit ?_ | refine e_miss rfl ?_ | refine r_thn ?_ | refine r_blk ?_ | refine e_rr ?_ | refine r_rr ?_ | refine e_cr ?_ | refine r_cr ?_ | refine .seq ?_ | refine reg ?_ | refine .block ?_ | refine .skip ?_ | refine .ret ?_ | refine .exit ?_ | refine cndT rfl ?_ | refine cndF rfl ?_ | refine c_dec rfl (fun hc => ?_) (fun hc => ?_) | refine c_ndec rfl (fun hc => ?_) (fun hc => ?_) | refine cnd rfl (fun hc => ?_) (fun hc => ?_) | ((first | refine o_none rfl ?_ | refine o_none_ ?_ | refine o_yes rfl rfl rfl ?_ | refine o_yes_ rfl rfl ?_); first | refine st_callF 0 (hN1) b20 rfl rfl rfl rfl rfl rfl (by (repeat' first | exact trivial | refine And.intro ?_ ?_ | rfl); first | done | fail) rfl ?_ | refine st_callF 0 (hT) b34 rfl rfl rfl rfl rfl rfl (by (repeat' first | exact trivial | refine And.intro ?_ ?_ | rfl); first | done | fail) rfl ?_ | refine st_callF 0 (hN2) b20 rfl rfl rfl rfl rfl rfl (by (repeat' first | exact trivial | refine And.intro ?_ ?_ | rfl); first | done | fail) rfl ?_ | refine st_callF 0 (hN3) b20 rfl rfl rfl rfl rfl rfl (by (repeat' first | exact trivial | refine And.intro ?_ ?_ | rfl); first | done | fail) rfl ?_) | refine gd rfl rfl rfl (fun hg => ?_) (fun hg => ?_) | refine gn rfl rfl rfl (fun hg => ?_) (fun hg => ?_) | refine dwr (by omega) ?_ | refine dwl ?_ | refine dws lay_ok rfl rfl rfl rfl rfl rfl rfl ?_ | refine dwu lay_ok rfl rfl rfl rfl rfl rfl rfl rfl rfl ?_ | refine dw_end ?_ | refine dw_skip rfl rfl rfl ?_ | refine dwn lay_ok rfl rfl rfl rfl rfl ?_ | refine dwb rfl rfl rfl rfl rfl (by (first | refine st_callF 0 (hN1) b20 rfl rfl rfl rfl rfl rfl (by (repeat' first | exact trivial | refine And.intro ?_ ?_ | rfl); first | done | fail) rfl ?_ | refine st_callF 0 (hT) b34 rfl rfl rfl rfl rfl rfl (by (repeat' first | exact trivial | refine And.intro ?_ ?_ | rfl); first | done | fail) rfl ?_ | refine st_callF 0 (hN2) b20 rfl rfl rfl rfl rfl rfl (by (repeat' first | exact trivial | refine And.intro ?_ ?_ | rfl); first | done | fail) rfl ?_ | refine st_callF 0 (hN3) b20 rfl rfl rfl rfl rfl rfl (by (repeat' first | exact trivial | refine And.intro ?_ ?_ | rfl); first | done | fail) rfl ?_); exact fin rfl) rfl rfl ?_ | refine dwg rfl rfl rfl rfl rfl (by (first | refine st_callF 0 (hN1) b20 rfl rfl rfl rfl rfl rfl (by (repeat' first | exact trivial | refine And.intro ?_ ?_ | rfl); first | done | fail) rfl ?_ | refine st_callF 0 (hT) b34 rfl rfl rfl rfl rfl rfl (by (repeat' first | exact trivial | refine And.intro ?_ ?_ | rfl); first | done | fail) rfl ?_ | refine st_callF 0 (hN2) b20 rfl rfl rfl rfl rfl rfl (by (repeat' first | exact trivial | refine And.intro ?_ ?_ | rfl); first | done | fail) rfl ?_ | refine st_callF 0 (hN3) b20 rfl rfl rfl rfl rfl rfl (by (repeat' first | exact trivial | refine And.intro ?_ ?_ | rfl); first | done | fail) rfl ?_); exact fin rfl) rfl rfl rfl rfl rfl ?_ | refine dw_dec rfl rfl rfl (fun hg => ?_) (fun hg => ?_) | refine dw_ndec rfl rfl rfl (fun hg => ?_) (fun hg => ?_)
  all_goals
    rw [hz]
    clear hN1 hN2 hN3 hT
    refine CodeOk.wk (Wk.nilC 3 2 3 rfl rfl rfl rfl rfl) (Nat.le_succ _) ?_
    refine nrm rfl rfl ?_
    refine lpR (fun (s, es, f) => s.at_ ≤ b.length ∧ es.length + f ≤ 65536 ∧ entsR b n s4 [] = entsR b f s es) (fun (s, es, f) => f) (fun (s, es, f) => [(5, I f)]) (fun (s, es, f) => [(0, rcell b s), (2, .cells [.st (.int .i64 (c : Int)), .st (.str p), .st (.bool z), .lsl 4 3 0 (es.map rowE).length]), (4, .arr 3 (es.map rowE))]) ((s4, [], n)) [0, 2, 3] [0, 2] [3] rfl rfl rfl (.of [3] (by (repeat' first | exact trivial | refine And.intro ?_ ?_ | rfl); first | done | fail) (by (repeat' first | exact trivial | refine And.intro ?_ ?_ | rfl); first | done | fail) rfl) ?_ ?_
    · exact ⟨hle4.1, by simp; omega, rfl⟩
    rintro ⟨⟨q, bad⟩, es, f⟩ ⟨g1, g2, g3⟩
    refine nrm rfl rfl ?_
    rw [g3]
    clear g3
    cases f with
    | zero =>
      rw [entsR]
      repeat' first | refine wr (by omega) ?_ | refine ln ?_ | refine stp lay_ok rfl ?_ | refine fin ?_ | refine n_thn ?_ | refine n_blk ?_ | refine e_thn ?_ | refine e_hit ?_ | refine e_miss rfl ?_ | refine r_thn ?_ | refine r_blk ?_ | refine e_rr ?_ | refine r_rr ?_ | refine e_cr ?_ | refine r_cr ?_ | refine .seq ?_ | refine reg ?_ | refine .block ?_ | refine .skip ?_ | refine .ret ?_ | refine .exit ?_ | refine cndT rfl ?_ | refine cndF rfl ?_ | refine c_dec rfl (fun hc => ?_) (fun hc => ?_) | refine c_ndec rfl (fun hc => ?_) (fun hc => ?_) | refine cnd rfl (fun hc => ?_) (fun hc => ?_) | refine gd rfl rfl rfl (fun hg => ?_) (fun hg => ?_) | refine gn rfl rfl rfl (fun hg => ?_) (fun hg => ?_) | refine dwr (by omega) ?_ | refine dwl ?_ | refine dws lay_ok rfl rfl rfl rfl rfl rfl rfl ?_ | refine dwu lay_ok rfl rfl rfl rfl rfl rfl rfl rfl rfl ?_ | refine dw_end ?_ | refine dw_skip rfl rfl rfl ?_ | refine dwn lay_ok rfl rfl rfl rfl rfl ?_ | refine dw_dec rfl rfl rfl (fun hg => ?_) (fun hg => ?_) | refine dw_ndec rfl rfl rfl (fun hg => ?_) (fun hg => ?_)
      refine f_end (n0 := 2) (t'' := [(2, .ptr 1 0)]) (h'' := [(0, rcell b ⟨q, bad⟩), (1, .cells [.st (.int .i64 (c : Int)), .st (.str p), .st (.bool z), .st (.sl 3 (es.map rowE))])]) (Wk.then (Wk.frz 4 [2] rfl rfl rfl (by (repeat' first | exact trivial | refine And.intro ?_ ?_ | rfl); first | done | fail) (by (repeat' first | exact trivial | refine And.intro ?_ ?_ | rfl); first | done | fail) rfl rfl) (WkR.of [1] (by (repeat' first | exact trivial | refine And.intro ?_ ?_ | rfl); first | done | fail) (by (repeat' first | exact trivial | refine And.intro ?_ ?_ | rfl); first | done | fail) rfl)) rfl rfl ⟨?_, rfl⟩
      rfl
    | succ f =>
      cases bad with
      | true =>
        rw [entsR, if_pos rfl]
        repeat' first | refine wr (by omega) ?_ | refine ln ?_ | refine stp lay_ok rfl ?_ | refine fin ?_ | refine n_thn ?_ | refine n_blk ?_ | refine e_thn ?_ | refine e_hit ?_ | refine e_miss rfl ?_ | refine r_thn ?_ | refine r_blk ?_ | refine e_rr ?_ | refine r_rr ?_ | refine e_cr ?_ | refine r_cr ?_ | refine .seq ?_ | refine reg ?_ | refine .block ?_ | refine .skip ?_ | refine .ret ?_ | refine .exit ?_ | refine cndT rfl ?_ | refine cndF rfl ?_ | refine c_dec rfl (fun hc => ?_) (fun hc => ?_) | refine c_ndec rfl (fun hc => ?_) (fun hc => ?_) | refine cnd rfl (fun hc => ?_) (fun hc => ?_) | refine gd rfl rfl rfl (fun hg => ?_) (fun hg => ?_) | refine gn rfl rfl rfl (fun hg => ?_) (fun hg => ?_) | refine dwr (by omega) ?_ | refine dwl ?_ | refine dws lay_ok rfl rfl rfl rfl rfl rfl rfl ?_ | refine dwu lay_ok rfl rfl rfl rfl rfl rfl rfl rfl rfl ?_ | refine dw_end ?_ | refine dw_skip rfl rfl rfl ?_ | refine dwn lay_ok rfl rfl rfl rfl rfl ?_ | refine dw_dec rfl rfl rfl (fun hg => ?_) (fun hg => ?_) | refine dw_ndec rfl rfl rfl (fun hg => ?_) (fun hg => ?_)
        · refine f_end (n0 := 2) (t'' := [(2, .ptr 1 0)]) (h'' := [(0, rcell b ⟨q, true⟩), (1, .cells [.st (.int .i64 (c : Int)), .st (.str p), .st (.bool z), .st (.sl 3 (es.map rowE))])]) (Wk.then (Wk.frz 4 [2] rfl rfl rfl (by (repeat' first | exact trivial | refine And.intro ?_ ?_ | rfl); first | done | fail) (by (repeat' first | exact trivial | refine And.intro ?_ ?_ | rfl); first | done | fail) rfl rfl) (WkR.of [1] (by (repeat' first | exact trivial | refine And.intro ?_ ?_ | rfl); first | done | fail) (by (repeat' first | exact trivial | refine And.intro ?_ ?_ | rfl); first | done | fail) rfl)) rfl rfl ⟨?_, rfl⟩
          rfl
        · exfalso; omega
      | false =>
        rw [entsR, if_neg (by simp)]
        have hE := rentry_ok b ⟨q, false⟩ hb g1
        have hle := entryR_le (s := ⟨q, false⟩) g1
        generalize entryR b ⟨q, false⟩ = r1 at *
        obtain ⟨x, s1⟩ := r1
        simp only at *
        have hm : (List.map rowE es).length = es.length := List.length_map _
        have hr : List.map rowE es ++ [rowE x] = List.map rowE (es ++ [x]) := by rw [List.map_append]; rfl
        repeat' first | refine wr (by omega) ?_ | refine ln ?_ | refine stp lay_ok rfl ?_ | refine fin ?_ | refine n_thn ?_ | refine n_blk ?_ | refine e_thn ?_ | refine e_hit ?_ | refine e_miss rfl ?_ | refine r_thn ?_ | refine r_blk ?_ | refine e_rr ?_ | refine r_rr ?_ | refine e_cr ?_ | refine r_cr ?_ | refine .seq ?_ | refine reg ?_ | refine .block ?_ | refine .skip ?_ | refine .ret ?_ | refine .exit ?_ | refine cndT rfl ?_ | refine cndF rfl ?_ | refine c_dec rfl (fun hc => ?_) (fun hc => ?_) | refine c_ndec rfl (fun hc => ?_) (fun hc => ?_) | refine cnd rfl (fun hc => ?_) (fun hc => ?_) | refine gd rfl rfl rfl (fun hg => ?_) (fun hg => ?_) | refine gn rfl rfl rfl (fun hg => ?_) (fun hg => ?_) | refine dwr (by omega) ?_ | refine dwl ?_ | refine dws lay_ok rfl rfl rfl rfl rfl rfl rfl ?_ | refine dwu lay_ok rfl rfl rfl rfl rfl rfl rfl rfl rfl ?_ | refine dw_end ?_ | refine dw_skip rfl rfl rfl ?_ | refine dwn lay_ok rfl rfl rfl rfl rfl ?_ | refine dw_dec rfl rfl rfl (fun hg => ?_) (fun hg => ?_) | refine dw_ndec rfl rfl rfl (fun hg => ?_) (fun hg => ?_)
        · refine dreg [(0, [], [42, 43, 44]), (1, [0], [42, 43, 44]), (2, [], [40, 41]), (3, [2], [40, 41]), (4, [2, 3], [40, 41]), (5, [0, 1, 2, 3, 4], []), (6, [0, 1, 2, 3, 4, 5], []), (7, [0, 1, 2, 3, 4, 5, 6], [])] mixed (by kernel_rfl) ?_
          repeat' first | refine wr (by omega) ?_ | refine ln ?_ | refine stp lay_ok rfl ?_ | refine fin ?_ | refine n_thn ?_ | refine n_blk ?_ | refine e_thn ?_ | refine e_hit ?_ | refine e_miss rfl ?_ | refine r_thn ?_ | refine r_blk ?_ | refine e_rr ?_ | refine r_rr ?_ | refine e_cr ?_ | refine r_cr ?_ | refine .seq ?_ | refine reg ?_ | refine .block ?_ | refine .skip ?_ | refine .ret ?_ | refine .exit ?_ | refine cndT rfl ?_ | refine cndF rfl ?_ | refine c_dec rfl (fun hc => ?_) (fun hc => ?_) | refine c_ndec rfl (fun hc => ?_) (fun hc => ?_) | refine cnd rfl (fun hc => ?_) (fun hc => ?_) | ((first | refine o_none rfl ?_ | refine o_none_ ?_ | refine o_yes rfl rfl rfl ?_ | refine o_yes_ rfl rfl ?_); first | refine st_callF 0 (hE) b35 rfl rfl rfl rfl rfl rfl (by (repeat' first | exact trivial | refine And.intro ?_ ?_ | rfl); first | done | fail) rfl ?_ | refine st_append lay_ok rfl rfl rfl rfl rfl rfl rfl rfl (.lsl rfl rfl) (.sl (rows := [rowE x])) rfl (rowE_one (b := [x])) (by simp only [List.length_cons, List.length_nil]; omega) (by simp only [List.length_cons, List.length_nil]; omega) ?_) | refine gd rfl rfl rfl (fun hg => ?_) (fun hg => ?_) | refine gn rfl rfl rfl (fun hg => ?_) (fun hg => ?_) | refine dwr (by omega) ?_ | refine dwl ?_ | refine dws lay_ok rfl rfl rfl rfl rfl rfl rfl ?_ | refine dwu lay_ok rfl rfl rfl rfl rfl rfl rfl rfl rfl ?_ | refine dw_end ?_ | refine dw_skip rfl rfl rfl ?_ | refine dwn lay_ok rfl rfl rfl rfl rfl ?_ | refine dwb rfl rfl rfl rfl rfl (by (first | refine st_callF 0 (hE) b35 rfl rfl rfl rfl rfl rfl (by (repeat' first | exact trivial | refine And.intro ?_ ?_ | rfl); first | done | fail) rfl ?_ | refine st_append lay_ok rfl rfl rfl rfl rfl rfl rfl rfl (.lsl rfl rfl) (.sl (rows := [rowE x])) rfl (rowE_one (b := [x])) (by simp only [List.length_cons, List.length_nil]; omega) (by simp only [List.length_cons, List.length_nil]; omega) ?_); exact fin rfl) rfl rfl ?_ | refine dwg rfl rfl rfl rfl rfl (by (first | refine st_callF 0 (hE) b35 rfl rfl rfl rfl rfl rfl (by (repeat' first | exact trivial | refine And.intro ?_ ?_ | rfl); first | done | fail) rfl ?_ | refine st_append lay_ok rfl rfl rfl rfl rfl rfl rfl rfl (.lsl rfl rfl) (.sl (rows := [rowE x])) rfl (rowE_one (b := [x])) (by simp only [List.length_cons, List.length_nil]; omega) (by simp only [List.length_cons, List.length_nil]; omega) ?_); exact fin rfl) rfl rfl rfl rfl rfl ?_ | refine dw_dec rfl rfl rfl (fun hg => ?_) (fun hg => ?_) | refine dw_ndec rfl rfl rfl (fun hg => ?_) (fun hg => ?_)
          rw [hr]
          refine n_rr ((s1, es ++ [x], f)) ?_ (.of [5] (by (repeat' first | exact trivial | refine And.intro ?_ ?_ | rfl | exact congrArg (fun z : Int => some (AV.st (.int .i64 z))) (show ((f + 1 : Nat) : Int) - 1 = (f : Int) by omega)); first | done | fail) (by (repeat' first | exact trivial | refine And.intro ?_ ?_ | rfl | exact congrArg (fun z : Int => some (AV.st (.int .i64 z))) (show ((f + 1 : Nat) : Int) - 1 = (f : Int) by omega)); first | done | fail) rfl) ?_
          · exact Nat.lt_succ_self _
          · exact ⟨hle.1, by show (es ++ [x]).length + f ≤ 65536; rw [List.length_append, List.length_singleton]; omega, rfl⟩
        · exfalso; omega
end Go.Proofs.YtgjoloaajocafaaDoorFn
namespace Go.Proofs.YtgjoloaajocafaaDoorFn
open Go.Proofs.YtgjoloaajocafaaDoorAl Go.Proofs.Tryd
attribute [local irreducible] IntKind.wrap CodeOk OpsL OpG ACalls thn inBlk rndR cutR WkR Wk fnR DW ExtOk partsOf
theorem b7 : HasBody prog 7 := ⟨f7, func7, Option.some_ne_none _, by decide⟩
theorem entsR_le (b : List UInt8) : ∀ (n : Nat) (s : RS) (acc : List EV), s.at_ ≤ b.length → (∀ e ∈ acc, e.path.size ≤ 4096 ∧ e.keys.length ≤ 65536) →
    (entsR b n s acc).2.at_ ≤ b.length ∧ (entsR b n s acc).1.length ≤ acc.length + n ∧ ∀ e ∈ (entsR b n s acc).1, e.path.size ≤ 4096 ∧ e.keys.length ≤ 65536
  | 0, s, acc, h, ha => ⟨h, Nat.le_refl _, ha⟩
  | n + 1, s, acc, h, ha => by
    rw [entsR]
    split
    · exact ⟨h, by simp, ha⟩
    · have he := entryR_le h
      have := entsR_le b n (entryR b s).2 (acc ++ [(entryR b s).1]) he.1 (fun e hm => by
        rcases List.mem_append.1 hm with hm | hm
        · exact ha e hm
        · rw [List.mem_singleton] at hm; subst hm; exact he.2)
      refine ⟨this.1, ?_, this.2.2⟩
      have h2 := this.2.1
      rw [List.length_append, List.length_singleton] at h2; omega
/-- What a reader brings. -/
def NV.red (s : NV) : Prop := s.name.size ≤ 4096 ∧ s.entries.length ≤ 65536 ∧ ∀ e ∈ s.entries, e.path.size ≤ 4096 ∧ e.keys.length ≤ 65536
theorem NV.red.fit {s : NV} (h : s.red) : s.fit := by
  obtain ⟨h1, h2, h3⟩ := h
  exact ⟨by omega, by omega, fun e he => by have := h3 e he; exact ⟨by omega, by omega⟩⟩
theorem snapR_le {b : List UInt8} {s : RS} (h : s.at_ ≤ b.length) : (snapR b s).2.at_ ≤ b.length ∧ (snapR b s).1.red := by
  have h1 := numR_le h
  have h2 := textR_le h1.1
  have h3 := numR_le h2.1
  simp only [snapR]
  generalize numR b s = r1 at *
  generalize textR b r1.2 = r2 at *
  generalize numR b r2.2 = r3 at *
  have h4 := numR_le (b := b) (s := ⟨r3.2.at_, r3.2.bad || decide ((r3.1 : Int) > 1)⟩) h3.1
  generalize numR b ⟨r3.2.at_, r3.2.bad || decide ((r3.1 : Int) > 1)⟩ = r4 at *
  have h5 := entsR_le b r4.1 r4.2 [] h4.1 (fun e he => by cases he)
  refine ⟨h5.1, h2.2, ?_, h5.2.2⟩
  have h6 := h5.2.1
  simp only [List.length_nil] at h6
  exact Nat.le_trans h6 (by omega)
def snapsR (b : List UInt8) : Nat → RS → List NV → List NV × RS
  | 0, s, acc => (acc, s)
  | n + 1, s, acc => if s.bad then (acc, s) else snapsR b n (snapR b s).2 (acc ++ [(snapR b s).1])
theorem snapsR_le (b : List UInt8) : ∀ (n : Nat) (s : RS) (acc : List NV), s.at_ ≤ b.length → (∀ e ∈ acc, e.red) →
    (snapsR b n s acc).2.at_ ≤ b.length ∧ (snapsR b n s acc).1.length ≤ acc.length + n ∧ ∀ e ∈ (snapsR b n s acc).1, e.red
  | 0, s, acc, h, ha => ⟨h, Nat.le_refl _, ha⟩
  | n + 1, s, acc, h, ha => by
    rw [snapsR]
    split
    · exact ⟨h, by simp, ha⟩
    · have he := snapR_le h
      have := snapsR_le b n (snapR b s).2 (acc ++ [(snapR b s).1]) he.1 (fun e hm => by
        rcases List.mem_append.1 hm with hm | hm
        · exact ha e hm
        · rw [List.mem_singleton] at hm; subst hm; exact he.2)
      refine ⟨this.1, ?_, this.2.2⟩
      have h2 := this.2.1
      rw [List.length_append, List.length_singleton] at h2; omega
/-- The snapshots of bytes. -/
def getR (b : List UInt8) : Option (List NV) :=
  let r0 := numR b ⟨0, false⟩
  let r := snapsR b r0.1 r0.2 []
  if r.2.bad || decide (r.2.at_ < b.length) then none else if fromB r.1 then some r.1 else none
theorem get_no (b : List UInt8) (hb : b.length ≤ 4000000000) (hgr : getR b = none) : ACalls prog 7 0 [Bs b] [] fun r h => r = .tuple [.st .nilptr, errE 2] ∧ h = [] := by
  have hN := rnum_ok b ⟨0, false⟩ hb (Nat.zero_le _)
  have hle := numR_le (b := b) (s := ⟨0, false⟩) (Nat.zero_le _)
  simp only [getR] at hgr
  generalize numR b ⟨0, false⟩ = r0 at *
  obtain ⟨n, s0⟩ := r0
  simp only at *
  have hlb : (List.map rowB b).length = b.length := List.length_map _
  refine fnC lay_ok func7 rfl rfl rfl rfl rfl ?_
  repeat' first | refine wr (by omega) ?_ | refine ln ?_ | refine stp lay_ok rfl ?_ | refine fin ?_ | refine n_thn ?_ | refine n_blk ?_ | refine e_thn ?_ | refine e_hit ?_ | refine e_miss rfl ?_ | refine r_thn ?_ | refine r_blk ?_ | refine e_rr ?_ | refine r_rr ?_ | refine e_cr ?_ | refine r_cr ?_ | refine .seq ?_ | refine reg ?_ | refine .block ?_ | refine .skip ?_ | refine .ret ?_ | refine .exit ?_ | refine cndT rfl ?_ | refine cndF rfl ?_ | refine c_dec rfl (fun hc => ?_) (fun hc => ?_) | refine c_ndec rfl (fun hc => ?_) (fun hc => ?_) | refine cnd rfl (fun hc => ?_) (fun hc => ?_) | ((first | refine o_none rfl ?_ | refine o_none_ ?_ | refine o_yes rfl rfl rfl ?_ | refine o_yes_ rfl rfl ?_); first | refine st_callF 0 (hN) b20 rfl rfl rfl rfl rfl rfl (by (repeat' first | exact trivial | refine And.intro ?_ ?_ | rfl); first | done | fail) rfl ?_) | refine gd rfl rfl rfl (fun hg => ?_) (fun hg => ?_) | refine gn rfl rfl rfl (fun hg => ?_) (fun hg => ?_)
  refine CodeOk.wk (Wk.nilT 4 5 rfl rfl) (Nat.le_succ _) ?_
  refine nrm rfl rfl ?_
  refine lpR (fun (s, l, f) => s.at_ ≤ b.length ∧ l.length + f ≤ 65536 ∧ snapsR b n s0 [] = snapsR b f s l ∧ (∀ e ∈ l, e.red)) (fun (s, l, f) => f) (fun (s, l, f) => [(6, I f), (5, .lsl 2 4 0 (l.map rowN).length)]) (fun (s, l, f) => [(0, rcell b s), (2, .arr 4 (l.map rowN))]) ((s0, [], n)) [0, 4] [0] [1] rfl rfl rfl (.of [1] (by (repeat' first | exact trivial | refine And.intro ?_ ?_ | rfl); first | done | fail) (by (repeat' first | exact trivial | refine And.intro ?_ ?_ | rfl); first | done | fail) rfl) ?_ ?_
  · exact ⟨hle.1, by simp; omega, rfl, fun e he => by cases he⟩
  rintro ⟨⟨q, bad⟩, l, f⟩ ⟨g1, g2, g3, g4⟩
  refine nrm rfl rfl ?_
  rw [g3] at hgr ⊢
  clear g3
  have hm : (List.map rowN l).length = l.length := List.length_map _
  cases f with
  | zero =>
    rw [snapsR] at hgr
    simp only at hgr
    cases bad with
    | true =>
      repeat' first | refine wr (by omega) ?_ | refine ln ?_ | refine stp lay_ok rfl ?_ | refine fin ?_ | refine n_thn ?_ | refine n_blk ?_ | refine e_thn ?_ | refine e_hit ?_ | refine e_miss rfl ?_ | refine r_thn ?_ | refine r_blk ?_ | refine e_rr ?_ | refine r_rr ?_ | refine e_cr ?_ | refine r_cr ?_ | refine .seq ?_ | refine reg ?_ | refine .block ?_ | refine .skip ?_ | refine .ret ?_ | refine .exit ?_ | refine cndT rfl ?_ | refine cndF rfl ?_ | refine c_dec rfl (fun hc => ?_) (fun hc => ?_) | refine c_ndec rfl (fun hc => ?_) (fun hc => ?_) | refine cnd rfl (fun hc => ?_) (fun hc => ?_) | refine gd rfl rfl rfl (fun hg => ?_) (fun hg => ?_) | refine gn rfl rfl rfl (fun hg => ?_) (fun hg => ?_)
      refine f_r [] rfl trivial rfl ⟨?_, rfl⟩; rfl
    | false =>
      by_cases hq : q < b.length
      · repeat' first | refine wr (by omega) ?_ | refine ln ?_ | refine stp lay_ok rfl ?_ | refine fin ?_ | refine n_thn ?_ | refine n_blk ?_ | refine e_thn ?_ | refine e_hit ?_ | refine e_miss rfl ?_ | refine r_thn ?_ | refine r_blk ?_ | refine e_rr ?_ | refine r_rr ?_ | refine e_cr ?_ | refine r_cr ?_ | refine .seq ?_ | refine reg ?_ | refine .block ?_ | refine .skip ?_ | refine .ret ?_ | refine .exit ?_ | refine cndT rfl ?_ | refine cndF rfl ?_ | refine c_dec rfl (fun hc => ?_) (fun hc => ?_) | refine c_ndec rfl (fun hc => ?_) (fun hc => ?_) | refine cnd rfl (fun hc => ?_) (fun hc => ?_) | refine gd rfl rfl rfl (fun hg => ?_) (fun hg => ?_) | refine gn rfl rfl rfl (fun hg => ?_) (fun hg => ?_)
        · refine f_r [] rfl trivial rfl ⟨?_, rfl⟩; rfl
        · exfalso; simp only at *; omega
      · simp only [Bool.false_or, decide_eq_true_eq, if_neg hq] at hgr
        have hfb : fromB l = false := by
          cases h : fromB l with
          | false => rfl
          | true => rw [if_pos h] at hgr; cases hgr
        have hfr := from_no l (by simp only [Nat.add_zero] at g2; omega) (fun s hs => (g4 s hs).fit) hfb
        repeat' first | refine o_frzA (f := 13) rfl rfl rfl rfl (by (repeat' first | exact trivial | refine And.intro ?_ ?_ | rfl); first | done | fail) (by (repeat' first | exact trivial | refine And.intro ?_ ?_ | rfl); first | done | fail) rfl rfl ?_ | refine wr (by omega) ?_ | refine ln ?_ | refine stp lay_ok rfl ?_ | refine fin ?_ | refine n_thn ?_ | refine n_blk ?_ | refine e_thn ?_ | refine e_hit ?_ | refine e_miss rfl ?_ | refine r_thn ?_ | refine r_blk ?_ | refine e_rr ?_ | refine r_rr ?_ | refine e_cr ?_ | refine r_cr ?_ | refine .seq ?_ | refine reg ?_ | refine .block ?_ | refine .skip ?_ | refine .ret ?_ | refine .exit ?_ | refine cndT rfl ?_ | refine cndF rfl ?_ | refine c_dec rfl (fun hc => ?_) (fun hc => ?_) | refine c_ndec rfl (fun hc => ?_) (fun hc => ?_) | refine cnd rfl (fun hc => ?_) (fun hc => ?_) | ((first | refine o_none rfl ?_ | refine o_none_ ?_ | refine o_yes rfl rfl rfl ?_ | refine o_yes_ rfl rfl ?_); first | refine st_pure (hfr) b13 rfl rfl rfl rfl ?_) | refine gd rfl rfl rfl (fun hg => ?_) (fun hg => ?_) | refine gn rfl rfl rfl (fun hg => ?_) (fun hg => ?_)
        all_goals first
          | (exfalso; simp only at *; omega)
          | (refine f_r [] rfl trivial rfl ⟨?_, rfl⟩; rfl)
  | succ f =>
    cases bad with
    | true =>
      repeat' first | refine wr (by omega) ?_ | refine ln ?_ | refine stp lay_ok rfl ?_ | refine fin ?_ | refine n_thn ?_ | refine n_blk ?_ | refine e_thn ?_ | refine e_hit ?_ | refine e_miss rfl ?_ | refine r_thn ?_ | refine r_blk ?_ | refine e_rr ?_ | refine r_rr ?_ | refine e_cr ?_ | refine r_cr ?_ | refine .seq ?_ | refine reg ?_ | refine .block ?_ | refine .skip ?_ | refine .ret ?_ | refine .exit ?_ | refine cndT rfl ?_ | refine cndF rfl ?_ | refine c_dec rfl (fun hc => ?_) (fun hc => ?_) | refine c_ndec rfl (fun hc => ?_) (fun hc => ?_) | refine cnd rfl (fun hc => ?_) (fun hc => ?_) | refine gd rfl rfl rfl (fun hg => ?_) (fun hg => ?_) | refine gn rfl rfl rfl (fun hg => ?_) (fun hg => ?_)
      · refine f_r [] rfl trivial rfl ⟨?_, rfl⟩; rfl
      · exfalso; omega
    | false =>
      simp only [snapsR, if_neg (show ¬ (false = true) by simp)] at hgr
      rw [snapsR, if_neg (by simp)]
      have hE := rsnap_ok b ⟨q, false⟩ hb g1
      have hle := snapR_le (s := ⟨q, false⟩) g1
      generalize snapR b ⟨q, false⟩ = r1 at *
      obtain ⟨x, s1⟩ := r1
      simp only at *
      have hr : List.map rowN l ++ [rowN x] = List.map rowN (l ++ [x]) := by rw [List.map_append]; rfl
      repeat' first | refine wr (by omega) ?_ | refine ln ?_ | refine stp lay_ok rfl ?_ | refine fin ?_ | refine n_thn ?_ | refine n_blk ?_ | refine e_thn ?_ | refine e_hit ?_ | refine e_miss rfl ?_ | refine r_thn ?_ | refine r_blk ?_ | refine e_rr ?_ | refine r_rr ?_ | refine e_cr ?_ | refine r_cr ?_ | refine .seq ?_ | refine reg ?_ | refine .block ?_ | refine .skip ?_ | refine .ret ?_ | refine .exit ?_ | refine cndT rfl ?_ | refine cndF rfl ?_ | refine c_dec rfl (fun hc => ?_) (fun hc => ?_) | refine c_ndec rfl (fun hc => ?_) (fun hc => ?_) | refine cnd rfl (fun hc => ?_) (fun hc => ?_) | ((first | refine o_none rfl ?_ | refine o_none_ ?_ | refine o_yes rfl rfl rfl ?_ | refine o_yes_ rfl rfl ?_); first | refine st_callF 0 (hE) b21 rfl rfl rfl rfl rfl rfl (by (repeat' first | exact trivial | refine And.intro ?_ ?_ | rfl); first | done | fail) rfl ?_ | refine st_append lay_ok rfl rfl rfl rfl rfl rfl rfl rfl (.lsl rfl rfl) (.sl (rows := [rowN x])) rfl (rowN_one (b := [x])) (by simp only [List.length_cons, List.length_nil]; omega) (by simp only [List.length_cons, List.length_nil]; omega) ?_) | refine gd rfl rfl rfl (fun hg => ?_) (fun hg => ?_) | refine gn rfl rfl rfl (fun hg => ?_) (fun hg => ?_)
      · rw [hr]
        refine n_rr ((s1, l ++ [x], f)) ?_ (.of [3] (by (repeat' first | exact trivial | refine And.intro ?_ ?_ | rfl | exact congrArg (fun z : Int => some (AV.st (.int .i64 z))) (show ((f + 1 : Nat) : Int) - 1 = (f : Int) by omega)); first | done | fail) (by (repeat' first | exact trivial | refine And.intro ?_ ?_ | rfl | exact congrArg (fun z : Int => some (AV.st (.int .i64 z))) (show ((f + 1 : Nat) : Int) - 1 = (f : Int) by omega)); first | done | fail) rfl) ?_
        · exact Nat.lt_succ_self _
        · refine ⟨hle.1, by show (l ++ [x]).length + f ≤ 65536; rw [List.length_append, List.length_singleton]; omega, rfl, fun e hm => ?_⟩
          rcases List.mem_append.1 hm with hm | hm
          · exact g4 e hm
          · rw [List.mem_singleton] at hm; subst hm; exact hle.2
      all_goals (exfalso; omega)
end Go.Proofs.YtgjoloaajocafaaDoorFn
namespace Go.Proofs.YtgjoloaajocafaaDoorFn
open Go.Proofs.YtgjoloaajocafaaDoorAl Go.Proofs.Tryd
attribute [local irreducible] IntKind.wrap CodeOk OpsL OpG ACalls thn inBlk rndR cutR WkR Wk fnR DW ExtOk partsOf
theorem get_ok (b : List UInt8) (l0 : List NV) (hb : b.length ≤ 4000000000) (hgr : getR b = some l0) : ACalls prog 7 0 [Bs b] [] fun r h => r = .tuple [.ptr 0 0, nilE] ∧ h = [(0, .cells [.st (.sl 4 (l0.map rowN))])] := by
  have hN := rnum_ok b ⟨0, false⟩ hb (Nat.zero_le _)
  have hle := numR_le (b := b) (s := ⟨0, false⟩) (Nat.zero_le _)
  simp only [getR] at hgr
  generalize numR b ⟨0, false⟩ = r0 at *
  obtain ⟨n, s0⟩ := r0
  simp only at *
  have hlb : (List.map rowB b).length = b.length := List.length_map _
  refine fnC lay_ok func7 rfl rfl rfl rfl rfl ?_
  repeat' first | refine wr (by omega) ?_ | refine ln ?_ | refine stp lay_ok rfl ?_ | refine fin ?_ | refine n_thn ?_ | refine n_blk ?_ | refine e_thn ?_ | refine e_hit ?_ | refine e_miss rfl ?_ | refine r_thn ?_ | refine r_blk ?_ | refine e_rr ?_ | refine r_rr ?_ | refine e_cr ?_ | refine r_cr ?_ | refine .seq ?_ | refine reg ?_ | refine .block ?_ | refine .skip ?_ | refine .ret ?_ | refine .exit ?_ | refine cndT rfl ?_ | refine cndF rfl ?_ | refine c_dec rfl (fun hc => ?_) (fun hc => ?_) | refine c_ndec rfl (fun hc => ?_) (fun hc => ?_) | refine cnd rfl (fun hc => ?_) (fun hc => ?_) | ((first | refine o_none rfl ?_ | refine o_none_ ?_ | refine o_yes rfl rfl rfl ?_ | refine o_yes_ rfl rfl ?_); first | refine st_callF 0 (hN) b20 rfl rfl rfl rfl rfl rfl (by (repeat' first | exact trivial | refine And.intro ?_ ?_ | rfl); first | done | fail) rfl ?_) | refine gd rfl rfl rfl (fun hg => ?_) (fun hg => ?_) | refine gn rfl rfl rfl (fun hg => ?_) (fun hg => ?_)
  refine CodeOk.wk (Wk.nilT 4 5 rfl rfl) (Nat.le_succ _) ?_
  refine nrm rfl rfl ?_
  refine lpR (fun (s, l, f) => s.at_ ≤ b.length ∧ l.length + f ≤ 65536 ∧ snapsR b n s0 [] = snapsR b f s l ∧ (∀ e ∈ l, e.red)) (fun (s, l, f) => f) (fun (s, l, f) => [(6, I f), (5, .lsl 2 4 0 (l.map rowN).length)]) (fun (s, l, f) => [(0, rcell b s), (2, .arr 4 (l.map rowN))]) ((s0, [], n)) [0, 4] [0] [1] rfl rfl rfl (.of [1] (by (repeat' first | exact trivial | refine And.intro ?_ ?_ | rfl); first | done | fail) (by (repeat' first | exact trivial | refine And.intro ?_ ?_ | rfl); first | done | fail) rfl) ?_ ?_
  · exact ⟨hle.1, by simp; omega, rfl, fun e he => by cases he⟩
  rintro ⟨⟨q, bad⟩, l, f⟩ ⟨g1, g2, g3, g4⟩
  refine nrm rfl rfl ?_
  rw [g3] at hgr ⊢
  clear g3
  have hm : (List.map rowN l).length = l.length := List.length_map _
  cases f with
  | zero =>
    rw [snapsR] at hgr
    simp only at hgr
    cases bad with
    | true => simp at hgr
    | false =>
      by_cases hq : q < b.length
      · simp [hq] at hgr
      · simp only [Bool.false_or, decide_eq_true_eq, if_neg hq] at hgr
        have hfb : fromB l = true := by
          cases h : fromB l with
          | true => rfl
          | false => rw [h] at hgr; simp at hgr
        rw [hfb, if_pos rfl] at hgr
        cases hgr
        have hfr := from_ok l0 (by simp only [Nat.add_zero] at g2; omega) (fun s hs => (g4 s hs).fit) hfb
        repeat' first | refine o_frzA (f := 13) rfl rfl rfl rfl (by (repeat' first | exact trivial | refine And.intro ?_ ?_ | rfl); first | done | fail) (by (repeat' first | exact trivial | refine And.intro ?_ ?_ | rfl); first | done | fail) rfl rfl ?_ | refine wr (by omega) ?_ | refine ln ?_ | refine stp lay_ok rfl ?_ | refine fin ?_ | refine n_thn ?_ | refine n_blk ?_ | refine e_thn ?_ | refine e_hit ?_ | refine e_miss rfl ?_ | refine r_thn ?_ | refine r_blk ?_ | refine e_rr ?_ | refine r_rr ?_ | refine e_cr ?_ | refine r_cr ?_ | refine .seq ?_ | refine reg ?_ | refine .block ?_ | refine .skip ?_ | refine .ret ?_ | refine .exit ?_ | refine cndT rfl ?_ | refine cndF rfl ?_ | refine c_dec rfl (fun hc => ?_) (fun hc => ?_) | refine c_ndec rfl (fun hc => ?_) (fun hc => ?_) | refine cnd rfl (fun hc => ?_) (fun hc => ?_) | ((first | refine o_none rfl ?_ | refine o_none_ ?_ | refine o_yes rfl rfl rfl ?_ | refine o_yes_ rfl rfl ?_); first | refine st_callF 1 (hfr) b13 rfl rfl rfl rfl rfl rfl (by (repeat' first | exact trivial | refine And.intro ?_ ?_ | rfl); first | done | fail) rfl ?_) | refine gd rfl rfl rfl (fun hg => ?_) (fun hg => ?_) | refine gn rfl rfl rfl (fun hg => ?_) (fun hg => ?_)
        all_goals first
          | (exfalso; simp only at *; omega)
          | (refine f_end (n0 := 1) (t'' := [(2, .ptr 0 0), (3, nilE)]) (h'' := [(0, .cells [.st (.sl 4 (l0.map rowN))])]) (WkR.of [3] (by (repeat' first | exact trivial | refine And.intro ?_ ?_ | rfl); first | done | fail) (by (repeat' first | exact trivial | refine And.intro ?_ ?_ | rfl); first | done | fail) rfl) rfl rfl ⟨?_, rfl⟩; rfl)
  | succ f =>
    cases bad with
    | true =>
      rw [snapsR, if_pos rfl] at hgr
      simp at hgr
    | false =>
      simp only [snapsR, if_neg (show ¬ (false = true) by simp)] at hgr
      rw [snapsR, if_neg (by simp)]
      have hE := rsnap_ok b ⟨q, false⟩ hb g1
      have hle := snapR_le (s := ⟨q, false⟩) g1
      generalize snapR b ⟨q, false⟩ = r1 at *
      obtain ⟨x, s1⟩ := r1
      simp only at *
      have hr : List.map rowN l ++ [rowN x] = List.map rowN (l ++ [x]) := by rw [List.map_append]; rfl
      repeat' first | refine wr (by omega) ?_ | refine ln ?_ | refine stp lay_ok rfl ?_ | refine fin ?_ | refine n_thn ?_ | refine n_blk ?_ | refine e_thn ?_ | refine e_hit ?_ | refine e_miss rfl ?_ | refine r_thn ?_ | refine r_blk ?_ | refine e_rr ?_ | refine r_rr ?_ | refine e_cr ?_ | refine r_cr ?_ | refine .seq ?_ | refine reg ?_ | refine .block ?_ | refine .skip ?_ | refine .ret ?_ | refine .exit ?_ | refine cndT rfl ?_ | refine cndF rfl ?_ | refine c_dec rfl (fun hc => ?_) (fun hc => ?_) | refine c_ndec rfl (fun hc => ?_) (fun hc => ?_) | refine cnd rfl (fun hc => ?_) (fun hc => ?_) | ((first | refine o_none rfl ?_ | refine o_none_ ?_ | refine o_yes rfl rfl rfl ?_ | refine o_yes_ rfl rfl ?_); first | refine st_callF 0 (hE) b21 rfl rfl rfl rfl rfl rfl (by (repeat' first | exact trivial | refine And.intro ?_ ?_ | rfl); first | done | fail) rfl ?_ | refine st_append lay_ok rfl rfl rfl rfl rfl rfl rfl rfl (.lsl rfl rfl) (.sl (rows := [rowN x])) rfl (rowN_one (b := [x])) (by simp only [List.length_cons, List.length_nil]; omega) (by simp only [List.length_cons, List.length_nil]; omega) ?_) | refine gd rfl rfl rfl (fun hg => ?_) (fun hg => ?_) | refine gn rfl rfl rfl (fun hg => ?_) (fun hg => ?_)
      · rw [hr]
        refine n_rr ((s1, l ++ [x], f)) ?_ (.of [3] (by (repeat' first | exact trivial | refine And.intro ?_ ?_ | rfl | exact congrArg (fun z : Int => some (AV.st (.int .i64 z))) (show ((f + 1 : Nat) : Int) - 1 = (f : Int) by omega)); first | done | fail) (by (repeat' first | exact trivial | refine And.intro ?_ ?_ | rfl | exact congrArg (fun z : Int => some (AV.st (.int .i64 z))) (show ((f + 1 : Nat) : Int) - 1 = (f : Int) by omega)); first | done | fail) rfl) ?_
        · exact Nat.lt_succ_self _
        · refine ⟨hle.1, by show (l ++ [x]).length + f ≤ 65536; rw [List.length_append, List.length_singleton]; omega, rfl, fun e hm => ?_⟩
          rcases List.mem_append.1 hm with hm | hm
          · exact g4 e hm
          · rw [List.mem_singleton] at hm; subst hm; exact hle.2
      all_goals (exfalso; omega)
end Go.Proofs.YtgjoloaajocafaaDoorFn
