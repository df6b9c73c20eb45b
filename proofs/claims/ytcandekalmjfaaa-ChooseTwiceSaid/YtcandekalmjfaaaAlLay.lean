/- The layouts of the types that the code uses. -/
import Derived.Test.YtcandekalmjfaaaProg
import Derived.Test.YtcandekalmjfaaaAlK
set_option linter.all false
namespace Go.Proofs.Try
open Go.Proofs.YtcandekalmjfaaaAl
def lay : Lay :=
  [(2, ⟨(.int .i64), 1, false, true, (.int .i64 0)⟩),
   (3, ⟨(.int .i64), 1, false, true, (.int .i64 0)⟩),
   (4, ⟨.bool, 1, false, true, (.bool false)⟩),
   (5, ⟨(.int .u8), 1, false, true, (.int .u8 0)⟩),
   (6, ⟨(.int .u8), 1, false, true, (.int .u8 0)⟩),
   (7, ⟨(.struct ((0, 1) :: ((1, 1) :: ((2, 1) :: ((3, 1) :: []))))), 4, true, true, (.agg ((.int .i64 0) :: ((.int .i64 0) :: ((.bool false) :: ((.int .u8 0) :: [])))))⟩),
   (8, ⟨(.struct ((0, 1) :: ((1, 1) :: ((2, 1) :: ((3, 1) :: []))))), 4, true, true, (.agg ((.int .i64 0) :: ((.int .i64 0) :: ((.bool false) :: ((.int .u8 0) :: [])))))⟩),
   (9, ⟨.string, 1, false, true, (.str ⟨#[]⟩)⟩),
   (10, ⟨.string, 1, false, true, (.str ⟨#[]⟩)⟩),
   (11, ⟨.string, 1, false, true, (.str ⟨#[]⟩)⟩),
   (12, ⟨(.int .u64), 1, false, true, (.int .u64 0)⟩),
   (13, ⟨(.struct ((0, 1) :: ((1, 1) :: []))), 2, true, true, (.agg ((.str ⟨#[]⟩) :: ((.int .u64 0) :: [])))⟩),
   (14, ⟨(.struct ((0, 1) :: ((1, 1) :: []))), 2, true, true, (.agg ((.str ⟨#[]⟩) :: ((.int .u64 0) :: [])))⟩),
   (15, ⟨.ptr, 1, false, true, .nilptr⟩),
   (16, ⟨.ptr, 1, false, true, .nilptr⟩),
   (17, ⟨.ptr, 1, false, true, .nilptr⟩),
   (18, ⟨(.struct ((0, 1) :: [])), 1, true, true, (.agg (.nilptr :: []))⟩),
   (19, ⟨(.struct ((0, 1) :: [])), 1, true, true, (.agg (.nilptr :: []))⟩),
   (20, ⟨.iface, 1, false, true, .nilIface⟩),
   (21, ⟨(.int .i32), 1, false, true, (.int .i32 0)⟩),
   (22, ⟨(.slice 3 1 8), 1, false, false, .nilsl⟩),
   (23, ⟨(.struct ((0, 1) :: ((1, 1) :: ((2, 1) :: ((3, 1) :: []))))), 4, true, false, (.agg ((.int .i64 0) :: ((.int .i64 0) :: ((.str ⟨#[]⟩) :: (.nilsl :: [])))))⟩),
   (24, ⟨(.struct ((0, 1) :: ((1, 1) :: ((2, 1) :: ((3, 1) :: []))))), 4, true, false, (.agg ((.int .i64 0) :: ((.int .i64 0) :: ((.str ⟨#[]⟩) :: (.nilsl :: [])))))⟩),
   (27, ⟨(.slice 24 4 56), 1, false, false, .nilsl⟩),
   (28, ⟨(.slice 40 3 40), 1, false, false, .nilsl⟩),
   (29, ⟨(.struct ((0, 1) :: ((1, 1) :: ((2, 1) :: ((3, 1) :: ((4, 1) :: ((5, 1) :: ((6, 1) :: [])))))))), 7, true, false, (.agg ((.int .i64 0) :: ((.int .i64 0) :: ((.int .i64 0) :: ((.int .i64 0) :: ((.str ⟨#[]⟩) :: (.nilsl :: (.nilsl :: []))))))))⟩),
   (30, ⟨(.struct ((0, 1) :: ((1, 1) :: ((2, 1) :: ((3, 1) :: ((4, 1) :: ((5, 1) :: ((6, 1) :: [])))))))), 7, true, false, (.agg ((.int .i64 0) :: ((.int .i64 0) :: ((.int .i64 0) :: ((.int .i64 0) :: ((.str ⟨#[]⟩) :: (.nilsl :: (.nilsl :: []))))))))⟩),
   (34, ⟨(.slice 9 1 16), 1, false, false, .nilsl⟩),
   (39, ⟨(.struct ((0, 1) :: ((1, 1) :: ((2, 1) :: [])))), 3, true, false, (.agg ((.int .i64 0) :: ((.int .i64 0) :: (.nilsl :: []))))⟩),
   (40, ⟨(.struct ((0, 1) :: ((1, 1) :: ((2, 1) :: [])))), 3, true, false, (.agg ((.int .i64 0) :: ((.int .i64 0) :: (.nilsl :: []))))⟩),
   (49, ⟨.iface, 1, false, true, .nilIface⟩),
   (50, ⟨.iface, 1, false, true, .nilIface⟩),
   (53, ⟨(.int .i64), 1, false, true, (.int .i64 0)⟩),
   (58, ⟨(.map 3 60), 1, false, false, .nilmap⟩),
   (59, ⟨(.struct ((0, 1) :: ((1, 1) :: []))), 2, true, true, (.agg ((.int .i64 0) :: ((.str ⟨#[]⟩) :: [])))⟩),
   (60, ⟨(.struct ((0, 1) :: ((1, 1) :: []))), 2, true, true, (.agg ((.int .i64 0) :: ((.str ⟨#[]⟩) :: [])))⟩),
   (68, ⟨(.struct ((0, 1) :: ((1, 1) :: ((2, 1) :: ((3, 1) :: []))))), 4, true, true, (.agg (.nilptr :: (.nilptr :: (.nilptr :: ((.str ⟨#[]⟩) :: [])))))⟩),
   (69, ⟨(.struct ((0, 1) :: ((1, 1) :: ((2, 1) :: ((3, 1) :: []))))), 4, true, true, (.agg (.nilptr :: (.nilptr :: (.nilptr :: ((.str ⟨#[]⟩) :: [])))))⟩),
   (70, ⟨.other, 0, true, true, (.agg [])⟩),
   (71, ⟨(.struct ((0, 0) :: [])), 0, true, true, (.agg [])⟩),
   (72, ⟨(.struct ((0, 0) :: [])), 0, true, true, (.agg [])⟩),
   (74, ⟨(.int .u32), 1, false, true, (.int .u32 0)⟩),
   (75, ⟨(.int .u8), 1, false, true, (.int .u8 0)⟩),
   (76, ⟨(.int .u8), 1, false, true, (.int .u8 0)⟩),
   (78, ⟨.ptr, 1, false, true, .nilptr⟩),
   (79, ⟨(.int .i32), 1, false, true, (.int .i32 0)⟩),
   (80, ⟨(.int .i32), 1, false, true, (.int .i32 0)⟩),
   (81, ⟨(.struct ((0, 1) :: ((1, 1) :: ((2, 1) :: ((3, 1) :: ((4, 1) :: ((5, 1) :: ((6, 1) :: ((7, 1) :: ((8, 1) :: ((9, 1) :: ((10, 1) :: [])))))))))))), 11, true, false, (.agg ((.int .u64 0) :: ((.int .u64 0) :: ((.int .u32 0) :: ((.int .u8 0) :: ((.int .u8 0) :: ((.int .u8 0) :: ((.int .u8 0) :: (.nilFunc :: (.nilptr :: ((.int .i32 0) :: ((.int .i32 0) :: []))))))))))))⟩),
   (82, ⟨(.struct ((0, 1) :: ((1, 1) :: ((2, 1) :: ((3, 1) :: ((4, 1) :: ((5, 1) :: ((6, 1) :: ((7, 1) :: ((8, 1) :: ((9, 1) :: ((10, 1) :: [])))))))))))), 11, true, false, (.agg ((.int .u64 0) :: ((.int .u64 0) :: ((.int .u32 0) :: ((.int .u8 0) :: ((.int .u8 0) :: ((.int .u8 0) :: ((.int .u8 0) :: (.nilFunc :: (.nilptr :: ((.int .i32 0) :: ((.int .i32 0) :: []))))))))))))⟩),
   (83, ⟨.other, 1, false, true, .nilptr⟩)]
theorem lay_ok : LayOk prog lay := by
  have h : layOf prog [2, 3, 4, 5, 6, 7, 8, 9, 10, 11, 12, 13, 14, 15, 16, 17, 18, 19, 20, 21, 22, 23, 24, 27, 28, 29, 30, 34, 39, 40, 49, 50, 53, 58, 59, 60, 68, 69, 70, 71, 72, 74, 75, 76, 78, 79, 80, 81, 82, 83] = lay := by kernel_rfl
  rw [← h]
  exact layOf_ok _ _
end Go.Proofs.Try
