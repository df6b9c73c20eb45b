/- Texts that the law's proof uses: part 1. -/
import Derived.Test.YtohmbpcjapjkbaaGreatDoorProg
import Derived.Test.YtohmbpcjapjkbaaGreatDoorAlK
import Derived.Test.YtohmbpcjapjkbaaGreatDoorAlZg
import Derived.Test.YtohmbpcjapjkbaaGreatDoorChecked
import Derived.Test.YtohmbpcjapjkbaaGreatDoorAlZi
set_option linter.all false
namespace Go.Proofs.YtohmbpcjapjkbaaGreatDoorFn
open Go.Proofs.YtohmbpcjapjkbaaGreatDoorAl Go.Proofs.Tryz
def lay : Lay :=
  [(2, ⟨(.int .i64), 1, false, true, (.int .i64 0)⟩),
   (3, ⟨(.int .i64), 1, false, true, (.int .i64 0)⟩),
   (4, ⟨.bool, 1, false, true, (.bool false)⟩),
   (5, ⟨(.int .u8), 1, false, true, (.int .u8 0)⟩),
   (6, ⟨(.int .u8), 1, false, true, (.int .u8 0)⟩),
   (7, ⟨(.struct ((0, 1) :: ((1, 1) :: ((2, 1) :: ((3, 1) :: []))))), 4, true, true, (.agg ((.int .i64 0) :: ((.int .i64 0) :: ((.bool false) :: ((.int .u8 0) :: [])))))⟩),
   (8, ⟨(.struct ((0, 1) :: ((1, 1) :: ((2, 1) :: ((3, 1) :: []))))), 4, true, true, (.agg ((.int .i64 0) :: ((.int .i64 0) :: ((.bool false) :: ((.int .u8 0) :: [])))))⟩),
   (9, ⟨.string, 1, false, true, (.str ⟨#[]⟩)⟩),
   (10, ⟨.string, 1, false, true, (.str ⟨#[]⟩)⟩),
   (11, ⟨.string, 1, false, true, (.str ⟨#[]⟩)⟩),
   (12, ⟨(.int .u64), 1, false, true, (.int .u64 0)⟩),
   (13, ⟨(.struct ((0, 1) :: ((1, 1) :: []))), 2, true, true, (.agg ((.str ⟨#[]⟩) :: ((.int .u64 0) :: [])))⟩),
   (14, ⟨(.struct ((0, 1) :: ((1, 1) :: []))), 2, true, true, (.agg ((.str ⟨#[]⟩) :: ((.int .u64 0) :: [])))⟩),
   (15, ⟨.ptr, 1, false, true, .nilptr⟩),
   (16, ⟨.ptr, 1, false, true, .nilptr⟩),
   (17, ⟨.ptr, 1, false, true, .nilptr⟩),
   (18, ⟨(.struct ((0, 1) :: [])), 1, true, true, (.agg (.nilptr :: []))⟩),
   (19, ⟨(.struct ((0, 1) :: [])), 1, true, true, (.agg (.nilptr :: []))⟩),
   (20, ⟨.iface, 1, false, true, .nilIface⟩),
   (21, ⟨(.int .i32), 1, false, true, (.int .i32 0)⟩),
   (22, ⟨(.slice 9 1 16), 1, false, false, .nilsl⟩),
   (25, ⟨.ptr, 1, false, true, .nilptr⟩),
   (27, ⟨(.slice 54 3 48), 1, false, false, .nilsl⟩),
   (28, ⟨(.struct ((0, 1) :: ((1, 1) :: ((2, 1) :: ((3, 1) :: ((4, 1) :: [])))))), 5, true, false, (.agg ((.int .i64 0) :: ((.int .i64 0) :: (.nilsl :: (.nilsl :: (.nilsl :: []))))))⟩),
   (29, ⟨(.struct ((0, 1) :: ((1, 1) :: ((2, 1) :: ((3, 1) :: ((4, 1) :: [])))))), 5, true, false, (.agg ((.int .i64 0) :: ((.int .i64 0) :: (.nilsl :: (.nilsl :: (.nilsl :: []))))))⟩),
   (32, ⟨.ptr, 1, false, true, .nilptr⟩),
   (35, ⟨(.slice 103 4 56), 1, false, false, .nilsl⟩),
   (38, ⟨.ptr, 1, false, true, .nilptr⟩),
   (44, ⟨.ptr, 1, false, true, .nilptr⟩),
   (45, ⟨(.slice 3 1 8), 1, false, false, .nilsl⟩),
   (46, ⟨(.slice 29 5 88), 1, false, false, .nilsl⟩),
   (47, ⟨(.struct ((0, 1) :: ((1, 1) :: ((2, 1) :: ((3, 1) :: []))))), 4, true, false, (.agg (.nilptr :: (.nilsl :: (.nilsl :: (.nilsl :: [])))))⟩),
   (48, ⟨(.struct ((0, 1) :: ((1, 1) :: ((2, 1) :: ((3, 1) :: []))))), 4, true, false, (.agg (.nilptr :: (.nilsl :: (.nilsl :: (.nilsl :: [])))))⟩),
   (51, ⟨(.struct ((0, 1) :: [])), 1, true, false, (.agg (.nilsl :: []))⟩),
   (52, ⟨(.struct ((0, 1) :: [])), 1, true, false, (.agg (.nilsl :: []))⟩),
   (53, ⟨(.struct ((0, 1) :: ((1, 1) :: ((2, 1) :: [])))), 3, true, false, (.agg ((.str ⟨#[]⟩) :: ((.int .i64 0) :: (.nilsl :: []))))⟩),
   (54, ⟨(.struct ((0, 1) :: ((1, 1) :: ((2, 1) :: [])))), 3, true, false, (.agg ((.str ⟨#[]⟩) :: ((.int .i64 0) :: (.nilsl :: []))))⟩),
   (56, ⟨(.struct ((0, 1) :: ((1, 1) :: ((2, 1) :: ((3, 1) :: ((4, 1) :: [])))))), 5, true, false, (.agg ((.int .i64 0) :: ((.str ⟨#[]⟩) :: ((.str ⟨#[]⟩) :: (.nilsl :: ((.int .i64 0) :: []))))))⟩),
   (57, ⟨(.struct ((0, 1) :: ((1, 1) :: ((2, 1) :: ((3, 1) :: ((4, 1) :: [])))))), 5, true, false, (.agg ((.int .i64 0) :: ((.str ⟨#[]⟩) :: ((.str ⟨#[]⟩) :: (.nilsl :: ((.int .i64 0) :: []))))))⟩),
   (58, ⟨(.slice 62 6 80), 1, false, false, .nilsl⟩),
   (59, ⟨(.slice 5 1 1), 1, false, false, .nilsl⟩),
   (61, ⟨(.struct ((0, 1) :: ((1, 5) :: []))), 6, true, false, (.agg ((.int .i64 0) :: ((.int .i64 0) :: ((.str ⟨#[]⟩) :: ((.str ⟨#[]⟩) :: (.nilsl :: ((.int .i64 0) :: [])))))))⟩),
   (62, ⟨(.struct ((0, 1) :: ((1, 5) :: []))), 6, true, false, (.agg ((.int .i64 0) :: ((.int .i64 0) :: ((.str ⟨#[]⟩) :: ((.str ⟨#[]⟩) :: (.nilsl :: ((.int .i64 0) :: [])))))))⟩),
   (63, ⟨.iface, 1, false, true, .nilIface⟩),
   (64, ⟨.iface, 1, false, true, .nilIface⟩),
   (70, ⟨(.slice 79 7 104), 1, false, false, .nilsl⟩),
   (72, ⟨(.slice 22 1 24), 1, false, false, .nilsl⟩),
   (73, ⟨(.struct ((0, 1) :: ((1, 1) :: ((2, 5) :: [])))), 7, true, false, (.agg ((.int .i64 0) :: ((.int .i64 0) :: ((.int .i64 0) :: ((.str ⟨#[]⟩) :: ((.str ⟨#[]⟩) :: (.nilsl :: ((.int .i64 0) :: []))))))))⟩),
   (74, ⟨(.struct ((0, 1) :: ((1, 1) :: ((2, 5) :: [])))), 7, true, false, (.agg ((.int .i64 0) :: ((.int .i64 0) :: ((.int .i64 0) :: ((.str ⟨#[]⟩) :: ((.str ⟨#[]⟩) :: (.nilsl :: ((.int .i64 0) :: []))))))))⟩),
   (78, ⟨(.struct ((0, 1) :: ((1, 1) :: ((2, 5) :: [])))), 7, true, false, (.agg ((.int .i64 0) :: ((.int .i64 0) :: ((.int .i64 0) :: ((.int .i64 0) :: (.nilsl :: (.nilsl :: (.nilsl :: []))))))))⟩),
   (79, ⟨(.struct ((0, 1) :: ((1, 1) :: ((2, 5) :: [])))), 7, true, false, (.agg ((.int .i64 0) :: ((.int .i64 0) :: ((.int .i64 0) :: ((.int .i64 0) :: (.nilsl :: (.nilsl :: (.nilsl :: []))))))))⟩),
   (93, ⟨(.struct ((0, 1) :: ((1, 5) :: []))), 6, true, false, (.agg ((.int .i64 0) :: ((.int .i64 0) :: ((.int .i64 0) :: (.nilsl :: (.nilsl :: (.nilsl :: [])))))))⟩),
   (94, ⟨(.struct ((0, 1) :: ((1, 5) :: []))), 6, true, false, (.agg ((.int .i64 0) :: ((.int .i64 0) :: ((.int .i64 0) :: (.nilsl :: (.nilsl :: (.nilsl :: [])))))))⟩),
   (95, ⟨.other, 48, true, false, (.agg ((.int .i64 0) :: ((.int .i64 0) :: ((.int .i64 0) :: (.nilsl :: (.nilsl :: (.nilsl :: ((.int .i64 0) :: ((.int .i64 0) :: ((.int .i64 0) :: (.nilsl :: (.nilsl :: (.nilsl :: ((.int .i64 0) :: ((.int .i64 0) :: ((.int .i64 0) :: (.nilsl :: (.nilsl :: (.nilsl :: ((.int .i64 0) :: ((.int .i64 0) :: ((.int .i64 0) :: (.nilsl :: (.nilsl :: (.nilsl :: ((.int .i64 0) :: ((.int .i64 0) :: ((.int .i64 0) :: (.nilsl :: (.nilsl :: (.nilsl :: ((.int .i64 0) :: ((.int .i64 0) :: ((.int .i64 0) :: (.nilsl :: (.nilsl :: (.nilsl :: ((.int .i64 0) :: ((.int .i64 0) :: ((.int .i64 0) :: (.nilsl :: (.nilsl :: (.nilsl :: ((.int .i64 0) :: ((.int .i64 0) :: ((.int .i64 0) :: (.nilsl :: (.nilsl :: (.nilsl :: [])))))))))))))))))))))))))))))))))))))))))))))))))⟩),
   (96, ⟨(.struct ((0, 1) :: ((1, 48) :: ((49, 1) :: [])))), 50, true, false, (.agg (.nilptr :: ((.int .i64 0) :: ((.int .i64 0) :: ((.int .i64 0) :: (.nilsl :: (.nilsl :: (.nilsl :: ((.int .i64 0) :: ((.int .i64 0) :: ((.int .i64 0) :: (.nilsl :: (.nilsl :: (.nilsl :: ((.int .i64 0) :: ((.int .i64 0) :: ((.int .i64 0) :: (.nilsl :: (.nilsl :: (.nilsl :: ((.int .i64 0) :: ((.int .i64 0) :: ((.int .i64 0) :: (.nilsl :: (.nilsl :: (.nilsl :: ((.int .i64 0) :: ((.int .i64 0) :: ((.int .i64 0) :: (.nilsl :: (.nilsl :: (.nilsl :: ((.int .i64 0) :: ((.int .i64 0) :: ((.int .i64 0) :: (.nilsl :: (.nilsl :: (.nilsl :: ((.int .i64 0) :: ((.int .i64 0) :: ((.int .i64 0) :: (.nilsl :: (.nilsl :: (.nilsl :: ((.int .i64 0) :: ((.int .i64 0) :: ((.int .i64 0) :: (.nilsl :: (.nilsl :: (.nilsl :: (.nilsl :: [])))))))))))))))))))))))))))))))))))))))))))))))))))⟩),
   (97, ⟨(.struct ((0, 1) :: ((1, 48) :: ((49, 1) :: [])))), 50, true, false, (.agg (.nilptr :: ((.int .i64 0) :: ((.int .i64 0) :: ((.int .i64 0) :: (.nilsl :: (.nilsl :: (.nilsl :: ((.int .i64 0) :: ((.int .i64 0) :: ((.int .i64 0) :: (.nilsl :: (.nilsl :: (.nilsl :: ((.int .i64 0) :: ((.int .i64 0) :: ((.int .i64 0) :: (.nilsl :: (.nilsl :: (.nilsl :: ((.int .i64 0) :: ((.int .i64 0) :: ((.int .i64 0) :: (.nilsl :: (.nilsl :: (.nilsl :: ((.int .i64 0) :: ((.int .i64 0) :: ((.int .i64 0) :: (.nilsl :: (.nilsl :: (.nilsl :: ((.int .i64 0) :: ((.int .i64 0) :: ((.int .i64 0) :: (.nilsl :: (.nilsl :: (.nilsl :: ((.int .i64 0) :: ((.int .i64 0) :: ((.int .i64 0) :: (.nilsl :: (.nilsl :: (.nilsl :: ((.int .i64 0) :: ((.int .i64 0) :: ((.int .i64 0) :: (.nilsl :: (.nilsl :: (.nilsl :: (.nilsl :: [])))))))))))))))))))))))))))))))))))))))))))))))))))⟩),
   (102, ⟨(.struct ((0, 1) :: ((1, 1) :: ((2, 1) :: ((3, 1) :: []))))), 4, true, false, (.agg ((.int .i64 0) :: ((.str ⟨#[]⟩) :: ((.bool false) :: (.nilsl :: [])))))⟩),
   (103, ⟨(.struct ((0, 1) :: ((1, 1) :: ((2, 1) :: ((3, 1) :: []))))), 4, true, false, (.agg ((.int .i64 0) :: ((.str ⟨#[]⟩) :: ((.bool false) :: (.nilsl :: [])))))⟩),
   (106, ⟨(.struct ((0, 1) :: [])), 1, true, false, (.agg (.nilsl :: []))⟩),
   (107, ⟨(.struct ((0, 1) :: [])), 1, true, false, (.agg (.nilsl :: []))⟩),
   (111, ⟨(.int .i64), 1, false, true, (.int .i64 0)⟩),
   (121, ⟨.ptr, 1, false, true, .nilptr⟩),
   (122, ⟨(.struct ((0, 1) :: ((1, 1) :: ((2, 1) :: [])))), 3, true, false, (.agg (.nilsl :: ((.int .i64 0) :: ((.bool false) :: []))))⟩),
   (123, ⟨(.struct ((0, 1) :: ((1, 1) :: ((2, 1) :: [])))), 3, true, false, (.agg (.nilsl :: ((.int .i64 0) :: ((.bool false) :: []))))⟩),
   (125, ⟨.ptr, 1, false, true, .nilptr⟩),
   (126, ⟨(.struct ((0, 1) :: ((1, 1) :: ((2, 1) :: [])))), 3, true, false, (.agg (.nilsl :: ((.int .i64 0) :: ((.bool false) :: []))))⟩),
   (127, ⟨(.struct ((0, 1) :: ((1, 1) :: ((2, 1) :: [])))), 3, true, false, (.agg (.nilsl :: ((.int .i64 0) :: ((.bool false) :: []))))⟩),
   (129, ⟨(.int .u64), 1, false, true, (.int .u64 0)⟩),
   (135, ⟨(.map 137 29), 1, false, false, .nilmap⟩),
   (136, ⟨(.struct ((0, 1) :: ((1, 1) :: []))), 2, true, true, (.agg ((.int .i64 0) :: ((.int .i64 0) :: [])))⟩),
   (137, ⟨(.struct ((0, 1) :: ((1, 1) :: []))), 2, true, true, (.agg ((.int .i64 0) :: ((.int .i64 0) :: [])))⟩),
   (140, ⟨.ptr, 1, false, true, .nilptr⟩),
   (141, ⟨(.struct ((0, 1) :: ((1, 1) :: ((2, 1) :: [])))), 3, true, false, (.agg (.nilsl :: ((.int .i64 0) :: ((.bool false) :: []))))⟩),
   (142, ⟨(.struct ((0, 1) :: ((1, 1) :: ((2, 1) :: [])))), 3, true, false, (.agg (.nilsl :: ((.int .i64 0) :: ((.bool false) :: []))))⟩),
   (149, ⟨(.map 9 4), 1, false, false, .nilmap⟩),
   (156, ⟨.ptr, 1, false, true, .nilptr⟩),
   (188, ⟨.ptr, 1, false, true, .nilptr⟩),
   (189, ⟨(.struct ((0, 1) :: ((1, 1) :: []))), 2, true, false, (.agg (.nilptr :: (.nilsl :: [])))⟩),
   (190, ⟨(.struct ((0, 1) :: ((1, 1) :: []))), 2, true, false, (.agg (.nilptr :: (.nilsl :: [])))⟩),
   (196, ⟨(.int .u64), 1, false, true, (.int .u64 0)⟩),
   (205, ⟨.ptr, 1, false, true, .nilptr⟩),
   (206, ⟨(.struct ((0, 1) :: ((1, 1) :: []))), 2, true, true, (.agg ((.int .i64 0) :: (.nilIface :: [])))⟩),
   (207, ⟨(.struct ((0, 1) :: ((1, 1) :: []))), 2, true, true, (.agg ((.int .i64 0) :: (.nilIface :: [])))⟩),
   (211, ⟨.ptr, 1, false, true, .nilptr⟩),
   (213, ⟨(.int .i64), 1, false, true, (.int .i64 0)⟩),
   (220, ⟨(.int .u32), 1, false, true, (.int .u32 0)⟩),
   (229, ⟨.other, 1, false, true, .nilptr⟩),
   (231, ⟨(.int .u64), 1, false, true, (.int .u64 0)⟩),
   (235, ⟨.ptr, 1, false, true, .nilptr⟩),
   (245, ⟨.ptr, 1, false, true, .nilptr⟩),
   (255, ⟨(.struct ((0, 1) :: ((1, 1) :: []))), 2, true, true, (.agg ((.int .u8 0) :: ((.int .u8 0) :: [])))⟩),
   (256, ⟨(.struct ((0, 1) :: ((1, 1) :: []))), 2, true, true, (.agg ((.int .u8 0) :: ((.int .u8 0) :: [])))⟩),
   (257, ⟨.other, 32, true, true, (.agg ((.int .u8 0) :: ((.int .u8 0) :: ((.int .u8 0) :: ((.int .u8 0) :: ((.int .u8 0) :: ((.int .u8 0) :: ((.int .u8 0) :: ((.int .u8 0) :: ((.int .u8 0) :: ((.int .u8 0) :: ((.int .u8 0) :: ((.int .u8 0) :: ((.int .u8 0) :: ((.int .u8 0) :: ((.int .u8 0) :: ((.int .u8 0) :: ((.int .u8 0) :: ((.int .u8 0) :: ((.int .u8 0) :: ((.int .u8 0) :: ((.int .u8 0) :: ((.int .u8 0) :: ((.int .u8 0) :: ((.int .u8 0) :: ((.int .u8 0) :: ((.int .u8 0) :: ((.int .u8 0) :: ((.int .u8 0) :: ((.int .u8 0) :: ((.int .u8 0) :: ((.int .u8 0) :: ((.int .u8 0) :: [])))))))))))))))))))))))))))))))))⟩),
   (258, ⟨(.struct ((0, 1) :: ((1, 1) :: ((2, 1) :: ((3, 1) :: []))))), 4, true, true, (.agg (.nilptr :: (.nilptr :: (.nilptr :: ((.str ⟨#[]⟩) :: [])))))⟩),
   (259, ⟨(.struct ((0, 1) :: ((1, 1) :: ((2, 1) :: ((3, 1) :: []))))), 4, true, true, (.agg (.nilptr :: (.nilptr :: (.nilptr :: ((.str ⟨#[]⟩) :: [])))))⟩),
   (260, ⟨.other, 0, true, true, (.agg [])⟩),
   (261, ⟨(.struct ((0, 0) :: [])), 0, true, true, (.agg [])⟩),
   (262, ⟨(.struct ((0, 0) :: [])), 0, true, true, (.agg [])⟩),
   (263, ⟨(.int .u8), 1, false, true, (.int .u8 0)⟩),
   (264, ⟨(.int .u8), 1, false, true, (.int .u8 0)⟩),
   (266, ⟨(.int .i32), 1, false, true, (.int .i32 0)⟩),
   (267, ⟨(.int .i32), 1, false, true, (.int .i32 0)⟩),
   (268, ⟨(.struct ((0, 1) :: ((1, 1) :: ((2, 1) :: ((3, 1) :: ((4, 1) :: ((5, 1) :: ((6, 1) :: ((7, 1) :: ((8, 1) :: ((9, 1) :: ((10, 1) :: [])))))))))))), 11, true, false, (.agg ((.int .u64 0) :: ((.int .u64 0) :: ((.int .u32 0) :: ((.int .u8 0) :: ((.int .u8 0) :: ((.int .u8 0) :: ((.int .u8 0) :: (.nilFunc :: (.nilptr :: ((.int .i32 0) :: ((.int .i32 0) :: []))))))))))))⟩),
   (269, ⟨(.struct ((0, 1) :: ((1, 1) :: ((2, 1) :: ((3, 1) :: ((4, 1) :: ((5, 1) :: ((6, 1) :: ((7, 1) :: ((8, 1) :: ((9, 1) :: ((10, 1) :: [])))))))))))), 11, true, false, (.agg ((.int .u64 0) :: ((.int .u64 0) :: ((.int .u32 0) :: ((.int .u8 0) :: ((.int .u8 0) :: ((.int .u8 0) :: ((.int .u8 0) :: (.nilFunc :: (.nilptr :: ((.int .i32 0) :: ((.int .i32 0) :: []))))))))))))⟩)]
theorem lay_ok : LayOk prog lay := by
  have h : layOf prog [2, 3, 4, 5, 6, 7, 8, 9, 10, 11, 12, 13, 14, 15, 16, 17, 18, 19, 20, 21, 22, 25, 27, 28, 29, 32, 35, 38, 44, 45, 46, 47, 48, 51, 52, 53, 54, 56, 57, 58, 59, 61, 62, 63, 64, 70, 72, 73, 74, 78, 79, 93, 94, 95, 96, 97, 102, 103, 106, 107, 111, 121, 122, 123, 125, 126, 127, 129, 135, 136, 137, 140, 141, 142, 149, 156, 188, 189, 190, 196, 205, 206, 207, 211, 213, 220, 229, 231, 235, 245, 255, 256, 257, 258, 259, 260, 261, 262, 263, 264, 266, 267, 268, 269] = lay := by kernel_rfl
  rw [← h]
  exact layOf_ok _ _
end Go.Proofs.YtohmbpcjapjkbaaGreatDoorFn
namespace Go.Proofs.YtohmbpcjapjkbaaGreatDoorFn
open Go.Proofs.YtohmbpcjapjkbaaGreatDoorAl Go.Proofs.Tryz
attribute [local irreducible] IntKind.wrap CodeOk OpsL OpG ACalls thn inBlk rndR cutR WkR Wk fnR DW ExtOk
abbrev I (n : Int) : AV := .st (.int .i64 n)
abbrev B (b : Bool) : AV := .st (.bool b)
abbrev Sx (s : ByteArray) : AV := .st (.str s)
abbrev nilE : AV := .st .nilIface
abbrev errE (n : Int) : AV := .st (.iface 111 (.int .i64 n))
theorem mixed : prog.follows .mixedOrders = true := Tryz.checked.mixed
theorem b208 : HasBody prog 208 := ⟨f208, func208, Option.some_ne_none _, by decide⟩
theorem b183 : HasBody prog 183 := ⟨f183, func183, Option.some_ne_none _, by decide⟩
theorem b155 : HasBody prog 155 := ⟨f155, func155, Option.some_ne_none _, by decide⟩
theorem b217 : HasBody prog 217 := ⟨f217, func217, Option.some_ne_none _, by decide⟩
theorem b206 : HasBody prog 206 := ⟨f206, func206, Option.some_ne_none _, by decide⟩
theorem b180 : HasBody prog 180 := ⟨f180, func180, Option.some_ne_none _, by decide⟩
theorem b122 : HasBody prog 122 := ⟨f122, func122, Option.some_ne_none _, by decide⟩
theorem b198 : HasBody prog 198 := ⟨f198, func198, Option.some_ne_none _, by decide⟩
theorem b164 : HasBody prog 164 := ⟨f164, func164, Option.some_ne_none _, by decide⟩
theorem x_index (s : ByteArray) (m : Int) : ExtOk prog 218 [Sx s, .st (.int .u8 m)] (.int .i64 (Lib.indexByte s.data.toList m.toNat.toUInt8)) :=
  ext_index func218 rfl (by decide) (by kernel_rfl) (by kernel_rfl) s m
theorem x_count (s : ByteArray) (m : Int) : ExtOk prog 223 [Sx s, .st (.int .u8 m)] (.int .i64 (Lib.countByte s.data.toList m.toNat.toUInt8)) :=
  ext_count func223 rfl (by decide) (by kernel_rfl) (by kernel_rfl) s m
theorem slIndexByte_ok (s : ByteArray) (m : Int) : ACalls prog 208 0 [Sx s, .st (.int .u8 m)] [] fun r h => r = I (Lib.indexByte s.data.toList m.toNat.toUInt8) ∧ h = [] := by
  refine fnC lay_ok func208 rfl rfl rfl rfl rfl ?_
  repeat' first | refine stp lay_ok rfl ?_ | refine fin ?_ | refine n_thn ?_ | refine .seq ?_ | refine reg ?_ | refine .ret ?_ | (refine o_none rfl ?_; refine st_ext (x_index _ _) rfl ?_) | fail
  refine f_r [] rfl trivial rfl ⟨?_, rfl⟩; rfl
abbrev slash : ByteArray := ⟨#[47]⟩
theorem slash0 : slash[(0 : Int).toNat]? = some 47 := rfl
/-- The place of the first slash. -/
abbrev slAt (s : ByteArray) : Int := Lib.indexByte s.data.toList 47
theorem slIndex_ok (s : ByteArray) : ACalls prog 183 0 [Sx s, Sx slash] [] fun r h => r = I (slAt s) ∧ h = [] := by
  refine fnC lay_ok func183 rfl rfl rfl rfl rfl ?_
  have h1 := slIndexByte_ok s 47
  repeat' first | refine stp lay_ok rfl ?_ | refine fin ?_ | refine n_thn ?_ | refine r_thn ?_ | refine r_blk ?_ | refine .seq ?_ | refine reg ?_ | refine .block ?_ | refine .ret ?_ | refine cndT rfl ?_ | refine c_dec rfl (fun hc => ?_) (fun hc => ?_) | (refine o_none rfl ?_; (first | refine st_pure (h1) b208 rfl rfl rfl rfl ?_ | refine st_indexStr 47 lay_ok rfl rfl rfl rfl (by omega) slash0 ?_)) | fail
  · refine f_r [] rfl trivial rfl ⟨?_, rfl⟩; rw [← hc]; rfl
  · refine f_r [] rfl trivial rfl ⟨?_, rfl⟩; rfl
theorem index_ok (s : ByteArray) : ACalls prog 155 0 [Sx s, Sx slash] [] fun r h => r = I (slAt s) ∧ h = [] := by
  refine fnC lay_ok func155 rfl rfl rfl rfl rfl ?_
  have h1 := slIndex_ok s
  repeat' first | refine stp lay_ok rfl ?_ | refine fin ?_ | refine n_thn ?_ | refine .seq ?_ | refine reg ?_ | refine .ret ?_ | (refine o_none rfl ?_; refine st_pure (h1) b183 rfl rfl rfl rfl ?_) | fail
  refine f_r [] rfl trivial rfl ⟨?_, rfl⟩; rfl
theorem contains_ok (s : ByteArray) : ACalls prog 122 0 [Sx s, Sx slash] [] fun r h => r = B (decide (slAt s ≥ 0)) ∧ h = [] := by
  refine fnC lay_ok func122 rfl rfl rfl rfl rfl ?_
  have h1 := index_ok s
  repeat' first | refine stp lay_ok rfl ?_ | refine fin ?_ | refine n_thn ?_ | refine .seq ?_ | refine reg ?_ | refine .ret ?_ | (refine o_none rfl ?_; refine st_pure (h1) b155 rfl rfl rfl rfl ?_) | fail
  refine f_r [] rfl trivial rfl ⟨?_, rfl⟩; rfl
theorem count_ok (s : ByteArray) : ACalls prog 217 0 [Sx s, Sx slash] [] fun r h => r = I (Lib.countByte s.data.toList 47) ∧ h = [] := by
  refine fnC lay_ok func217 rfl rfl rfl rfl rfl ?_
  repeat' first | refine stp lay_ok rfl ?_ | refine fin ?_ | refine n_thn ?_ | refine r_thn ?_ | refine .seq ?_ | refine reg ?_ | refine .skip ?_ | refine .ret ?_ | refine cndT rfl ?_ | refine cndF rfl ?_ | (refine o_none rfl ?_; (first | refine st_indexStr 47 lay_ok rfl rfl rfl rfl (by omega) slash0 ?_ | refine st_ext (x_count _ _) rfl ?_)) | fail
  refine f_r [] rfl trivial rfl ⟨?_, rfl⟩; rfl
theorem slHasPrefix_ok (s p : ByteArray) : ACalls prog 198 0 [Sx s, Sx p] [] fun r h => r = B (decide (p.size ≤ s.size ∧ s.extract 0 p.size = p)) ∧ h = [] := by
  refine fnC lay_ok func198 rfl rfl rfl rfl rfl ?_
  by_cases hl : p.size ≤ s.size
  · repeat' first | refine stp lay_ok rfl ?_ | refine fin ?_ | refine n_thn ?_ | refine .seq ?_ | refine reg ?_ | refine .ret ?_ | (refine o_yes rfl rfl rfl ?_; refine st_subS 0 p.size lay_ok rfl rfl rfl rfl ⟨_, _, rfl, rfl⟩ (Nat.zero_le _) hl ?_) | refine gd rfl rfl rfl (fun hg => ?_) (fun hg => ?_) | fail
    · refine f_r [] rfl trivial rfl ⟨?_, rfl⟩; simp [retOf, hl]
    · omega
  · repeat' first | refine stp lay_ok rfl ?_ | refine fin ?_ | refine n_thn ?_ | refine .seq ?_ | refine reg ?_ | refine .ret ?_ | refine gd rfl rfl rfl (fun hg => ?_) (fun hg => ?_) | fail
    · omega
    · refine f_r [] rfl trivial rfl ⟨?_, rfl⟩; simp [retOf, hl]
theorem hasPrefix_ok (s p : ByteArray) : ACalls prog 164 0 [Sx s, Sx p] [] fun r h => r = B (decide (p.size ≤ s.size ∧ s.extract 0 p.size = p)) ∧ h = [] := by
  refine fnC lay_ok func164 rfl rfl rfl rfl rfl ?_
  have h1 := slHasPrefix_ok s p
  repeat' first | refine stp lay_ok rfl ?_ | refine fin ?_ | refine n_thn ?_ | refine .seq ?_ | refine reg ?_ | refine .ret ?_ | (refine o_none rfl ?_; refine st_pure (h1) b198 rfl rfl rfl rfl ?_) | fail
  refine f_r [] rfl trivial rfl ⟨?_, rfl⟩; rfl

/-! ### cut at the slashes -/
def spl : List UInt8 → List (List UInt8)
  | [] => [[]]
  | b :: r => if b = 47 then [] :: spl r else match spl r with
    | [] => [[b]]
    | h :: t => (b :: h) :: t
theorem spl_ne : ∀ l, spl l ≠ []
  | [] => by simp [spl]
  | b :: r => by
    simp only [spl]
    split
    · simp
    · split <;> simp
theorem idx_neg : ∀ {l : List UInt8}, Lib.indexByte l 47 < 0 → spl l = [l] ∧ l.count 47 = 0
  | [], _ => by simp [spl]
  | b :: r, h => by
    simp only [Lib.indexByte] at h
    by_cases hb : b = 47
    · subst hb; simp at h
    · have hb' : (b == 47) = false := by simpa using hb
      rw [hb'] at h
      simp only [Bool.false_eq_true, if_false] at h
      have hr : Lib.indexByte r 47 < 0 := by
        have := Lib.indexByte_ge r 47
        split at h
        · rename_i e; simp only [beq_iff_eq] at e; omega
        · omega
      obtain ⟨h1, h2⟩ := idx_neg hr
      refine ⟨?_, ?_⟩
      · simp only [spl, hb, if_false, h1]
      · rw [List.count_cons_of_ne (by simpa using hb)]; exact h2
theorem idx_pos : ∀ {l : List UInt8} {m : Nat}, Lib.indexByte l 47 = m → m < l.length ∧ spl l = l.take m :: spl (l.drop (m + 1)) ∧ l.count 47 = (l.drop (m + 1)).count 47 + 1
  | [], m, h => by simp only [Lib.indexByte] at h; omega
  | b :: r, m, h => by
    simp only [Lib.indexByte] at h
    by_cases hb : b = 47
    · subst hb
      simp at h
      have : m = 0 := by omega
      subst this
      exact ⟨by simp, by simp [spl], by simp⟩
    · have hb' : (b == 47) = false := by simpa using hb
      rw [hb'] at h
      simp only [Bool.false_eq_true, if_false] at h
      have hge := Lib.indexByte_ge r 47
      split at h
      · omega
      · rename_i hne
        have hne : Lib.indexByte r 47 ≠ -1 := by simpa using hne
        obtain ⟨k, hk⟩ : ∃ k : Nat, Lib.indexByte r 47 = k := ⟨(Lib.indexByte r 47).toNat, by omega⟩
        obtain ⟨h1, h2, h3⟩ := idx_pos hk
        have hm : m = k + 1 := by omega
        subst hm
        refine ⟨by simp; omega, ?_, ?_⟩
        · simp only [spl, hb, if_false, h2, List.take_succ_cons, List.drop_succ_cons]
        · rw [List.count_cons_of_ne (by simpa using hb), List.drop_succ_cons]; exact h3
/-- A path's parts. -/
def partsOf (s : ByteArray) : List ByteArray := (spl s.data.toList).map fun l => ⟨l.toArray⟩
theorem parts_neg {s : ByteArray} (h : slAt s < 0) : partsOf s = [s] := by
  unfold partsOf; rw [(idx_neg h).1]; rfl
theorem ext_list (s : ByteArray) (a b : Nat) : (s.extract a b).data.toList = (s.data.toList.take b).drop a := by
  rw [ByteArray.data_extract, Array.toList_extract, List.extract_eq_take_drop, List.drop_take]
theorem parts_pos {s : ByteArray} {m : Nat} (h : slAt s = m) : m < s.size ∧ partsOf s = s.extract 0 m :: partsOf (s.extract (m + 1) s.size) ∧ s.data.toList.count 47 = (s.extract (m + 1) s.size).data.toList.count 47 + 1 := by
  obtain ⟨h1, h2, h3⟩ := idx_pos h
  have hsz : s.data.toList.length = s.size := by rw [Array.length_toList]; rfl
  have e2 : (s.extract (m + 1) s.size).data.toList = s.data.toList.drop (m + 1) := by
    rw [ext_list, List.take_of_length_le (by omega)]
  refine ⟨by omega, ?_, by rw [e2]; exact h3⟩
  unfold partsOf
  rw [h2, e2, List.map_cons]
  congr 1
  have := ext_list s 0 m
  rw [List.drop_zero] at this
  rw [← this, Array.toArray_toList]
def rowS (s : ByteArray) : List SV := [.str s]
theorem one_s (s : ByteArray) : ∀ row ∈ [[SV.str s]], ∀ y ∈ row, SV.one y = true := by simp [SV.one]
theorem at_rowS {l : List ByteArray} {k : Nat} (h : k < l.length) : (l.map rowS)[((k : Nat) : Int).toNat]? = some (rowS l[k]) := by simp [h]
theorem parts_len (s : ByteArray) : (partsOf s).length = s.data.toList.count 47 + 1 := by
  unfold partsOf; rw [List.length_map]
  generalize s.data.toList = l
  induction l with
  | nil => rfl
  | cons b r ih =>
    simp only [spl]
    split
    · rename_i h; subst h; simp [ih]
    · rename_i h
      rw [List.count_cons_of_ne (by simpa using h)]
      have := spl_ne r
      cases hs : spl r with
      | nil => exact absurd hs this
      | cons x xs => rw [hs] at ih; simpa using ih
end Go.Proofs.YtohmbpcjapjkbaaGreatDoorFn
namespace Go.Proofs.YtohmbpcjapjkbaaGreatDoorFn
open Go.Proofs.YtohmbpcjapjkbaaGreatDoorAl Go.Proofs.Tryz
attribute [local irreducible] IntKind.wrap CodeOk OpsL OpG ACalls thn inBlk rndR cutR WkR Wk fnR DW ExtOk
theorem set_row (dn : List ByteArray) (k : Nat) (x : ByteArray) : ((dn.map rowS ++ List.replicate (k + 1) [SV.str ⟨#[]⟩]).set dn.length [.str x]) = (dn ++ [x]).map rowS ++ List.replicate k [SV.str ⟨#[]⟩] := by
  rw [List.set_append_right _ _ (by simp)]
  simp [List.replicate_succ, rowS]
set_option maxHeartbeats 1000000 in
theorem genSplit_ok (s : ByteArray) (hs : s.size ≤ 4000000000) : ACalls prog 206 0 [Sx s, Sx slash, I 0, I (-1)] [] fun r h => r = .st (.sl 1 ((partsOf s).map rowS)) ∧ h = [] := by
  refine fnC lay_ok func206 rfl rfl rfl rfl rfl ?_
  have hc := count_ok s
  have hcl : s.data.toList.count 47 ≤ s.size := by
    have := List.count_le_length (a := (47 : UInt8)) (l := s.data.toList)
    rwa [Array.length_toList] at this
  have hpl := parts_len s
  rw [show Lib.countByte s.data.toList 47 = s.data.toList.count 47 from rfl] at hc
  generalize s.data.toList.count 47 = c at hc hcl hpl
  have hmin : min ((c : Int) + 1) ((s.size : Int) + 1) = ((c + 1 : Nat) : Int) := by omega
  repeat' first | refine wr (by omega) ?_ | refine stp lay_ok rfl ?_ | refine fin ?_ | refine n_thn ?_ | refine .seq ?_ | refine reg ?_ | refine .skip ?_ | refine cndT rfl ?_ | refine cndF rfl ?_ | (refine o_none rfl ?_; (first | refine st_pure (hc) b217 rfl rfl rfl rfl ?_ | refine st_min rfl rfl ?_)) | fail
  rw [hmin]
  repeat' first | refine wr (by omega) ?_ | refine stp lay_ok rfl ?_ | refine fin ?_ | refine n_thn ?_ | refine .seq ?_ | refine reg ?_ | refine .block ?_ | (refine o_none rfl ?_; refine st_makeSlice lay_ok rfl rfl rfl rfl rfl rfl (by omega) (by omega) ?_) | fail
  rw [show (((c + 1 : Nat) : Int) - 1) = (c : Int) by omega]
  refine lpR (fun (i, dn, u) => i ≤ c ∧ dn.length = i ∧ partsOf s = dn ++ partsOf u ∧ i + u.data.toList.count 47 = c ∧ u.size ≤ s.size) (fun (i, dn, u) => c - i) (fun (i, dn, u) => [(0, Sx u), (10, I i)]) (fun (i, dn, u) => [(0, .arr 1 (dn.map rowS ++ List.replicate (c - i + 1) [SV.str ⟨#[]⟩]))]) ((0, [], s)) [1, 2, 3, 9] [0] [] rfl rfl rfl (.of [] (by (repeat' first | exact trivial | refine And.intro ?_ ?_ | rfl); first | done | fail) (by (repeat' first | exact trivial | refine And.intro ?_ ?_ | rfl); first | done | fail) rfl) ?_ ?_
  · have := parts_len s
    exact ⟨Nat.zero_le _, rfl, rfl, by omega, Nat.le_refl _⟩
  · rintro ⟨i, dn, u⟩ ⟨hi, hdl, hpa, hcu, hus⟩
    refine nrm rfl rfl ?_
    have hx := index_ok u
    have hlen : (dn.map rowS ++ List.replicate (c - i + 1) [SV.str ⟨#[]⟩]).length = c + 1 := by simp; omega
    have hrow : (dn.map rowS ++ List.replicate (c - i + 1) [SV.str ⟨#[]⟩])[0 + ((i : Nat) : Int).toNat]? = some [SV.str ⟨#[]⟩] := by
      rw [show 0 + ((i : Nat) : Int).toNat = i by omega, List.getElem?_append_right (by simp; omega)]
      simp [hdl]
    have hset : ∀ x : ByteArray, (dn.map rowS ++ List.replicate (c - i + 1) [SV.str ⟨#[]⟩]).set (0 + ((i : Nat) : Int).toNat) (putAt [SV.str ⟨#[]⟩] 0 [.str x]) = (dn ++ [x]).map rowS ++ List.replicate (c - i) [SV.str ⟨#[]⟩] := fun x => by
      rw [show 0 + ((i : Nat) : Int).toNat = dn.length by omega, ← set_row]; rfl
    have hsl : slash.size = 1 := rfl
    by_cases hic : i < c
    · have hpos : 0 ≤ slAt u := by
        rcases Int.lt_or_le (slAt u) 0 with h | h
        · have := (idx_neg h).2; omega
        · exact h
      obtain ⟨m, hm⟩ : ∃ m : Nat, slAt u = m := ⟨(slAt u).toNat, by omega⟩
      obtain ⟨p1, p2, p3⟩ := parts_pos hm
      rw [hm] at hx
      repeat' first | refine wr (by omega) ?_ | refine stp lay_ok rfl ?_ | refine fin ?_ | refine n_thn ?_ | refine n_blk ?_ | refine e_thn ?_ | refine e_hit ?_ | refine e_rr ?_ | refine .seq ?_ | refine reg ?_ | refine .block ?_ | refine .skip ?_ | refine .exit ?_ | refine cndF rfl ?_ | refine c_dec rfl (fun hc => ?_) (fun hc => ?_) | ((first | refine o_none rfl ?_ | refine o_none_ ?_); (first | refine st_pure (hx) b155 rfl rfl rfl rfl ?_ | refine st_subS 0 m lay_ok rfl rfl rfl rfl ⟨_, _, rfl, rfl⟩ (Nat.zero_le _) (by omega) ?_ | refine st_subS (m + 1) u.size lay_ok rfl rfl rfl ⟨_, _, rfl, rfl⟩ rfl (by omega) (Nat.le_refl _) ?_ | refine st_indexL lay_ok rfl rfl rfl rfl (by omega) (by omega) ?_)) | refine o_none_ (st_storeE lay_ok rfl rfl rfl hrow rfl rfl rfl rfl ?_) | fail
      · refine n_rr ((i + 1, dn ++ [u.extract 0 m], u.extract (m + 1) u.size)) ?_ (.of [] (by (repeat' first | exact trivial | refine And.intro ?_ ?_ | rfl | (rw [show c - (i + 1) + 1 = c - i by omega, ← hset]; rfl)); first | done | fail) (by (repeat' first | exact trivial | refine And.intro ?_ ?_ | rfl | (rw [show c - (i + 1) + 1 = c - i by omega, ← hset]; rfl)); first | done | fail) rfl) ?_
        · show c - (i + 1) < c - i; omega
        · refine ⟨hic, by simp [hdl], by rw [hpa, p2]; simp, by omega, ?_⟩
          rw [ByteArray.size_extract]; omega
      · omega
    · have hie : i = c := by omega
      subst hie
      have hneg : slAt u < 0 := by
        rcases Int.lt_or_le (slAt u) 0 with h | h
        · exact h
        · obtain ⟨m, hm⟩ : ∃ m : Nat, slAt u = m := ⟨(slAt u).toNat, by omega⟩
          have := (parts_pos hm).2.2; omega
      have hfin : (dn.map rowS ++ List.replicate (i - i + 1) [SV.str ⟨#[]⟩]).set (0 + ((i : Nat) : Int).toNat) (putAt [SV.str ⟨#[]⟩] 0 [.str u]) = (partsOf s).map rowS := by
        rw [hset, hpa, parts_neg hneg, Nat.sub_self]; simp
      repeat' first | refine wr (by omega) ?_ | refine stp lay_ok rfl ?_ | refine fin ?_ | refine n_thn ?_ | refine e_thn ?_ | refine e_hit ?_ | refine e_rr ?_ | refine .seq ?_ | refine reg ?_ | refine .block ?_ | refine .skip ?_ | refine .exit ?_ | refine c_dec rfl (fun hc => ?_) (fun hc => ?_) | ((first | refine o_none rfl ?_ | refine o_none_ ?_); refine st_indexL lay_ok rfl rfl rfl rfl (by omega) (by omega) ?_) | refine o_none_ (st_storeE lay_ok rfl rfl rfl hrow rfl rfl rfl rfl ?_) | fail
      · omega
      · repeat' first | refine stp lay_ok rfl ?_ | refine fin ?_ | refine n_thn ?_ | refine .ret ?_ | (refine o_none rfl ?_; refine st_subO 0 (i + 1) lay_ok rfl rfl rfl rfl ⟨_, _, rfl, rfl⟩ (by omega) (by omega) ?_) | fail
        rw [show (0 + 0 : Nat) = 0 from rfl, show i + 1 - 0 = ((partsOf s).map rowS).length by rw [List.length_map]; omega, show svCells (.str u) = [.str u] from rfl, hfin]
        refine f_end (n0 := 0) (t'' := [(8, .st (.sl 1 ((partsOf s).map rowS)))]) (h'' := []) (Wk.then (Wk.frz 0 [8] rfl rfl rfl (by (repeat' first | exact trivial | refine And.intro ?_ ?_ | rfl); first | done | fail) (by (repeat' first | exact trivial | refine And.intro ?_ ?_ | rfl); first | done | fail) rfl rfl) (WkR.of [] (by (repeat' first | exact trivial | refine And.intro ?_ ?_ | rfl); first | done | fail) (by (repeat' first | exact trivial | refine And.intro ?_ ?_ | rfl); first | done | fail) rfl)) rfl rfl ⟨?_, rfl⟩
        rfl
theorem split_ok (s : ByteArray) (hs : s.size ≤ 4000000000) : ACalls prog 180 0 [Sx s, Sx slash] [] fun r h => r = .st (.sl 1 ((partsOf s).map rowS)) ∧ h = [] := by
  refine fnC lay_ok func180 rfl rfl rfl rfl rfl ?_
  have h1 := genSplit_ok s hs
  repeat' first | refine stp lay_ok rfl ?_ | refine fin ?_ | refine n_thn ?_ | refine .seq ?_ | refine reg ?_ | refine .ret ?_ | (refine o_none rfl ?_; refine st_pure (h1) b206 rfl rfl rfl rfl ?_) | fail
  refine f_r [] rfl trivial rfl ⟨?_, rfl⟩; rfl
end Go.Proofs.YtohmbpcjapjkbaaGreatDoorFn
namespace Go.Proofs.YtohmbpcjapjkbaaGreatDoorFn
open Go.Proofs.YtohmbpcjapjkbaaGreatDoorAl Go.Proofs.Tryz
attribute [local irreducible] IntKind.wrap CodeOk OpsL OpG ACalls thn inBlk rndR cutR WkR Wk fnR DW ExtOk
theorem b207 : HasBody prog 207 := ⟨f207, func207, Option.some_ne_none _, by decide⟩
theorem b182 : HasBody prog 182 := ⟨f182, func182, Option.some_ne_none _, by decide⟩
theorem b154 : HasBody prog 154 := ⟨f154, func154, Option.some_ne_none _, by decide⟩
theorem b121 : HasBody prog 121 := ⟨f121, func121, Option.some_ne_none _, by decide⟩
theorem b140 : HasBody prog 140 := ⟨f140, func140, Option.some_ne_none _, by decide⟩
theorem b151 : HasBody prog 151 := ⟨f151, func151, Option.some_ne_none _, by decide⟩
theorem b179 : HasBody prog 179 := ⟨f179, func179, Option.some_ne_none _, by decide⟩
/-! ### characters -/
def mayR (c : Nat) : Bool := decide (97 ≤ c ∧ c ≤ 122) || decide (48 ≤ c ∧ c ≤ 57) || decide (c = 95) || decide (c = 45) || decide (c = 46) || decide (128 ≤ c ∧ c ≠ 65533)
theorem may_ok (c : Nat) : ACalls prog 207 0 [.st (.int .i32 (c : Int))] [] fun r h => r = B (mayR c) ∧ h = [] := by
  refine fnC lay_ok func207 rfl rfl rfl rfl rfl ?_
  repeat' first | refine stp lay_ok rfl ?_ | refine fin ?_ | refine n_thn ?_ | refine n_blk ?_ | refine r_thn ?_ | refine r_blk ?_ | refine .seq ?_ | refine reg ?_ | refine .block ?_ | refine .skip ?_ | refine .ret ?_ | refine cndF rfl ?_ | refine c_dec rfl (fun hc => ?_) (fun hc => ?_) | refine gd rfl rfl rfl (fun hg => ?_) (fun hg => ?_) | fail
  all_goals
    refine f_r [] rfl trivial rfl ⟨?_, rfl⟩
    simp only [retOf, B, AV.st.injEq, SV.bool.injEq, mayR]
    first
      | (symm; simp; omega)
      | (rw [Bool.eq_iff_iff]; simp; omega)
/-- How many characters there are from a place on; none: one of them may not be. -/
def runs (s : ByteArray) : Nat → Nat → Option Nat
  | 0, _ => some 0
  | f + 1, p => if p < s.size then (if mayR (Utf8.decode s p).1 then (runs s f (p + (Utf8.decode s p).2)).map (· + 1) else none) else some 0
theorem decode_pos (s : ByteArray) (p : Nat) : 1 ≤ (Utf8.decode s p).2 := by
  unfold Utf8.decode
  simp only
  repeat' split
  all_goals simp
def partOk (s : ByteArray) : Bool := match runs s (s.size + 1) 0 with
  | none => false
  | some n => decide (1 ≤ n ∧ n ≤ 16) && decide (s ≠ ⟨#[46]⟩) && decide (s ≠ ⟨#[46, 46]⟩)
theorem part_ok (s : ByteArray) (hs : s.size ≤ 4000000000) : ACalls prog 182 0 [Sx s] [] fun r h => r = B (partOk s) ∧ h = [] := by
  refine fnC lay_ok func182 rfl rfl rfl rfl rfl ?_
  repeat' first | refine stp lay_ok rfl ?_ | refine fin ?_ | refine n_thn ?_ | refine .seq ?_ | refine reg ?_ | refine .block ?_ | (refine o_none rfl ?_; refine st_range lay_ok rfl rfl rfl ?_) | fail
  refine lpR (fun (p, n, f) => n + f = s.size + 1 ∧ s.size + 1 ≤ p + f ∧ n ≤ p ∧ runs s (s.size + 1) 0 = (runs s f p).map (· + n)) (fun (p, n, f) => f) (fun (p, n, f) => [(3, I (n : Int))]) (fun (p, n, f) => [(0, .siter s p)]) ((0, 0, s.size + 1)) [0, 7] [0] [] rfl rfl rfl (.of [] (by (repeat' first | exact trivial | refine And.intro ?_ ?_ | rfl); first | done | fail) (by (repeat' first | exact trivial | refine And.intro ?_ ?_ | rfl); first | done | fail) rfl) ?_ ?_
  · refine ⟨by omega, by omega, Nat.le_refl _, ?_⟩
    simp
  · rintro ⟨p, n, f⟩ ⟨hf, hpf, hnp, hr⟩
    refine nrm rfl rfl ?_
    by_cases hp : p < s.size
    · obtain ⟨f', rfl⟩ : ∃ f', f = f' + 1 := ⟨f - 1, by omega⟩
      have hm := may_ok (Utf8.decode s p).1
      have hw := decode_pos s p
      have hrun : runs s (f' + 1) p = if mayR (Utf8.decode s p).1 then (runs s f' (p + (Utf8.decode s p).2)).map (· + 1) else none := by rw [runs, if_pos hp]
      have hde : Utf8.decode s p = ((Utf8.decode s p).1, (Utf8.decode s p).2) := rfl
      generalize (Utf8.decode s p).1 = c at *
      generalize (Utf8.decode s p).2 = w at *
      cases hmay : mayR c with
      | false =>
        rw [hmay] at hm hrun
        repeat' first | refine stp lay_ok rfl ?_ | refine fin ?_ | refine n_thn ?_ | refine r_thn ?_ | refine r_blk ?_ | refine r_rr ?_ | refine .seq ?_ | refine reg ?_ | refine .block ?_ | refine .skip ?_ | refine .ret ?_ | refine cndT rfl ?_ | (refine o_none rfl ?_; (first | refine st_next rfl rfl hp hde rfl ?_ | refine st_pure (hm) b207 rfl rfl rfl rfl ?_)) | fail
        refine f_r [] rfl trivial rfl ⟨?_, rfl⟩
        simp only [retOf, partOk]; rw [hr, hrun]; rfl
      | true =>
        rw [hmay] at hm hrun
        repeat' first | refine wr (by omega) ?_ | refine stp lay_ok rfl ?_ | refine fin ?_ | refine n_thn ?_ | refine n_blk ?_ | refine .seq ?_ | refine reg ?_ | refine .block ?_ | refine .skip ?_ | refine cndT rfl ?_ | refine cndF rfl ?_ | (refine o_none rfl ?_; (first | refine st_next rfl rfl hp hde rfl ?_ | refine st_pure (hm) b207 rfl rfl rfl rfl ?_)) | fail
        refine n_rr ((p + w, n + 1, f')) ?_ (.of [] (by (repeat' first | exact trivial | refine And.intro ?_ ?_ | rfl); first | done | fail) (by (repeat' first | exact trivial | refine And.intro ?_ ?_ | rfl); first | done | fail) rfl) ?_
        · exact Nat.lt_succ_self _
        · refine ⟨by omega, by omega, by omega, ?_⟩
          rw [hr, hrun, if_pos rfl]
          cases runs s f' (p + w) with
          | none => rfl
          | some k => simp only [Option.map_some]; congr 1; omega
    · have hend : partOk s = (decide (1 ≤ n ∧ n ≤ 16) && decide (s ≠ ⟨#[46]⟩) && decide (s ≠ ⟨#[46, 46]⟩)) := by
        have : runs s f p = some 0 := by
          cases f with
          | zero => rfl
          | succ f => rw [runs, if_neg hp]
        unfold partOk
        rw [hr, this]
        simp only [Option.map_some, Nat.zero_add]
      repeat' first | refine stp lay_ok rfl ?_ | refine fin ?_ | refine n_thn ?_ | refine e_thn ?_ | refine e_hit ?_ | refine e_rr ?_ | refine .seq ?_ | refine reg ?_ | refine .ret ?_ | refine .exit ?_ | refine cndF rfl ?_ | (refine o_none rfl ?_; refine st_nextEnd rfl rfl (by omega) ?_) | refine gd rfl rfl rfl (fun hg => ?_) (fun hg => ?_) | fail
      all_goals
        refine f_r [] rfl trivial rfl ⟨?_, rfl⟩
        rw [hend]
        simp only [retOf, B, AV.st.injEq, SV.bool.injEq]
        first
          | (rw [decide_eq_true (p := 1 ≤ n ∧ n ≤ 16) (by omega), decide_eq_true (p := s ≠ ⟨#[46]⟩) (by assumption)]; rfl)
          | (rw [decide_eq_true (p := 1 ≤ n ∧ n ≤ 16) (by omega), decide_eq_false (p := s ≠ ⟨#[46]⟩) (by assumption)]; rfl)
          | (rw [decide_eq_false (p := 1 ≤ n ∧ n ≤ 16) (by omega)]; rfl)

/-! ### the first that is so -/
def fidx {α : Type} (p : α → Bool) : List α → Int
  | [] => -1
  | x :: xs => if p x then 0 else if fidx p xs < 0 then -1 else fidx p xs + 1
theorem fidx_iff {α : Type} (p : α → Bool) : ∀ l : List α, (0 ≤ fidx p l ↔ l.any p = true)
  | [] => by simp [fidx]
  | x :: xs => by
    have ih := fidx_iff p xs
    rw [List.any_cons, Bool.or_eq_true, ← ih]
    have e : fidx p (x :: xs) = if p x then 0 else if fidx p xs < 0 then -1 else fidx p xs + 1 := rfl
    rw [e]
    generalize fidx p xs = z
    split
    · rename_i h; simp [h]
    · rename_i h
      split
      · constructor
        · intro h2; omega
        · rintro (h2 | h2)
          · exact absurd h2 h
          · omega
      · constructor
        · intro _; right; omega
        · intro _; omega
theorem fidx_any {α : Type} (p : α → Bool) (l : List α) : decide (fidx p l ≥ 0) = l.any p := by
  rw [Bool.eq_iff_iff, decide_eq_true_eq]; exact fidx_iff p l
theorem fidx_step {α : Type} (p : α → Bool) : ∀ (l : List α) (k : Nat) (hk : k < l.length), (∀ j (h : j < k), p (l[j]'(by omega)) = false) → p l[k] = true → fidx p l = k
  | [], k, hk, _, _ => by simp at hk
  | x :: xs, 0, hk, _, h => by simp only [List.getElem_cons_zero] at h; simp [fidx, h]
  | x :: xs, k + 1, hk, h1, h => by
    have h0 := h1 0 (by omega)
    simp only [List.getElem_cons_zero] at h0
    have ih := fidx_step p xs k (by simpa using hk) (fun j hj => by have := h1 (j + 1) (by omega); simpa using this) (by simpa using h)
    simp only [fidx, h0, Bool.false_eq_true, if_false, ih]
    rw [if_neg (by omega)]; omega
theorem fidx_none {α : Type} (p : α → Bool) : ∀ (l : List α), (∀ j (h : j < l.length), p l[j] = false) → fidx p l = -1
  | [], _ => rfl
  | x :: xs, h1 => by
    have h0 := h1 0 (by simp)
    simp only [List.getElem_cons_zero] at h0
    have ih := fidx_none p xs (fun j hj => by have := h1 (j + 1) (by simpa using hj); simpa using this)
    simp only [fidx, h0, Bool.false_eq_true, if_false, ih]; rfl

theorem parts1_ok (s : ByteArray) (hs : s.size ≤ 4000000000) : ACalls prog 181 0 [Sx s] [] fun r h => r = B (!partOk s) ∧ h = [] := by
  refine fnC lay_ok func181 rfl rfl rfl rfl rfl ?_
  have h1 := part_ok s hs
  repeat' first | refine stp lay_ok rfl ?_ | refine fin ?_ | refine n_thn ?_ | refine .seq ?_ | refine reg ?_ | refine .ret ?_ | (refine o_none rfl ?_; refine st_pure (h1) b182 rfl rfl rfl rfl ?_) | fail
  refine f_r [] rfl trivial rfl ⟨?_, rfl⟩; rfl
theorem b181 : HasBody prog 181 := ⟨f181, func181, Option.some_ne_none _, by decide⟩
abbrev fnP : AV := .st (.fn (.func 181) [] [])
theorem idxParts_ok (l : List ByteArray) (hl : l.length ≤ 4000000000) (hs : ∀ s ∈ l, s.size ≤ 4000000000) : ACalls prog 179 0 [.st (.sl 1 (l.map rowS)), fnP] [] fun r h => r = I (fidx (fun s => !partOk s) l) ∧ h = [] := by
  refine fnC lay_ok func179 rfl rfl rfl rfl rfl ?_
  repeat' first | refine ln ?_ | refine stp lay_ok rfl ?_ | refine fin ?_ | refine n_thn ?_ | refine .seq ?_ | refine reg ?_ | refine .block ?_ | fail
  refine lpR (fun k => k ≤ l.length ∧ ∀ j (h : j < k), ∀ h2 : j < l.length, (!partOk l[j]) = false) (fun k => l.length - k) (fun k => [(8, I k)]) (fun k => []) (0) [0, 1, 7] [] [] rfl rfl rfl (.of [] (by (repeat' first | exact trivial | refine And.intro ?_ ?_ | rfl); first | done | fail) (by (repeat' first | exact trivial | refine And.intro ?_ ?_ | rfl); first | done | fail) rfl) ?_ ?_
  · exact ⟨Nat.zero_le _, fun j h => by omega⟩
  rintro k ⟨hk, hall⟩
  refine nrm rfl rfl ?_
  repeat' first | refine stp lay_ok rfl ?_ | refine fin ?_ | refine n_thn ?_ | refine e_thn ?_ | refine e_hit ?_ | refine e_rr ?_ | refine .seq ?_ | refine reg ?_ | refine .block ?_ | refine .skip ?_ | refine .ret ?_ | refine .exit ?_ | refine c_dec rfl (fun hc => ?_) (fun hc => ?_) | fail
  · have hk' : k < l.length := by omega
    have hat := at_rowS hk'
    have h1 := parts1_ok l[k] (hs _ (List.getElem_mem hk'))
    cases hp : partOk l[k] with
    | false =>
      rw [hp] at h1
      repeat' first | refine stp lay_ok rfl ?_ | refine fin ?_ | refine n_thn ?_ | refine r_thn ?_ | refine r_blk ?_ | refine r_rr ?_ | refine .seq ?_ | refine reg ?_ | refine .ret ?_ | refine cndT rfl ?_ | (refine o_none rfl ?_; (first | refine st_index (rowS l[k]) lay_ok rfl rfl rfl rfl (by omega) hat ?_ | refine st_pure (h1) b181 rfl rfl rfl rfl ?_)) | fail
      refine f_r [] rfl trivial rfl ⟨?_, rfl⟩
      rw [fidx_step _ l k hk' (fun j h => hall j h _) (by rw [hp]; rfl)]; rfl
    | true =>
      rw [hp] at h1
      repeat' first | refine wr (by omega) ?_ | refine stp lay_ok rfl ?_ | refine fin ?_ | refine n_thn ?_ | refine n_blk ?_ | refine reg ?_ | refine .skip ?_ | refine cndF rfl ?_ | (refine o_none rfl ?_; (first | refine st_index (rowS l[k]) lay_ok rfl rfl rfl rfl (by omega) hat ?_ | refine st_pure (h1) b181 rfl rfl rfl rfl ?_)) | fail
      refine n_rr (k + 1) ?_ (.of [] (by (repeat' first | exact trivial | refine And.intro ?_ ?_ | rfl); first | done | fail) (by (repeat' first | exact trivial | refine And.intro ?_ ?_ | rfl); first | done | fail) rfl) ?_
      · omega
      · refine ⟨hk', fun j h h2 => ?_⟩
        by_cases hj : j = k
        · subst hj; rw [hp]; rfl
        · exact hall j (by omega) h2
  · refine f_r [] rfl trivial rfl ⟨?_, rfl⟩
    rw [fidx_none _ l (fun j h => hall j (by omega) h)]; rfl
theorem conParts_ok (l : List ByteArray) (hl : l.length ≤ 4000000000) (hs : ∀ s ∈ l, s.size ≤ 4000000000) : ACalls prog 151 0 [.st (.sl 1 (l.map rowS)), fnP] [] fun r h => r = B (l.any fun s => !partOk s) ∧ h = [] := by
  refine fnC lay_ok func151 rfl rfl rfl rfl rfl ?_
  have h1 := idxParts_ok l hl hs
  repeat' first | refine stp lay_ok rfl ?_ | refine fin ?_ | refine n_thn ?_ | refine .seq ?_ | refine reg ?_ | refine .ret ?_ | (refine o_none rfl ?_; refine st_pure (h1) b179 rfl rfl rfl rfl ?_) | fail
  refine f_r [] rfl trivial rfl ⟨?_, rfl⟩
  rw [← fidx_any]; rfl
end Go.Proofs.YtohmbpcjapjkbaaGreatDoorFn
namespace Go.Proofs.YtohmbpcjapjkbaaGreatDoorFn
open Go.Proofs.YtohmbpcjapjkbaaGreatDoorAl Go.Proofs.Tryz
attribute [local irreducible] IntKind.wrap CodeOk OpsL OpG ACalls thn inBlk rndR cutR WkR Wk fnR DW ExtOk partsOf
def pathOk (s : ByteArray) : Bool := decide ((partsOf s).length ≤ 8) && (partsOf s).all partOk
theorem any_not {α : Type} (p : α → Bool) (l : List α) : (l.any fun x => !p x) = !(l.all p) := by
  induction l with
  | nil => rfl
  | cons x xs ih => simp only [List.any_cons, List.all_cons, ih, Bool.not_and]
theorem spl_len : ∀ (l : List UInt8), ∀ x ∈ spl l, x.length ≤ l.length
  | [], x, h => by simp [spl] at h; subst h; simp
  | b :: r, x, h => by
    have ih := spl_len r
    simp only [spl] at h
    split at h
    · rcases List.mem_cons.1 h with rfl | h
      · simp
      · have := ih x h; simp; omega
    · split at h
      · simp at h; subst h; simp
      · rename_i y ys e
        rw [e] at ih
        rcases List.mem_cons.1 h with rfl | h
        · have := ih y (by simp); simp; omega
        · have := ih x (by simp [h]); simp; omega
theorem parts_size (s : ByteArray) : ∀ x ∈ partsOf s, x.size ≤ s.size := by
  intro x hx
  unfold partsOf at hx
  obtain ⟨l, hl, rfl⟩ := List.mem_map.1 hx
  have := spl_len _ l hl
  rw [Array.length_toList] at this
  exact this
theorem parts_ne (s : ByteArray) : (partsOf s).map rowS ≠ [] := by
  unfold partsOf
  simp [spl_ne]
theorem parts_ok (s : ByteArray) (hs : s.size ≤ 4000000000 - 1) : ACalls prog 154 0 [Sx s] [] fun r h => r = (if pathOk s then .st (.sl 1 ((partsOf s).map rowS)) else .st .nilsl) ∧ h = [] := by
  refine fnC lay_ok func154 rfl rfl rfl rfl rfl ?_
  have h1 := split_ok s (by omega)
  have hl : (partsOf s).length ≤ 4000000000 := by
    rw [parts_len]
    have := List.count_le_length (a := (47 : UInt8)) (l := s.data.toList)
    rw [Array.length_toList] at this
    have e : s.data.size = s.size := rfl
    omega
  have h2 := conParts_ok (partsOf s) hl (fun x hx => by have := parts_size s x hx; omega)
  rw [any_not] at h2
  have hp : pathOk s = (decide ((partsOf s).length ≤ 8) && (partsOf s).all partOk) := rfl
  cases ha : (partsOf s).all partOk with
  | false =>
    rw [ha] at h2 hp
    repeat' first | refine ln ?_ | refine stp lay_ok rfl ?_ | refine fin ?_ | refine n_thn ?_ | refine r_thn ?_ | refine .seq ?_ | refine reg ?_ | refine .ret ?_ | refine cndT rfl ?_ | ((first | refine o_none rfl ?_ | refine o_yes rfl rfl rfl ?_); (first | refine st_pure (h1) b180 rfl rfl rfl rfl ?_ | refine st_pure (h2) b151 rfl rfl rfl rfl ?_)) | refine gd rfl rfl rfl (fun hg => ?_) (fun hg => ?_) | fail
    all_goals
      refine f_r [] rfl trivial rfl ⟨?_, rfl⟩
      rw [hp]; simp [retOf]
  | true =>
    rw [ha] at h2 hp
    repeat' first | refine ln ?_ | refine stp lay_ok rfl ?_ | refine fin ?_ | refine n_thn ?_ | refine r_thn ?_ | refine .seq ?_ | refine reg ?_ | refine .skip ?_ | refine .ret ?_ | refine cndT rfl ?_ | refine cndF rfl ?_ | ((first | refine o_none rfl ?_ | refine o_yes rfl rfl rfl ?_); (first | refine st_pure (h1) b180 rfl rfl rfl rfl ?_ | refine st_pure (h2) b151 rfl rfl rfl rfl ?_)) | refine gd rfl rfl rfl (fun hg => ?_) (fun hg => ?_) | fail
    · refine f_r [] rfl trivial rfl ⟨?_, rfl⟩
      rw [hp, decide_eq_false (by omega)]; rfl
    · refine f_r [] rfl trivial rfl ⟨?_, rfl⟩
      rw [hp, decide_eq_true (by omega)]; rfl
theorem pathCheck_ok (s : ByteArray) (hs : s.size ≤ 4000000000 - 1) : ACalls prog 121 0 [Sx s] [] fun r h => r = (if pathOk s then nilE else errE 2) ∧ h = [] := by
  refine fnC lay_ok func121 rfl rfl rfl rfl rfl ?_
  have h1 := parts_ok s hs
  cases hp : pathOk s with
  | false =>
    rw [hp] at h1
    rw [if_neg (by simp)] at h1
    repeat' first | refine stp lay_ok rfl ?_ | refine fin ?_ | refine n_thn ?_ | refine r_thn ?_ | refine .seq ?_ | refine reg ?_ | refine .ret ?_ | refine cndT rfl ?_ | (refine o_none rfl ?_; refine st_pure (h1) b154 rfl rfl rfl rfl ?_) | fail
    refine f_r [] rfl trivial rfl ⟨?_, rfl⟩; rfl
  | true =>
    rw [hp] at h1
    rw [if_pos rfl] at h1
    have hne := parts_ne s
    repeat' first | refine stp lay_ok rfl ?_ | refine fin ?_ | refine n_thn ?_ | refine r_thn ?_ | refine .seq ?_ | refine reg ?_ | refine .skip ?_ | refine .ret ?_ | refine cnd rfl (fun hc => ?_) (fun hc => ?_) | (refine o_none rfl ?_; (first | refine st_pure (h1) b154 rfl rfl rfl rfl ?_ | refine st_nilSl lay_ok rfl rfl rfl rfl (fun b hb => ?_))) | fail
    · have hc : b = true := by assumption
      exact absurd (hb hc) hne
    · refine f_r [] rfl trivial rfl ⟨?_, rfl⟩; rfl
def under (d s : ByteArray) : Bool := pathOk d && pathOk s && decide ((d ++ slash).size ≤ s.size ∧ s.extract 0 (d ++ slash).size = d ++ slash)
theorem under_ok (d s : ByteArray) (hd : d.size ≤ 4000000000 - 1) (hs : s.size ≤ 4000000000 - 1) : ACalls prog 140 0 [Sx d, Sx s] [] fun r h => r = B (under d s) ∧ h = [] := by
  refine fnC lay_ok func140 rfl rfl rfl rfl rfl ?_
  have h1 := pathCheck_ok d hd
  have h2 := pathCheck_ok s hs
  have h3 := hasPrefix_ok s (d ++ slash)
  have hcat : d.size + slash.size ≤ 9223372036854775807 := by
    have hsl : slash.size = 1 := rfl
    omega
  cases hpd : pathOk d <;> cases hps : pathOk s <;> simp only [hpd, hps, if_true, if_false, Bool.false_eq_true] at h1 h2
  all_goals
    repeat' first | refine stp lay_ok rfl ?_ | refine fin ?_ | refine n_thn ?_ | refine .seq ?_ | refine reg ?_ | refine .ret ?_ | ((first | refine o_none rfl ?_ | refine o_yes rfl rfl rfl ?_); (first | refine st_pure (h1) b121 rfl rfl rfl rfl ?_ | refine st_pure (h2) b121 rfl rfl rfl rfl ?_ | refine st_cat rfl rfl hcat ?_ | refine st_pure (h3) b164 rfl rfl rfl rfl ?_)) | fail
    refine f_r [] rfl trivial rfl ⟨?_, rfl⟩
    simp [retOf, under, hpd, hps]
end Go.Proofs.YtohmbpcjapjkbaaGreatDoorFn
namespace Go.Proofs.YtohmbpcjapjkbaaGreatDoorFn
open Go.Proofs.YtohmbpcjapjkbaaGreatDoorAl Go.Proofs.Tryz
attribute [local irreducible] IntKind.wrap CodeOk OpsL OpG ACalls thn inBlk rndR cutR WkR Wk fnR DW ExtOk partsOf
theorem b185 : HasBody prog 185 := ⟨f185, func185, Option.some_ne_none _, by decide⟩
theorem b156 : HasBody prog 156 := ⟨f156, func156, Option.some_ne_none _, by decide⟩
theorem b184 : HasBody prog 184 := ⟨f184, func184, Option.some_ne_none _, by decide⟩
theorem b124 : HasBody prog 124 := ⟨f124, func124, Option.some_ne_none _, by decide⟩
theorem b99 : HasBody prog 99 := ⟨f99, func99, Option.some_ne_none _, by decide⟩
theorem b139 : HasBody prog 139 := ⟨f139, func139, Option.some_ne_none _, by decide⟩
structure EV where
  path : ByteArray
  size : Int
  keys : List ByteArray
deriving DecidableEq
def rowE (e : EV) : List SV := [.str e.path, .int .i64 e.size, .sl 1 (e.keys.map rowS)]
theorem at_rowE {l : List EV} {k : Nat} (h : k < l.length) : (l.map rowE)[((k : Nat) : Int).toNat]? = some (rowE l[k]) := by simp [h]
def tot : List ByteArray → Nat
  | [] => 0
  | x :: r => x.size + tot r
theorem tot_app (a b : List ByteArray) : tot (a ++ b) = tot a + tot b := by
  induction a with
  | nil => simp [tot]
  | cons x r ih => simp only [List.cons_append, tot, ih]; omega
theorem tot_take {l : List ByteArray} {k : Nat} (h : k < l.length) : tot (l.take (k + 1)) = tot (l.take k) + l[k].size := by
  rw [List.take_succ_eq_append_getElem h, tot_app]; rfl
def keyOk (k : ByteArray) : Bool := decide (1 ≤ k.size ∧ k.size ≤ 64)
theorem all_take {α : Type} {p : α → Bool} {l : List α} {k : Nat} (h : k < l.length) : (l.take (k + 1)).all p = ((l.take k).all p && p l[k]) := by
  rw [List.take_succ_eq_append_getElem h, List.all_append]; simp only [List.all_cons, List.all_nil, Bool.and_true]
theorem all_not {α : Type} {p : α → Bool} {l : List α} {k : Nat} (h : k < l.length) (hp : p l[k] = false) : l.all p = false := by
  rw [List.all_eq_false]
  exact ⟨_, List.getElem_mem h, by simp [hp]⟩
def wholeB (e : EV) : Bool := e.keys.all keyOk && decide ((tot e.keys : Int) = e.size) && decide (tot e.keys ≤ 1024)
theorem whole_ok (e : EV) (hk : e.keys.length ≤ 4000000000) : ACalls prog 185 0 [.st (.agg (rowE e))] [] fun r h => r = B (wholeB e) ∧ h = [] := by
  obtain ⟨p, z, l⟩ := e
  simp only [rowE, wholeB] at hk ⊢
  refine fnC lay_ok func185 rfl rfl rfl rfl rfl ?_
  repeat' first | refine o_frb 0 [.str p, .int .i64 z, .sl 1 (l.map rowS)] rfl rfl rfl (by (repeat' first | exact trivial | refine And.intro ?_ ?_ | rfl); first | done | fail) (by (repeat' first | exact trivial | refine And.intro ?_ ?_ | rfl); first | done | fail) rfl rfl ?_ | refine ln ?_ | refine stp lay_ok rfl ?_ | refine fin ?_ | refine n_thn ?_ | refine .seq ?_ | refine reg ?_ | refine .block ?_ | fail
  refine lpR (fun k => k ≤ l.length ∧ (l.take k).all keyOk = true ∧ tot (l.take k) ≤ 64 * k) (fun k => l.length - k) (fun k => [(9, I k), (3, I (tot (l.take k)))]) (fun k => []) (0) [1, 7, 8] [] [] rfl rfl rfl (.of [] (by (repeat' first | exact trivial | refine And.intro ?_ ?_ | rfl); first | done | fail) (by (repeat' first | exact trivial | refine And.intro ?_ ?_ | rfl); first | done | fail) rfl) ?_ ?_
  · exact ⟨Nat.zero_le _, rfl, by simp [tot]⟩
  rintro k ⟨h1, h2, h3⟩
  refine nrm rfl rfl ?_
  repeat' first | refine stp lay_ok rfl ?_ | refine fin ?_ | refine n_thn ?_ | refine e_thn ?_ | refine e_hit ?_ | refine e_rr ?_ | refine .seq ?_ | refine reg ?_ | refine .block ?_ | refine .skip ?_ | refine .ret ?_ | refine .exit ?_ | refine c_dec rfl (fun hc => ?_) (fun hc => ?_) | refine gd rfl rfl rfl (fun hg => ?_) (fun hg => ?_) | fail
  · have hk' : k < l.length := by omega
    have hat := at_rowS hk'
    have ht := tot_take hk'
    have ha := all_take (p := keyOk) hk'
    generalize hx : l[k] = x at *
    repeat' first | refine wr (by omega) ?_ | refine stp lay_ok rfl ?_ | refine fin ?_ | refine n_thn ?_ | refine n_blk ?_ | refine r_thn ?_ | refine r_blk ?_ | refine r_rr ?_ | refine .seq ?_ | refine reg ?_ | refine .skip ?_ | refine .ret ?_ | refine cndT rfl ?_ | refine c_dec rfl (fun hc => ?_) (fun hc => ?_) | (refine o_none rfl ?_; refine st_index (rowS x) lay_ok rfl rfl rfl rfl (by omega) hat ?_) | refine gd rfl rfl rfl (fun hg => ?_) (fun hg => ?_) | fail
    · refine f_r [] rfl trivial rfl ⟨?_, rfl⟩
      have : l.all keyOk = false := all_not hk' (by rw [hx]; simp [keyOk]; omega)
      rw [this]; rfl
    · refine f_r [] rfl trivial rfl ⟨?_, rfl⟩
      have : l.all keyOk = false := all_not hk' (by rw [hx]; simp [keyOk]; omega)
      rw [this]; rfl
    · refine n_rr (k + 1) ?_ (.of [] (by (repeat' first | exact trivial | refine And.intro ?_ ?_ | rfl | rw [ht]; push_cast; rfl); first | done | fail) (by (repeat' first | exact trivial | refine And.intro ?_ ?_ | rfl | rw [ht]; push_cast; rfl); first | done | fail) rfl) ?_
      · omega
      · refine ⟨hk', ?_, by omega⟩
        rw [ha, h2]; simp [keyOk]; omega
  · have hk' : k = l.length := by omega
    subst hk'
    rw [List.take_length] at *
    rw [h2]
    refine f_r [] rfl trivial rfl ⟨?_, rfl⟩
    simp only [retOf, B, AV.st.injEq, SV.bool.injEq]
    rw [Bool.eq_iff_iff]; simp; omega
  · have hk' : k = l.length := by omega
    subst hk'
    rw [List.take_length] at *
    rw [h2]
    refine f_r [] rfl trivial rfl ⟨?_, rfl⟩
    simp only [retOf, B, AV.st.injEq, SV.bool.injEq]
    rw [Bool.eq_iff_iff]; simp; omega
theorem entry1_ok (e x : EV) (he : e.path.size ≤ 4000000000 - 1) (hx : x.path.size ≤ 4000000000 - 1) : ACalls prog 184 0 [.st (.agg (rowE x)), .st (.sptr (rowE e))] [] fun r h => r = B (under x.path e.path) ∧ h = [] := by
  obtain ⟨p, z, l⟩ := e
  obtain ⟨p', z', l'⟩ := x
  have h1 := under_ok p' p hx he
  refine fnC lay_ok func184 rfl rfl rfl rfl rfl ?_
  repeat' first | refine stp lay_ok rfl ?_ | refine fin ?_ | refine n_thn ?_ | refine .seq ?_ | refine reg ?_ | refine .ret ?_ | (refine o_none rfl ?_; refine st_pure (h1) b140 rfl rfl rfl rfl ?_) | fail
  refine f_r [] rfl trivial rfl ⟨?_, rfl⟩; rfl
abbrev fnS (f : Nat) (cs : List SV) : AV := .fn (.func f) [] [.st (.sptr cs)]
theorem idxE_ok (f : Nat) (bf : HasBody prog f) (cs : List SV) (p : EV → Bool) (l : List EV) (hl : l.length ≤ 4000000000) (hf : ∀ e ∈ l, ACalls prog f 0 [.st (.agg (rowE e)), .st (.sptr cs)] [] fun r h => r = B (p e) ∧ h = []) :
    ACalls prog 139 0 [.st (.sl 3 (l.map rowE)), fnS f cs] [] fun r h => r = I (fidx p l) ∧ h = [] := by
  refine fnC lay_ok func139 rfl rfl rfl rfl rfl ?_
  repeat' first | refine ln ?_ | refine stp lay_ok rfl ?_ | refine fin ?_ | refine n_thn ?_ | refine .seq ?_ | refine reg ?_ | refine .block ?_ | fail
  refine lpR (fun k => k ≤ l.length ∧ ∀ j (h : j < k), ∀ h2 : j < l.length, p l[j] = false) (fun k => l.length - k) (fun k => [(8, I k)]) (fun k => []) (0) [0, 1, 7] [] [] rfl rfl rfl (.of [] (by (repeat' first | exact trivial | refine And.intro ?_ ?_ | rfl); first | done | fail) (by (repeat' first | exact trivial | refine And.intro ?_ ?_ | rfl); first | done | fail) rfl) ?_ ?_
  · exact ⟨Nat.zero_le _, fun j h => by omega⟩
  rintro k ⟨hk, hall⟩
  refine nrm rfl rfl ?_
  repeat' first | refine stp lay_ok rfl ?_ | refine fin ?_ | refine n_thn ?_ | refine e_thn ?_ | refine e_hit ?_ | refine e_rr ?_ | refine .seq ?_ | refine reg ?_ | refine .block ?_ | refine .skip ?_ | refine .ret ?_ | refine .exit ?_ | refine c_dec rfl (fun hc => ?_) (fun hc => ?_) | fail
  · have hk' : k < l.length := by omega
    have hat := at_rowE hk'
    have h1 := hf l[k] (List.getElem_mem hk')
    cases hp : p l[k] with
    | true =>
      rw [hp] at h1
      repeat' first | refine stp lay_ok rfl ?_ | refine fin ?_ | refine n_thn ?_ | refine r_thn ?_ | refine r_blk ?_ | refine r_rr ?_ | refine .seq ?_ | refine reg ?_ | refine .ret ?_ | refine cndT rfl ?_ | (refine o_none rfl ?_; (first | refine st_index (rowE l[k]) lay_ok rfl rfl rfl rfl (by omega) hat ?_ | refine st_pure (h1) bf rfl rfl rfl rfl ?_)) | fail
      refine f_r [] rfl trivial rfl ⟨?_, rfl⟩
      rw [fidx_step _ l k hk' (fun j h => hall j h _) hp]; rfl
    | false =>
      rw [hp] at h1
      repeat' first | refine wr (by omega) ?_ | refine stp lay_ok rfl ?_ | refine fin ?_ | refine n_thn ?_ | refine n_blk ?_ | refine reg ?_ | refine .skip ?_ | refine cndF rfl ?_ | (refine o_none rfl ?_; (first | refine st_index (rowE l[k]) lay_ok rfl rfl rfl rfl (by omega) hat ?_ | refine st_pure (h1) bf rfl rfl rfl rfl ?_)) | fail
      refine n_rr (k + 1) ?_ (.of [] (by (repeat' first | exact trivial | refine And.intro ?_ ?_ | rfl); first | done | fail) (by (repeat' first | exact trivial | refine And.intro ?_ ?_ | rfl); first | done | fail) rfl) ?_
      · omega
      · refine ⟨hk', fun j h h2 => ?_⟩
        by_cases hj : j = k
        · subst hj; exact hp
        · exact hall j (by omega) h2
  · refine f_r [] rfl trivial rfl ⟨?_, rfl⟩
    rw [fidx_none _ l (fun j h => hall j (by omega) h)]; rfl
theorem conE_ok (f : Nat) (bf : HasBody prog f) (cs : List SV) (p : EV → Bool) (l : List EV) (hl : l.length ≤ 4000000000) (hf : ∀ e ∈ l, ACalls prog f 0 [.st (.agg (rowE e)), .st (.sptr cs)] [] fun r h => r = B (p e) ∧ h = []) :
    ACalls prog 99 0 [.st (.sl 3 (l.map rowE)), fnS f cs] [] fun r h => r = B (l.any p) ∧ h = [] := by
  refine fnC lay_ok func99 rfl rfl rfl rfl rfl ?_
  have h1 := idxE_ok f bf cs p l hl hf
  repeat' first | refine stp lay_ok rfl ?_ | refine fin ?_ | refine n_thn ?_ | refine .seq ?_ | refine reg ?_ | refine .ret ?_ | (refine o_none rfl ?_; refine st_pure (h1) b139 rfl rfl rfl rfl ?_) | fail
  refine f_r [] rfl trivial rfl ⟨?_, rfl⟩
  rw [← fidx_any]; rfl
end Go.Proofs.YtohmbpcjapjkbaaGreatDoorFn
namespace Go.Proofs.YtohmbpcjapjkbaaGreatDoorFn
open Go.Proofs.YtohmbpcjapjkbaaGreatDoorAl Go.Proofs.Tryz
attribute [local irreducible] IntKind.wrap CodeOk OpsL OpG ACalls thn inBlk rndR cutR WkR Wk fnR DW ExtOk partsOf
/-- What is amiss with the entry at i. -/
def entryC (l : List EV) (i : Nat) (e : EV) : Option Int :=
  if pathOk e.path then
    if (decide (0 < i) && (match l[i - 1]? with | some x => !strLt x.path e.path | none => false)) || (l.take i).any (fun x => under x.path e.path) then some 4
    else if wholeB e then none else some 1
  else some 2
def errO : Option Int → AV
  | none => nilE
  | some n => errE n
set_option maxHeartbeats 2000000 in
theorem entry_ok (l : List EV) (i : Nat) (hi : i < l.length) (hl : l.length ≤ 4000000000) (hp : ∀ e ∈ l, e.path.size ≤ 4000000000 - 1) (hk : ∀ e ∈ l, e.keys.length ≤ 4000000000) :
    ACalls prog 156 0 [.st (.sl 3 (l.map rowE)), I i] [] fun r h => r = errO (entryC l i l[i]) ∧ h = [] := by
  have hat := at_rowE hi
  have hc1 := pathCheck_ok l[i].path (hp _ (List.getElem_mem hi))
  have hw := whole_ok l[i] (hk _ (List.getElem_mem hi))
  have hu := conE_ok 184 b184 (rowE l[i]) (fun x => under x.path l[i].path) (l.take i) (by simp; omega) (fun x hx => entry1_ok l[i] x (hp _ (List.getElem_mem hi)) (hp _ (List.mem_of_mem_take hx)))
  have hm : (List.map rowE l).length = l.length := List.length_map _
  rw [List.map_take] at hu
  generalize he : l[i] = e at *
  obtain ⟨p, z, ks⟩ := e
  refine fnC lay_ok func156 rfl rfl rfl rfl rfl ?_
  cases hpo : pathOk p with
  | false =>
    simp only [hpo, if_true, if_false, Bool.false_eq_true] at hc1
    repeat' first | refine o_frb 0 [.str p, .int .i64 z, .sl 1 (ks.map rowS)] rfl rfl rfl (by (repeat' first | exact trivial | refine And.intro ?_ ?_ | rfl); first | done | fail) (by (repeat' first | exact trivial | refine And.intro ?_ ?_ | rfl); first | done | fail) rfl rfl ?_ | refine stp lay_ok rfl ?_ | refine fin ?_ | refine n_thn ?_ | refine r_thn ?_ | refine r_blk ?_ | refine .seq ?_ | refine reg ?_ | refine .block ?_ | refine .ret ?_ | refine cndT rfl ?_ | (refine o_none rfl ?_; (first | refine st_index (rowE ⟨p, z, ks⟩) lay_ok rfl rfl rfl rfl (by omega) hat ?_ | refine st_pure (hc1) b121 rfl rfl rfl rfl ?_)) | fail
    refine f_r [] rfl trivial rfl ⟨?_, rfl⟩
    simp only [entryC, hpo]; rfl
  | true =>
    simp only [hpo, if_true, if_false, Bool.false_eq_true] at hc1
    repeat' first | refine o_frb 0 [.str p, .int .i64 z, .sl 1 (ks.map rowS)] rfl rfl rfl (by (repeat' first | exact trivial | refine And.intro ?_ ?_ | rfl); first | done | fail) (by (repeat' first | exact trivial | refine And.intro ?_ ?_ | rfl); first | done | fail) rfl rfl ?_ | refine stp lay_ok rfl ?_ | refine fin ?_ | refine n_thn ?_ | refine .seq ?_ | refine reg ?_ | refine .block ?_ | refine cndF rfl ?_ | (refine o_none rfl ?_; (first | refine st_index (rowE ⟨p, z, ks⟩) lay_ok rfl rfl rfl rfl (by omega) hat ?_ | refine st_pure (hc1) b121 rfl rfl rfl rfl ?_)) | fail
    have ht : i ≤ (l.map rowE).length := by omega
    cases ha : (l.take i).any (fun x => under x.path p) <;> cases hwb : wholeB ⟨p, z, ks⟩ <;> simp only [ha] at hu <;> rw [hwb] at hw
    all_goals
      rcases Nat.eq_zero_or_pos i with h0 | h0
      · have e1 : (if false = true ∨ (l.take i).any (fun x => under x.path p) = true then some 4 else if wholeB ⟨p, z, ks⟩ then none else some 1) = entryC l i ⟨p, z, ks⟩ := by
          simp [entryC, hpo, h0]
        rw [ha, hwb] at e1
        refine dreg [(0, [], []), (1, [0], []), (2, [0, 1], []), (3, [0, 1, 2], [23, 24, 28, 29]), (4, [0, 1, 2], [22, 28, 29]), (5, [0, 1, 2, 4], [22, 28, 29]), (6, [0, 1, 2, 3, 4, 5], [28, 29]), (7, [0, 1, 2, 3, 4, 5, 6], [28, 29]), (8, [0, 1, 2, 3, 4, 5, 6, 7], [28, 29]), (9, [0, 1, 2], [22, 23, 24, 25, 26, 27]), (10, [0, 1, 2, 9], [22, 23, 24, 25, 26, 27]), (11, [0, 1, 2, 3, 4, 5, 6, 7, 8, 9, 10], []), (12, [0, 1, 2, 3, 4, 5, 6, 7, 8, 9, 10, 11], []), (13, [0, 1, 2, 3, 4, 5, 6, 7, 8, 9, 10, 11, 12], [])] mixed (by kernel_rfl) ?_
        repeat' first | refine stp lay_ok rfl ?_ | refine fin ?_ | refine n_thn ?_ | refine n_blk ?_ | refine r_thn ?_ | refine r_blk ?_ | refine .seq ?_ | refine reg ?_ | refine .skip ?_ | refine .ret ?_ | refine cndT rfl ?_ | refine cndF rfl ?_ | (refine o_none rfl ?_; (first | refine st_subL 0 i lay_ok rfl rfl rfl rfl ⟨_, _, rfl, rfl⟩ (Nat.zero_le _) ht ?_ | refine st_pure (hu) b99 rfl rfl rfl rfl ?_ | refine st_pure (hw) b185 rfl rfl rfl rfl ?_)) | refine dwr (by omega) ?_ | refine dws lay_ok rfl rfl rfl rfl rfl rfl rfl ?_ | refine dw_end ?_ | refine dw_skip rfl rfl rfl ?_ | refine dw_dec rfl rfl rfl (fun hg => ?_) (fun hg => ?_) | fail
        all_goals first | omega | (refine f_r [] rfl trivial rfl ⟨?_, rfl⟩; rw [← e1]; rfl)
      · have h1 : i - 1 < l.length := by omega
        have hat1 := at_rowE h1
        have hx : (l.map rowE)[((i : Int) - 1).toNat]? = some (rowE l[i - 1]) := by rw [← hat1]; congr 1; omega
        have e1 : (if (!strLt l[i - 1].path p) = true ∨ (l.take i).any (fun x => under x.path p) = true then some 4 else if wholeB ⟨p, z, ks⟩ then none else some 1) = entryC l i ⟨p, z, ks⟩ := by
          have e2 : l[i - 1]? = some l[i - 1] := List.getElem?_eq_getElem h1
          simp only [entryC, hpo, e2, if_true, h0, decide_true, Bool.true_and, Bool.or_eq_true]
        rw [ha, hwb] at e1
        generalize hy : l[i - 1] = y at *
        cases hlt : strLt y.path p <;> rw [hlt] at e1
        all_goals
          refine dreg [(0, [], []), (1, [0], []), (2, [0, 1], []), (3, [0, 1, 2], [23, 24, 28, 29]), (4, [0, 1, 2], [22, 28, 29]), (5, [0, 1, 2, 4], [22, 28, 29]), (6, [0, 1, 2, 3, 4, 5], [28, 29]), (7, [0, 1, 2, 3, 4, 5, 6], [28, 29]), (8, [0, 1, 2, 3, 4, 5, 6, 7], [28, 29]), (9, [0, 1, 2], [22, 23, 24, 25, 26, 27]), (10, [0, 1, 2, 9], [22, 23, 24, 25, 26, 27]), (11, [0, 1, 2, 3, 4, 5, 6, 7, 8, 9, 10], []), (12, [0, 1, 2, 3, 4, 5, 6, 7, 8, 9, 10, 11], []), (13, [0, 1, 2, 3, 4, 5, 6, 7, 8, 9, 10, 11, 12], [])] mixed (by kernel_rfl) ?_
          repeat' first | refine stp lay_ok rfl ?_ | refine fin ?_ | refine n_thn ?_ | refine n_blk ?_ | refine r_thn ?_ | refine r_blk ?_ | refine .seq ?_ | refine reg ?_ | refine .skip ?_ | refine .ret ?_ | refine cndT rfl ?_ | refine cndF rfl ?_ | refine cnd rfl (fun hc => ?_) (fun hc => ?_) | (refine o_none rfl ?_; (first | refine st_subL 0 i lay_ok rfl rfl rfl rfl ⟨_, _, rfl, rfl⟩ (Nat.zero_le _) ht ?_ | refine st_pure (hu) b99 rfl rfl rfl rfl ?_ | refine st_pure (hw) b185 rfl rfl rfl rfl ?_)) | refine dwr (by omega) ?_ | refine dws lay_ok rfl rfl rfl rfl rfl rfl rfl ?_ | refine dw_end ?_ | refine dw_skip rfl rfl rfl ?_ | refine dwb rfl rfl rfl rfl rfl (by (first | refine st_index (rowE y) lay_ok rfl rfl rfl rfl (by omega) hx ?_ | refine st_subL 0 i lay_ok rfl rfl rfl rfl ⟨_, _, rfl, rfl⟩ (Nat.zero_le _) ht ?_ | refine st_pure (hu) b99 rfl rfl rfl rfl ?_ | refine st_pure (hw) b185 rfl rfl rfl rfl ?_); exact fin rfl) rfl rfl ?_ | refine dw_dec rfl rfl rfl (fun hg => ?_) (fun hg => ?_) | fail
          all_goals first | omega | (exfalso; rw [hlt] at *; contradiction) | (refine f_r [] rfl trivial rfl ⟨?_, rfl⟩; rw [← e1]; rfl)
end Go.Proofs.YtohmbpcjapjkbaaGreatDoorFn
namespace Go.Proofs.YtohmbpcjapjkbaaGreatDoorFn
open Go.Proofs.YtohmbpcjapjkbaaGreatDoorAl Go.Proofs.Tryz
attribute [local irreducible] IntKind.wrap CodeOk OpsL OpG ACalls thn inBlk rndR cutR WkR Wk fnR DW ExtOk partsOf
def badFrom (l : List EV) : Nat → Nat → Option (Nat × Int)
  | 0, _ => none
  | f + 1, i => match l[i]? with
    | none => none
    | some e => match entryC l i e with
      | some n => some (i, n)
      | none => badFrom l f (i + 1)
theorem badFrom_step (l : List EV) (k : Nat) (h : k < l.length) : badFrom l (l.length - k) k = match entryC l k l[k] with
    | some n => some (k, n)
    | none => badFrom l (l.length - (k + 1)) (k + 1) := by
  have e : l.length - k = l.length - (k + 1) + 1 := by omega
  rw [e]
  simp only [badFrom, List.getElem?_eq_getElem h]
abbrev spotE (i : Nat) (n : Int) : AV := .st (.iface 205 (.sptr [.int .i64 i, .iface 111 (.int .i64 n)]))
/-- Whether entries are a tree. -/
def treeC (l : List EV) : AV := if 32 < l.length then errE 7 else match badFrom l l.length 0 with
  | none => nilE
  | some (i, n) => spotE i n
theorem treeCheck_ok (l : List EV) (hl : l.length ≤ 4000000000) (hp : ∀ e ∈ l, e.path.size ≤ 4000000000 - 1) (hk : ∀ e ∈ l, e.keys.length ≤ 4000000000) :
    ACalls prog 124 0 [.st (.sl 3 (l.map rowE))] [] fun r h => r = treeC l ∧ h = [] := by
  refine fnC lay_ok func124 rfl rfl rfl rfl rfl ?_
  have hm : (List.map rowE l).length = l.length := List.length_map _
  repeat' first | refine ln ?_ | refine stp lay_ok rfl ?_ | refine fin ?_ | refine n_thn ?_ | refine r_thn ?_ | refine .seq ?_ | refine reg ?_ | refine .block ?_ | refine .skip ?_ | refine .ret ?_ | refine c_dec rfl (fun hc => ?_) (fun hc => ?_) | fail
  · refine f_r [] rfl trivial rfl ⟨?_, rfl⟩
    have : 32 < l.length := by omega
    simp only [treeC, this, if_true]; rfl
  · have h32 : ¬ 32 < l.length := by omega
    refine lpR (fun k => k ≤ l.length ∧ badFrom l l.length 0 = badFrom l (l.length - k) k) (fun k => l.length - k) (fun k => [(11, I k)]) (fun k => []) (0) [0, 10] [] [] rfl rfl rfl (.of [] (by (repeat' first | exact trivial | refine And.intro ?_ ?_ | rfl); first | done | fail) (by (repeat' first | exact trivial | refine And.intro ?_ ?_ | rfl); first | done | fail) rfl) ?_ ?_
    · exact ⟨Nat.zero_le _, rfl⟩
    rintro k ⟨h1, h2⟩
    refine nrm rfl rfl ?_
    repeat' first | refine stp lay_ok rfl ?_ | refine fin ?_ | refine n_thn ?_ | refine e_thn ?_ | refine e_hit ?_ | refine e_rr ?_ | refine .seq ?_ | refine reg ?_ | refine .block ?_ | refine .skip ?_ | refine .ret ?_ | refine .exit ?_ | refine c_dec rfl (fun hc => ?_) (fun hc => ?_) | fail
    · have hk' : k < l.length := by omega
      have he := entry_ok l k hk' hl hp hk
      have hb := badFrom_step l k hk'
      cases hx : entryC l k l[k] with
      | none =>
        rw [hx] at he hb
        repeat' first | refine wr (by omega) ?_ | refine stp lay_ok rfl ?_ | refine fin ?_ | refine n_thn ?_ | refine n_blk ?_ | refine .seq ?_ | refine reg ?_ | refine .skip ?_ | refine cndF rfl ?_ | (refine o_none rfl ?_; refine st_pure (he) b156 rfl rfl rfl rfl ?_) | fail
        refine n_rr (k + 1) ?_ (.of [] (by (repeat' first | exact trivial | refine And.intro ?_ ?_ | rfl); first | done | fail) (by (repeat' first | exact trivial | refine And.intro ?_ ?_ | rfl); first | done | fail) rfl) ?_
        · omega
        · exact ⟨hk', h2.trans hb⟩
      | some n =>
        rw [hx] at he hb
        repeat' first | refine o_frb 0 [.int .i64 k, .iface 111 (.int .i64 n)] rfl rfl rfl (by (repeat' first | exact trivial | refine And.intro ?_ ?_ | rfl); first | done | fail) (by (repeat' first | exact trivial | refine And.intro ?_ ?_ | rfl); first | done | fail) rfl rfl ?_ | refine stp lay_ok rfl ?_ | refine fin ?_ | refine n_thn ?_ | refine r_thn ?_ | refine r_blk ?_ | refine r_rr ?_ | refine .seq ?_ | refine reg ?_ | refine .ret ?_ | refine cndT rfl ?_ | (refine o_none rfl ?_; refine st_pure (he) b156 rfl rfl rfl rfl ?_) | fail
        refine f_r [] rfl trivial rfl ⟨?_, rfl⟩
        simp only [treeC, h32, if_false, h2, hb]; rfl
    · refine f_r [] rfl trivial rfl ⟨?_, rfl⟩
      have : k = l.length := by omega
      subst this
      simp only [treeC, h32, if_false, h2, Nat.sub_self]; rfl
end Go.Proofs.YtohmbpcjapjkbaaGreatDoorFn
