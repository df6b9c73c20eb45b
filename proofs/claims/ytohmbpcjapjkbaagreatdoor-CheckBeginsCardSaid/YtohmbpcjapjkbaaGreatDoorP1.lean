/- Texts that the law's proof uses: part 1. -/
import Derived.Test.YtohmbpcjapjkbaaGreatDoorProg
import Derived.Test.YtohmbpcjapjkbaaGreatDoorAlK
import Derived.Test.YtohmbpcjapjkbaaGreatDoorAlZg
import Derived.Test.YtohmbpcjapjkbaaGreatDoorChecked
import Derived.Test.YtohmbpcjapjkbaaGreatDoorAlZi
import Derived.Test.YtohmbpcjapjkbaaGreatDoorAlZo
import Derived.Test.YtohmbpcjapjkbaaGreatDoorAlYb
import Derived.Test.YtohmbpcjapjkbaaGreatDoorAlZz
import Derived.Test.YtohmbpcjapjkbaaGreatDoorAlZn
import Derived.KernelRfl
set_option linter.all false
namespace Go.Proofs.YtohmbpcjapjkbaaGreatDoorFn
open Go.Proofs.YtohmbpcjapjkbaaGreatDoorAl Go.Proofs.Tryz
def lay : Lay :=
  [(2, ⟨(.int .i64), 1, false, true, (.int .i64 0)⟩),
   (3, ⟨(.int .i64), 1, false, true, (.int .i64 0)⟩),
   (4, ⟨.bool, 1, false, true, (.bool false)⟩),
   (5, ⟨(.int .u8), 1, false, true, (.int .u8 0)⟩),
   (6, ⟨(.int .u8), 1, false, true, (.int .u8 0)⟩),
   (7, ⟨(.struct ((0, 1) :: ((1, 1) :: ((2, 1) :: ((3, 1) :: []))))), 4, true, true, (.agg ((.int .i64 0) :: ((.int .i64 0) :: ((.bool false) :: ((.int .u8 0) :: [])))))⟩),
   (8, ⟨(.struct ((0, 1) :: ((1, 1) :: ((2, 1) :: ((3, 1) :: []))))), 4, true, true, (.agg ((.int .i64 0) :: ((.int .i64 0) :: ((.bool false) :: ((.int .u8 0) :: [])))))⟩),
   (9, ⟨.string, 1, false, true, (.str ⟨#[]⟩)⟩),
   (10, ⟨.string, 1, false, true, (.str ⟨#[]⟩)⟩),
   (11, ⟨.string, 1, false, true, (.str ⟨#[]⟩)⟩),
   (12, ⟨(.int .u64), 1, false, true, (.int .u64 0)⟩),
   (13, ⟨(.struct ((0, 1) :: ((1, 1) :: []))), 2, true, true, (.agg ((.str ⟨#[]⟩) :: ((.int .u64 0) :: [])))⟩),
   (14, ⟨(.struct ((0, 1) :: ((1, 1) :: []))), 2, true, true, (.agg ((.str ⟨#[]⟩) :: ((.int .u64 0) :: [])))⟩),
   (15, ⟨.ptr, 1, false, true, .nilptr⟩),
   (16, ⟨.ptr, 1, false, true, .nilptr⟩),
   (17, ⟨.ptr, 1, false, true, .nilptr⟩),
   (18, ⟨(.struct ((0, 1) :: [])), 1, true, true, (.agg (.nilptr :: []))⟩),
   (19, ⟨(.struct ((0, 1) :: [])), 1, true, true, (.agg (.nilptr :: []))⟩),
   (20, ⟨.iface, 1, false, true, .nilIface⟩),
   (21, ⟨(.int .i32), 1, false, true, (.int .i32 0)⟩),
   (22, ⟨(.slice 9 1 16), 1, false, false, .nilsl⟩),
   (25, ⟨.ptr, 1, false, true, .nilptr⟩),
   (27, ⟨(.slice 54 3 48), 1, false, false, .nilsl⟩),
   (28, ⟨(.struct ((0, 1) :: ((1, 1) :: ((2, 1) :: ((3, 1) :: ((4, 1) :: [])))))), 5, true, false, (.agg ((.int .i64 0) :: ((.int .i64 0) :: (.nilsl :: (.nilsl :: (.nilsl :: []))))))⟩),
   (29, ⟨(.struct ((0, 1) :: ((1, 1) :: ((2, 1) :: ((3, 1) :: ((4, 1) :: [])))))), 5, true, false, (.agg ((.int .i64 0) :: ((.int .i64 0) :: (.nilsl :: (.nilsl :: (.nilsl :: []))))))⟩),
   (32, ⟨.ptr, 1, false, true, .nilptr⟩),
   (35, ⟨(.slice 103 4 56), 1, false, false, .nilsl⟩),
   (38, ⟨.ptr, 1, false, true, .nilptr⟩),
   (44, ⟨.ptr, 1, false, true, .nilptr⟩),
   (45, ⟨(.slice 3 1 8), 1, false, false, .nilsl⟩),
   (46, ⟨(.slice 29 5 88), 1, false, false, .nilsl⟩),
   (47, ⟨(.struct ((0, 1) :: ((1, 1) :: ((2, 1) :: ((3, 1) :: []))))), 4, true, false, (.agg (.nilptr :: (.nilsl :: (.nilsl :: (.nilsl :: [])))))⟩),
   (48, ⟨(.struct ((0, 1) :: ((1, 1) :: ((2, 1) :: ((3, 1) :: []))))), 4, true, false, (.agg (.nilptr :: (.nilsl :: (.nilsl :: (.nilsl :: [])))))⟩),
   (51, ⟨(.struct ((0, 1) :: [])), 1, true, false, (.agg (.nilsl :: []))⟩),
   (52, ⟨(.struct ((0, 1) :: [])), 1, true, false, (.agg (.nilsl :: []))⟩),
   (53, ⟨(.struct ((0, 1) :: ((1, 1) :: ((2, 1) :: [])))), 3, true, false, (.agg ((.str ⟨#[]⟩) :: ((.int .i64 0) :: (.nilsl :: []))))⟩),
   (54, ⟨(.struct ((0, 1) :: ((1, 1) :: ((2, 1) :: [])))), 3, true, false, (.agg ((.str ⟨#[]⟩) :: ((.int .i64 0) :: (.nilsl :: []))))⟩),
   (56, ⟨(.struct ((0, 1) :: ((1, 1) :: ((2, 1) :: ((3, 1) :: ((4, 1) :: [])))))), 5, true, false, (.agg ((.int .i64 0) :: ((.str ⟨#[]⟩) :: ((.str ⟨#[]⟩) :: (.nilsl :: ((.int .i64 0) :: []))))))⟩),
   (57, ⟨(.struct ((0, 1) :: ((1, 1) :: ((2, 1) :: ((3, 1) :: ((4, 1) :: [])))))), 5, true, false, (.agg ((.int .i64 0) :: ((.str ⟨#[]⟩) :: ((.str ⟨#[]⟩) :: (.nilsl :: ((.int .i64 0) :: []))))))⟩),
   (58, ⟨(.slice 62 6 80), 1, false, false, .nilsl⟩),
   (59, ⟨(.slice 5 1 1), 1, false, false, .nilsl⟩),
   (61, ⟨(.struct ((0, 1) :: ((1, 5) :: []))), 6, true, false, (.agg ((.int .i64 0) :: ((.int .i64 0) :: ((.str ⟨#[]⟩) :: ((.str ⟨#[]⟩) :: (.nilsl :: ((.int .i64 0) :: [])))))))⟩),
   (62, ⟨(.struct ((0, 1) :: ((1, 5) :: []))), 6, true, false, (.agg ((.int .i64 0) :: ((.int .i64 0) :: ((.str ⟨#[]⟩) :: ((.str ⟨#[]⟩) :: (.nilsl :: ((.int .i64 0) :: [])))))))⟩),
   (63, ⟨.iface, 1, false, true, .nilIface⟩),
   (64, ⟨.iface, 1, false, true, .nilIface⟩),
   (70, ⟨(.slice 79 7 104), 1, false, false, .nilsl⟩),
   (72, ⟨(.slice 22 1 24), 1, false, false, .nilsl⟩),
   (73, ⟨(.struct ((0, 1) :: ((1, 1) :: ((2, 5) :: [])))), 7, true, false, (.agg ((.int .i64 0) :: ((.int .i64 0) :: ((.int .i64 0) :: ((.str ⟨#[]⟩) :: ((.str ⟨#[]⟩) :: (.nilsl :: ((.int .i64 0) :: []))))))))⟩),
   (74, ⟨(.struct ((0, 1) :: ((1, 1) :: ((2, 5) :: [])))), 7, true, false, (.agg ((.int .i64 0) :: ((.int .i64 0) :: ((.int .i64 0) :: ((.str ⟨#[]⟩) :: ((.str ⟨#[]⟩) :: (.nilsl :: ((.int .i64 0) :: []))))))))⟩),
   (78, ⟨(.struct ((0, 1) :: ((1, 1) :: ((2, 5) :: [])))), 7, true, false, (.agg ((.int .i64 0) :: ((.int .i64 0) :: ((.int .i64 0) :: ((.int .i64 0) :: (.nilsl :: (.nilsl :: (.nilsl :: []))))))))⟩),
   (79, ⟨(.struct ((0, 1) :: ((1, 1) :: ((2, 5) :: [])))), 7, true, false, (.agg ((.int .i64 0) :: ((.int .i64 0) :: ((.int .i64 0) :: ((.int .i64 0) :: (.nilsl :: (.nilsl :: (.nilsl :: []))))))))⟩),
   (93, ⟨(.struct ((0, 1) :: ((1, 5) :: []))), 6, true, false, (.agg ((.int .i64 0) :: ((.int .i64 0) :: ((.int .i64 0) :: (.nilsl :: (.nilsl :: (.nilsl :: [])))))))⟩),
   (94, ⟨(.struct ((0, 1) :: ((1, 5) :: []))), 6, true, false, (.agg ((.int .i64 0) :: ((.int .i64 0) :: ((.int .i64 0) :: (.nilsl :: (.nilsl :: (.nilsl :: [])))))))⟩),
   (95, ⟨.other, 48, true, false, (.agg ((.int .i64 0) :: ((.int .i64 0) :: ((.int .i64 0) :: (.nilsl :: (.nilsl :: (.nilsl :: ((.int .i64 0) :: ((.int .i64 0) :: ((.int .i64 0) :: (.nilsl :: (.nilsl :: (.nilsl :: ((.int .i64 0) :: ((.int .i64 0) :: ((.int .i64 0) :: (.nilsl :: (.nilsl :: (.nilsl :: ((.int .i64 0) :: ((.int .i64 0) :: ((.int .i64 0) :: (.nilsl :: (.nilsl :: (.nilsl :: ((.int .i64 0) :: ((.int .i64 0) :: ((.int .i64 0) :: (.nilsl :: (.nilsl :: (.nilsl :: ((.int .i64 0) :: ((.int .i64 0) :: ((.int .i64 0) :: (.nilsl :: (.nilsl :: (.nilsl :: ((.int .i64 0) :: ((.int .i64 0) :: ((.int .i64 0) :: (.nilsl :: (.nilsl :: (.nilsl :: ((.int .i64 0) :: ((.int .i64 0) :: ((.int .i64 0) :: (.nilsl :: (.nilsl :: (.nilsl :: [])))))))))))))))))))))))))))))))))))))))))))))))))⟩),
   (96, ⟨(.struct ((0, 1) :: ((1, 48) :: ((49, 1) :: [])))), 50, true, false, (.agg (.nilptr :: ((.int .i64 0) :: ((.int .i64 0) :: ((.int .i64 0) :: (.nilsl :: (.nilsl :: (.nilsl :: ((.int .i64 0) :: ((.int .i64 0) :: ((.int .i64 0) :: (.nilsl :: (.nilsl :: (.nilsl :: ((.int .i64 0) :: ((.int .i64 0) :: ((.int .i64 0) :: (.nilsl :: (.nilsl :: (.nilsl :: ((.int .i64 0) :: ((.int .i64 0) :: ((.int .i64 0) :: (.nilsl :: (.nilsl :: (.nilsl :: ((.int .i64 0) :: ((.int .i64 0) :: ((.int .i64 0) :: (.nilsl :: (.nilsl :: (.nilsl :: ((.int .i64 0) :: ((.int .i64 0) :: ((.int .i64 0) :: (.nilsl :: (.nilsl :: (.nilsl :: ((.int .i64 0) :: ((.int .i64 0) :: ((.int .i64 0) :: (.nilsl :: (.nilsl :: (.nilsl :: ((.int .i64 0) :: ((.int .i64 0) :: ((.int .i64 0) :: (.nilsl :: (.nilsl :: (.nilsl :: (.nilsl :: [])))))))))))))))))))))))))))))))))))))))))))))))))))⟩),
   (97, ⟨(.struct ((0, 1) :: ((1, 48) :: ((49, 1) :: [])))), 50, true, false, (.agg (.nilptr :: ((.int .i64 0) :: ((.int .i64 0) :: ((.int .i64 0) :: (.nilsl :: (.nilsl :: (.nilsl :: ((.int .i64 0) :: ((.int .i64 0) :: ((.int .i64 0) :: (.nilsl :: (.nilsl :: (.nilsl :: ((.int .i64 0) :: ((.int .i64 0) :: ((.int .i64 0) :: (.nilsl :: (.nilsl :: (.nilsl :: ((.int .i64 0) :: ((.int .i64 0) :: ((.int .i64 0) :: (.nilsl :: (.nilsl :: (.nilsl :: ((.int .i64 0) :: ((.int .i64 0) :: ((.int .i64 0) :: (.nilsl :: (.nilsl :: (.nilsl :: ((.int .i64 0) :: ((.int .i64 0) :: ((.int .i64 0) :: (.nilsl :: (.nilsl :: (.nilsl :: ((.int .i64 0) :: ((.int .i64 0) :: ((.int .i64 0) :: (.nilsl :: (.nilsl :: (.nilsl :: ((.int .i64 0) :: ((.int .i64 0) :: ((.int .i64 0) :: (.nilsl :: (.nilsl :: (.nilsl :: (.nilsl :: [])))))))))))))))))))))))))))))))))))))))))))))))))))⟩),
   (102, ⟨(.struct ((0, 1) :: ((1, 1) :: ((2, 1) :: ((3, 1) :: []))))), 4, true, false, (.agg ((.int .i64 0) :: ((.str ⟨#[]⟩) :: ((.bool false) :: (.nilsl :: [])))))⟩),
   (103, ⟨(.struct ((0, 1) :: ((1, 1) :: ((2, 1) :: ((3, 1) :: []))))), 4, true, false, (.agg ((.int .i64 0) :: ((.str ⟨#[]⟩) :: ((.bool false) :: (.nilsl :: [])))))⟩),
   (106, ⟨(.struct ((0, 1) :: [])), 1, true, false, (.agg (.nilsl :: []))⟩),
   (107, ⟨(.struct ((0, 1) :: [])), 1, true, false, (.agg (.nilsl :: []))⟩),
   (111, ⟨(.int .i64), 1, false, true, (.int .i64 0)⟩),
   (121, ⟨.ptr, 1, false, true, .nilptr⟩),
   (122, ⟨(.struct ((0, 1) :: ((1, 1) :: ((2, 1) :: [])))), 3, true, false, (.agg (.nilsl :: ((.int .i64 0) :: ((.bool false) :: []))))⟩),
   (123, ⟨(.struct ((0, 1) :: ((1, 1) :: ((2, 1) :: [])))), 3, true, false, (.agg (.nilsl :: ((.int .i64 0) :: ((.bool false) :: []))))⟩),
   (125, ⟨.ptr, 1, false, true, .nilptr⟩),
   (126, ⟨(.struct ((0, 1) :: ((1, 1) :: ((2, 1) :: [])))), 3, true, false, (.agg (.nilsl :: ((.int .i64 0) :: ((.bool false) :: []))))⟩),
   (127, ⟨(.struct ((0, 1) :: ((1, 1) :: ((2, 1) :: [])))), 3, true, false, (.agg (.nilsl :: ((.int .i64 0) :: ((.bool false) :: []))))⟩),
   (129, ⟨(.int .u64), 1, false, true, (.int .u64 0)⟩),
   (135, ⟨(.map 137 29), 1, false, false, .nilmap⟩),
   (136, ⟨(.struct ((0, 1) :: ((1, 1) :: []))), 2, true, true, (.agg ((.int .i64 0) :: ((.int .i64 0) :: [])))⟩),
   (137, ⟨(.struct ((0, 1) :: ((1, 1) :: []))), 2, true, true, (.agg ((.int .i64 0) :: ((.int .i64 0) :: [])))⟩),
   (140, ⟨.ptr, 1, false, true, .nilptr⟩),
   (141, ⟨(.struct ((0, 1) :: ((1, 1) :: ((2, 1) :: [])))), 3, true, false, (.agg (.nilsl :: ((.int .i64 0) :: ((.bool false) :: []))))⟩),
   (142, ⟨(.struct ((0, 1) :: ((1, 1) :: ((2, 1) :: [])))), 3, true, false, (.agg (.nilsl :: ((.int .i64 0) :: ((.bool false) :: []))))⟩),
   (149, ⟨(.map 9 4), 1, false, false, .nilmap⟩),
   (156, ⟨.ptr, 1, false, true, .nilptr⟩),
   (188, ⟨.ptr, 1, false, true, .nilptr⟩),
   (189, ⟨(.struct ((0, 1) :: ((1, 1) :: []))), 2, true, false, (.agg (.nilptr :: (.nilsl :: [])))⟩),
   (190, ⟨(.struct ((0, 1) :: ((1, 1) :: []))), 2, true, false, (.agg (.nilptr :: (.nilsl :: [])))⟩),
   (196, ⟨(.int .u64), 1, false, true, (.int .u64 0)⟩),
   (205, ⟨.ptr, 1, false, true, .nilptr⟩),
   (206, ⟨(.struct ((0, 1) :: ((1, 1) :: []))), 2, true, true, (.agg ((.int .i64 0) :: (.nilIface :: [])))⟩),
   (207, ⟨(.struct ((0, 1) :: ((1, 1) :: []))), 2, true, true, (.agg ((.int .i64 0) :: (.nilIface :: [])))⟩),
   (211, ⟨.ptr, 1, false, true, .nilptr⟩),
   (213, ⟨(.int .i64), 1, false, true, (.int .i64 0)⟩),
   (220, ⟨(.int .u32), 1, false, true, (.int .u32 0)⟩),
   (229, ⟨.other, 1, false, true, .nilptr⟩),
   (231, ⟨(.int .u64), 1, false, true, (.int .u64 0)⟩),
   (235, ⟨.ptr, 1, false, true, .nilptr⟩),
   (245, ⟨.ptr, 1, false, true, .nilptr⟩),
   (255, ⟨(.struct ((0, 1) :: ((1, 1) :: []))), 2, true, true, (.agg ((.int .u8 0) :: ((.int .u8 0) :: [])))⟩),
   (256, ⟨(.struct ((0, 1) :: ((1, 1) :: []))), 2, true, true, (.agg ((.int .u8 0) :: ((.int .u8 0) :: [])))⟩),
   (257, ⟨.other, 32, true, true, (.agg ((.int .u8 0) :: ((.int .u8 0) :: ((.int .u8 0) :: ((.int .u8 0) :: ((.int .u8 0) :: ((.int .u8 0) :: ((.int .u8 0) :: ((.int .u8 0) :: ((.int .u8 0) :: ((.int .u8 0) :: ((.int .u8 0) :: ((.int .u8 0) :: ((.int .u8 0) :: ((.int .u8 0) :: ((.int .u8 0) :: ((.int .u8 0) :: ((.int .u8 0) :: ((.int .u8 0) :: ((.int .u8 0) :: ((.int .u8 0) :: ((.int .u8 0) :: ((.int .u8 0) :: ((.int .u8 0) :: ((.int .u8 0) :: ((.int .u8 0) :: ((.int .u8 0) :: ((.int .u8 0) :: ((.int .u8 0) :: ((.int .u8 0) :: ((.int .u8 0) :: ((.int .u8 0) :: ((.int .u8 0) :: [])))))))))))))))))))))))))))))))))⟩),
   (258, ⟨(.struct ((0, 1) :: ((1, 1) :: ((2, 1) :: ((3, 1) :: []))))), 4, true, true, (.agg (.nilptr :: (.nilptr :: (.nilptr :: ((.str ⟨#[]⟩) :: [])))))⟩),
   (259, ⟨(.struct ((0, 1) :: ((1, 1) :: ((2, 1) :: ((3, 1) :: []))))), 4, true, true, (.agg (.nilptr :: (.nilptr :: (.nilptr :: ((.str ⟨#[]⟩) :: [])))))⟩),
   (260, ⟨.other, 0, true, true, (.agg [])⟩),
   (261, ⟨(.struct ((0, 0) :: [])), 0, true, true, (.agg [])⟩),
   (262, ⟨(.struct ((0, 0) :: [])), 0, true, true, (.agg [])⟩),
   (263, ⟨(.int .u8), 1, false, true, (.int .u8 0)⟩),
   (264, ⟨(.int .u8), 1, false, true, (.int .u8 0)⟩),
   (266, ⟨(.int .i32), 1, false, true, (.int .i32 0)⟩),
   (267, ⟨(.int .i32), 1, false, true, (.int .i32 0)⟩),
   (268, ⟨(.struct ((0, 1) :: ((1, 1) :: ((2, 1) :: ((3, 1) :: ((4, 1) :: ((5, 1) :: ((6, 1) :: ((7, 1) :: ((8, 1) :: ((9, 1) :: ((10, 1) :: [])))))))))))), 11, true, false, (.agg ((.int .u64 0) :: ((.int .u64 0) :: ((.int .u32 0) :: ((.int .u8 0) :: ((.int .u8 0) :: ((.int .u8 0) :: ((.int .u8 0) :: (.nilFunc :: (.nilptr :: ((.int .i32 0) :: ((.int .i32 0) :: []))))))))))))⟩),
   (269, ⟨(.struct ((0, 1) :: ((1, 1) :: ((2, 1) :: ((3, 1) :: ((4, 1) :: ((5, 1) :: ((6, 1) :: ((7, 1) :: ((8, 1) :: ((9, 1) :: ((10, 1) :: [])))))))))))), 11, true, false, (.agg ((.int .u64 0) :: ((.int .u64 0) :: ((.int .u32 0) :: ((.int .u8 0) :: ((.int .u8 0) :: ((.int .u8 0) :: ((.int .u8 0) :: (.nilFunc :: (.nilptr :: ((.int .i32 0) :: ((.int .i32 0) :: []))))))))))))⟩)]
theorem lay_ok : LayOk prog lay := by
  have h : layOf prog [2, 3, 4, 5, 6, 7, 8, 9, 10, 11, 12, 13, 14, 15, 16, 17, 18, 19, 20, 21, 22, 25, 27, 28, 29, 32, 35, 38, 44, 45, 46, 47, 48, 51, 52, 53, 54, 56, 57, 58, 59, 61, 62, 63, 64, 70, 72, 73, 74, 78, 79, 93, 94, 95, 96, 97, 102, 103, 106, 107, 111, 121, 122, 123, 125, 126, 127, 129, 135, 136, 137, 140, 141, 142, 149, 156, 188, 189, 190, 196, 205, 206, 207, 211, 213, 220, 229, 231, 235, 245, 255, 256, 257, 258, 259, 260, 261, 262, 263, 264, 266, 267, 268, 269] = lay := by kernel_rfl
  rw [← h]
  exact layOf_ok _ _
end Go.Proofs.YtohmbpcjapjkbaaGreatDoorFn
namespace Go.Proofs.YtohmbpcjapjkbaaGreatDoorFn
open Go.Proofs.YtohmbpcjapjkbaaGreatDoorAl Go.Proofs.Tryz
attribute [local irreducible] IntKind.wrap CodeOk OpsL OpG ACalls thn inBlk rndR cutR WkR Wk fnR DW ExtOk
abbrev I (n : Int) : AV := .st (.int .i64 n)
abbrev B (b : Bool) : AV := .st (.bool b)
theorem mixed : prog.follows .mixedOrders = true := Tryz.checked.mixed
/-! ### cut at the slashes -/
def spl : List UInt8 → List (List UInt8)
  | [] => [[]]
  | b :: r => if b = 47 then [] :: spl r else match spl r with
    | [] => [[b]]
    | h :: t => (b :: h) :: t
/-- A path's parts. -/
def partsOf (s : ByteArray) : List ByteArray := (spl s.data.toList).map fun l => ⟨l.toArray⟩
def rowS (s : ByteArray) : List SV := [.str s]
theorem at_rowS {l : List ByteArray} {k : Nat} (h : k < l.length) : (l.map rowS)[((k : Nat) : Int).toNat]? = some (rowS l[k]) := by simp [h]
end Go.Proofs.YtohmbpcjapjkbaaGreatDoorFn
namespace Go.Proofs.YtohmbpcjapjkbaaGreatDoorFn
open Go.Proofs.YtohmbpcjapjkbaaGreatDoorAl Go.Proofs.Tryz
attribute [local irreducible] IntKind.wrap CodeOk OpsL OpG ACalls thn inBlk rndR cutR WkR Wk fnR DW ExtOk
end Go.Proofs.YtohmbpcjapjkbaaGreatDoorFn
namespace Go.Proofs.YtohmbpcjapjkbaaGreatDoorFn
open Go.Proofs.YtohmbpcjapjkbaaGreatDoorAl Go.Proofs.Tryz
attribute [local irreducible] IntKind.wrap CodeOk OpsL OpG ACalls thn inBlk rndR cutR WkR Wk fnR DW ExtOk
/-! ### the first that is so -/
def fidx {α : Type} (p : α → Bool) : List α → Int
  | [] => -1
  | x :: xs => if p x then 0 else if fidx p xs < 0 then -1 else fidx p xs + 1
theorem fidx_iff {α : Type} (p : α → Bool) : ∀ l : List α, (0 ≤ fidx p l ↔ l.any p = true)
  | [] => by simp [fidx]
  | x :: xs => by
    have ih := fidx_iff p xs
    rw [List.any_cons, Bool.or_eq_true, ← ih]
    have e : fidx p (x :: xs) = if p x then 0 else if fidx p xs < 0 then -1 else fidx p xs + 1 := rfl
    rw [e]
    generalize fidx p xs = z
    split
    · rename_i h; simp [h]
    · rename_i h
      split
      · constructor
        · intro h2; omega
        · rintro (h2 | h2)
          · exact absurd h2 h
          · omega
      · constructor
        · intro _; right; omega
        · intro _; omega
theorem fidx_any {α : Type} (p : α → Bool) (l : List α) : decide (fidx p l ≥ 0) = l.any p := by
  rw [Bool.eq_iff_iff, decide_eq_true_eq]; exact fidx_iff p l
theorem fidx_step {α : Type} (p : α → Bool) : ∀ (l : List α) (k : Nat) (hk : k < l.length), (∀ j (h : j < k), p (l[j]'(by omega)) = false) → p l[k] = true → fidx p l = k
  | [], k, hk, _, _ => by simp at hk
  | x :: xs, 0, hk, _, h => by simp only [List.getElem_cons_zero] at h; simp [fidx, h]
  | x :: xs, k + 1, hk, h1, h => by
    have h0 := h1 0 (by omega)
    simp only [List.getElem_cons_zero] at h0
    have ih := fidx_step p xs k (by simpa using hk) (fun j hj => by have := h1 (j + 1) (by omega); simpa using this) (by simpa using h)
    simp only [fidx, h0, Bool.false_eq_true, if_false, ih]
    rw [if_neg (by omega)]; omega
theorem fidx_none {α : Type} (p : α → Bool) : ∀ (l : List α), (∀ j (h : j < l.length), p l[j] = false) → fidx p l = -1
  | [], _ => rfl
  | x :: xs, h1 => by
    have h0 := h1 0 (by simp)
    simp only [List.getElem_cons_zero] at h0
    have ih := fidx_none p xs (fun j hj => by have := h1 (j + 1) (by simpa using hj); simpa using this)
    simp only [fidx, h0, Bool.false_eq_true, if_false, ih]; rfl

end Go.Proofs.YtohmbpcjapjkbaaGreatDoorFn
namespace Go.Proofs.YtohmbpcjapjkbaaGreatDoorFn
open Go.Proofs.YtohmbpcjapjkbaaGreatDoorAl Go.Proofs.Tryz
attribute [local irreducible] IntKind.wrap CodeOk OpsL OpG ACalls thn inBlk rndR cutR WkR Wk fnR DW ExtOk partsOf
end Go.Proofs.YtohmbpcjapjkbaaGreatDoorFn
namespace Go.Proofs.YtohmbpcjapjkbaaGreatDoorFn
open Go.Proofs.YtohmbpcjapjkbaaGreatDoorAl Go.Proofs.Tryz
attribute [local irreducible] IntKind.wrap CodeOk OpsL OpG ACalls thn inBlk rndR cutR WkR Wk fnR DW ExtOk partsOf
theorem all_take {α : Type} {p : α → Bool} {l : List α} {k : Nat} (h : k < l.length) : (l.take (k + 1)).all p = ((l.take k).all p && p l[k]) := by
  rw [List.take_succ_eq_append_getElem h, List.all_append]; simp only [List.all_cons, List.all_nil, Bool.and_true]
theorem all_not {α : Type} {p : α → Bool} {l : List α} {k : Nat} (h : k < l.length) (hp : p l[k] = false) : l.all p = false := by
  rw [List.all_eq_false]
  exact ⟨_, List.getElem_mem h, by simp [hp]⟩
end Go.Proofs.YtohmbpcjapjkbaaGreatDoorFn
namespace Go.Proofs.YtohmbpcjapjkbaaGreatDoorFn
open Go.Proofs.YtohmbpcjapjkbaaGreatDoorAl Go.Proofs.Tryz
attribute [local irreducible] IntKind.wrap CodeOk OpsL OpG ACalls thn inBlk rndR cutR WkR Wk fnR DW ExtOk partsOf
theorem b51 : HasBody prog 51 := ⟨f51, func51, Option.some_ne_none _, by decide⟩
theorem rowS_one {b : List ByteArray} : ∀ row ∈ b.map rowS, ∀ y ∈ row, SV.one y = true := by
  intro row hr y hy
  obtain ⟨_, _, rfl⟩ := List.mem_map.1 hr
  simp only [rowS, List.mem_singleton] at hy; subst hy; rfl
theorem cloneS_ok (b : List ByteArray) (hb : b.length ≤ 4000000000) : ACalls prog 51 0 [.st (.sl 1 (b.map rowS))] [] fun r h => r = .st (.sl 1 (b.map rowS)) ∧ h = [] := by
  refine fnC lay_ok func51 rfl rfl rfl rfl rfl ?_
  have hm : (List.map rowS b).length = b.length := List.length_map _
  repeat' first | refine stp lay_ok rfl ?_ | refine fin ?_ | refine n_thn ?_ | refine r_thn ?_ | refine .seq ?_ | refine reg ?_ | refine .skip ?_ | refine .ret ?_ | refine cnd rfl (fun hc => ?_) (fun hc => ?_) | (refine o_none rfl ?_; (first | refine st_nilSl lay_ok rfl rfl rfl rfl (fun z hz => ?_) | refine st_append lay_ok rfl rfl rfl rfl rfl rfl rfl rfl .sl0 .sl rfl rowS_one (by simp only [List.length_nil]; omega) (by simp only [List.length_nil]; omega) ?_)) | fail
  · cases z with
    | false => cases hc
    | true =>
      rw [hz rfl]
      refine f_end (n0 := 0) (t'' := [(2, .st (.sl 1 []))]) (h'' := []) (Wk.then (Wk.trans (Wk.nilT 1 2 rfl rfl) (Wk.frz 0 [2] rfl rfl rfl (by (repeat' first | exact trivial | refine And.intro ?_ ?_ | rfl); first | done | fail) (by (repeat' first | exact trivial | refine And.intro ?_ ?_ | rfl); first | done | fail) rfl rfl)) (WkR.of [] (by (repeat' first | exact trivial | refine And.intro ?_ ?_ | rfl); first | done | fail) (by (repeat' first | exact trivial | refine And.intro ?_ ?_ | rfl); first | done | fail) rfl)) rfl rfl ⟨?_, rfl⟩
      rfl
  · refine f_end (n0 := 0) (t'' := [(2, .st (.sl 1 (b.map rowS)))]) (h'' := []) (Wk.then (Wk.frz 0 [2] rfl rfl rfl (by (repeat' first | exact trivial | refine And.intro ?_ ?_ | rfl); first | done | fail) (by (repeat' first | exact trivial | refine And.intro ?_ ?_ | rfl); first | done | fail) rfl rfl) (WkR.of [] (by (repeat' first | exact trivial | refine And.intro ?_ ?_ | rfl); first | done | fail) (by (repeat' first | exact trivial | refine And.intro ?_ ?_ | rfl); first | done | fail) rfl)) rfl rfl ⟨?_, rfl⟩
    rfl
end Go.Proofs.YtohmbpcjapjkbaaGreatDoorFn
namespace Go.Proofs.YtohmbpcjapjkbaaGreatDoorFn
open Go.Proofs.YtohmbpcjapjkbaaGreatDoorAl Go.Proofs.Tryz
attribute [local irreducible] IntKind.wrap CodeOk OpsL OpG ACalls thn inBlk rndR cutR WkR Wk fnR DW ExtOk partsOf
theorem b25 : HasBody prog 25 := ⟨f25, func25, Option.some_ne_none _, by decide⟩
theorem list_ext {α : Type} {a b : List α} (hl : a.length = b.length) (h : ∀ j (h1 : j < a.length) (h2 : j < b.length), a[j] = b[j]) : a = b := List.ext_getElem hl h
theorem same3_ok (a b : List ByteArray) (ha : a.length ≤ 4000000000) (hb : b.length ≤ 4000000000) : ACalls prog 25 0 [.st (.sl 1 (a.map rowS)), .st (.sl 1 (b.map rowS))] [] fun r h => r = B (decide (a = b)) ∧ h = [] := by
  have hma : (List.map rowS a).length = a.length := List.length_map _
  have hmb : (List.map rowS b).length = b.length := List.length_map _
  refine fnC lay_ok func25 rfl rfl rfl rfl rfl ?_
  repeat' first | refine ln ?_ | refine stp lay_ok rfl ?_ | refine fin ?_ | refine n_thn ?_ | refine r_thn ?_ | refine .seq ?_ | refine reg ?_ | refine .block ?_ | refine .skip ?_ | refine .ret ?_ | refine c_dec rfl (fun hc => ?_) (fun hc => ?_) | fail
  · refine f_r [] rfl trivial rfl ⟨?_, rfl⟩
    rw [decide_eq_false (by rintro rfl; omega)]; rfl
  · have hl : a.length = b.length := by omega
    refine lpR (fun k => k ≤ a.length ∧ ∀ j (h1 : j < a.length) (h2 : j < b.length), j < k → a[j] = b[j]) (fun k => a.length - k) (fun k => [(5, I k)]) (fun k => []) (0) [0, 1] [] [] rfl rfl rfl (.of [] (by (repeat' first | exact trivial | refine And.intro ?_ ?_ | rfl); first | done | fail) (by (repeat' first | exact trivial | refine And.intro ?_ ?_ | rfl); first | done | fail) rfl) ?_ ?_
    · exact ⟨Nat.zero_le _, fun j h1 h2 h3 => by omega⟩
    rintro k ⟨hk, hall⟩
    refine nrm rfl rfl ?_
    repeat' first | refine ln ?_ | refine stp lay_ok rfl ?_ | refine fin ?_ | refine n_thn ?_ | refine e_thn ?_ | refine e_hit ?_ | refine e_rr ?_ | refine .seq ?_ | refine reg ?_ | refine .block ?_ | refine .skip ?_ | refine .ret ?_ | refine .exit ?_ | refine c_dec rfl (fun hc => ?_) (fun hc => ?_) | fail
    · have hka : k < a.length := by omega
      have hkb : k < b.length := by omega
      have hat := at_rowS hka
      have hbt := at_rowS hkb
      refine dreg [(0, [], [18, 21, 22, 23, 24]), (1, [], [17, 21, 22, 23, 24]), (2, [0, 1], [21, 22, 23, 24]), (3, [0, 1, 2], [21, 22, 23, 24]), (4, [], [17, 18, 19, 20, 22]), (5, [], [17, 18, 19, 20, 21]), (6, [4, 5], [17, 18, 19, 20]), (7, [4, 5, 6], [17, 18, 19, 20]), (8, [0, 1, 2, 3, 4, 5, 6, 7], [])] mixed (by kernel_rfl) ?_
      repeat' first | refine wr (by omega) ?_ | refine stp lay_ok rfl ?_ | refine fin ?_ | refine n_thn ?_ | refine n_blk ?_ | refine r_thn ?_ | refine r_blk ?_ | refine r_rr ?_ | refine .seq ?_ | refine reg ?_ | refine .skip ?_ | refine .ret ?_ | refine c_dec rfl (fun hc => ?_) (fun hc => ?_) | refine dws lay_ok rfl rfl rfl rfl rfl rfl rfl ?_ | refine dw_end ?_ | refine dwb rfl rfl rfl rfl rfl (by (first | refine st_index (rowS a[k]) lay_ok rfl rfl rfl rfl (by omega) hat ?_ | refine st_index (rowS b[k]) lay_ok rfl rfl rfl rfl (by omega) hbt ?_); exact fin rfl) rfl rfl ?_ | fail
      · refine f_r [] rfl trivial rfl ⟨?_, rfl⟩
        rw [decide_eq_false (fun e => hc (by subst e; rfl))]; rfl
      · refine n_rr (k + 1) ?_ (.of [] (by (repeat' first | exact trivial | refine And.intro ?_ ?_ | rfl); first | done | fail) (by (repeat' first | exact trivial | refine And.intro ?_ ?_ | rfl); first | done | fail) rfl) ?_
        · omega
        · refine ⟨hka, fun j h1 h2 h3 => ?_⟩
          by_cases hj : j = k
          · subst hj; exact Decidable.not_not.1 hc
          · exact hall j h1 h2 (by omega)
    · refine f_r [] rfl trivial rfl ⟨?_, rfl⟩
      rw [decide_eq_true (list_ext hl fun j h1 h2 => hall j h1 h2 (by omega))]; rfl
end Go.Proofs.YtohmbpcjapjkbaaGreatDoorFn
namespace Go.Proofs.YtohmbpcjapjkbaaGreatDoorFn
open Go.Proofs.YtohmbpcjapjkbaaGreatDoorAl Go.Proofs.Tryz
attribute [local irreducible] IntKind.wrap CodeOk OpsL OpG ACalls thn inBlk rndR cutR WkR Wk fnR DW ExtOk partsOf
theorem b117 : HasBody prog 117 := ⟨f117, func117, Option.some_ne_none _, by decide⟩
theorem b77 : HasBody prog 77 := ⟨f77, func77, Option.some_ne_none _, by decide⟩
theorem b76 : HasBody prog 76 := ⟨f76, func76, Option.some_ne_none _, by decide⟩
theorem b116 : HasBody prog 116 := ⟨f116, func116, Option.some_ne_none _, by decide⟩
theorem b75 : HasBody prog 75 := ⟨f75, func75, Option.some_ne_none _, by decide⟩
theorem b41 : HasBody prog 41 := ⟨f41, func41, Option.some_ne_none _, by decide⟩
theorem b42 : HasBody prog 42 := ⟨f42, func42, Option.some_ne_none _, by decide⟩
theorem b40 : HasBody prog 40 := ⟨f40, func40, Option.some_ne_none _, by decide⟩
/-! ### rows of texts: do they begin alike? -/
abbrev rowL (x : List ByteArray) : List SV := [.sl 1 (x.map rowS)]
def begB (a b : List ByteArray) : Bool := decide (a.take (min a.length b.length) = b.take (min a.length b.length))
theorem at_rowL {l : List (List ByteArray)} {k : Nat} (h : k < l.length) : (List.map rowL l)[((k : Nat) : Int).toNat]? = some (rowL l[k]) := by simp [h]
theorem equalS_ok (a b : List ByteArray) (ha : a.length ≤ 4000000000) (hb : b.length ≤ 4000000000) : ACalls prog 117 0 [.st (.sl 1 (a.map rowS)), .st (.sl 1 (b.map rowS))] [] fun r h => r = B (decide (a = b)) ∧ h = [] := by
  have hma : (List.map rowS a).length = a.length := List.length_map _
  have hmb : (List.map rowS b).length = b.length := List.length_map _
  refine fnC lay_ok func117 rfl rfl rfl rfl rfl ?_
  repeat' first | refine ln ?_ | refine stp lay_ok rfl ?_ | refine fin ?_ | refine n_thn ?_ | refine r_thn ?_ | refine .seq ?_ | refine reg ?_ | refine .block ?_ | refine .skip ?_ | refine .ret ?_ | refine c_dec rfl (fun hc => ?_) (fun hc => ?_) | fail
  · refine f_r [] rfl trivial rfl ⟨?_, rfl⟩
    rw [decide_eq_false (by rintro rfl; omega)]; rfl
  · have hl : a.length = b.length := by omega
    refine lpR (fun k => k ≤ a.length ∧ ∀ j (h1 : j < a.length) (h2 : j < b.length), j < k → a[j] = b[j]) (fun k => a.length - k) (fun k => [(13, I k)]) (fun k => []) (0) [0, 1, 12] [] [] rfl rfl rfl (.of [] (by (repeat' first | exact trivial | refine And.intro ?_ ?_ | rfl); first | done | fail) (by (repeat' first | exact trivial | refine And.intro ?_ ?_ | rfl); first | done | fail) rfl) ?_ ?_
    · exact ⟨Nat.zero_le _, fun j h1 h2 h3 => by omega⟩
    rintro k ⟨hk, hall⟩
    refine nrm rfl rfl ?_
    repeat' first | refine stp lay_ok rfl ?_ | refine fin ?_ | refine n_thn ?_ | refine e_thn ?_ | refine e_hit ?_ | refine e_rr ?_ | refine .seq ?_ | refine reg ?_ | refine .block ?_ | refine .skip ?_ | refine .ret ?_ | refine .exit ?_ | refine c_dec rfl (fun hc => ?_) (fun hc => ?_) | fail
    · have hka : k < a.length := by omega
      have hkb : k < b.length := by omega
      have hat := at_rowS hka
      have hbt := at_rowS hkb
      refine dreg [(0, [], [17, 20, 21, 22, 23]), (1, [], [16, 20, 21, 22, 23]), (2, [0, 1], [20, 21, 22, 23]), (3, [0, 1, 2], [20, 21, 22, 23]), (4, [], [16, 17, 18, 19, 21]), (5, [], [16, 17, 18, 19, 20]), (6, [4, 5], [16, 17, 18, 19]), (7, [4, 5, 6], [16, 17, 18, 19]), (8, [0, 1, 2, 3, 4, 5, 6, 7], [])] mixed (by kernel_rfl) ?_
      repeat' first | refine wr (by omega) ?_ | refine stp lay_ok rfl ?_ | refine fin ?_ | refine n_thn ?_ | refine n_blk ?_ | refine r_thn ?_ | refine r_blk ?_ | refine r_rr ?_ | refine .seq ?_ | refine reg ?_ | refine .skip ?_ | refine .ret ?_ | refine c_dec rfl (fun hc => ?_) (fun hc => ?_) | refine dws lay_ok rfl rfl rfl rfl rfl rfl rfl ?_ | refine dw_end ?_ | refine dwb rfl rfl rfl rfl rfl (by (first | refine st_index (rowS a[k]) lay_ok rfl rfl rfl rfl (by omega) hat ?_ | refine st_index (rowS b[k]) lay_ok rfl rfl rfl rfl (by omega) hbt ?_); exact fin rfl) rfl rfl ?_ | fail
      · refine f_r [] rfl trivial rfl ⟨?_, rfl⟩
        rw [decide_eq_false (fun e => hc (by subst e; rfl))]; rfl
      · refine n_rr (k + 1) ?_ (.of [] (by (repeat' first | exact trivial | refine And.intro ?_ ?_ | rfl); first | done | fail) (by (repeat' first | exact trivial | refine And.intro ?_ ?_ | rfl); first | done | fail) rfl) ?_
        · omega
        · refine ⟨hka, fun j h1 h2 h3 => ?_⟩
          by_cases hj : j = k
          · subst hj; exact Decidable.not_not.1 hc
          · exact hall j h1 h2 (by omega)
    · refine f_r [] rfl trivial rfl ⟨?_, rfl⟩
      rw [decide_eq_true (list_ext hl fun j h1 h2 => hall j h1 h2 (by omega))]; rfl
theorem begins_ok (a b : List ByteArray) (ha : a.length ≤ 4000000000) (hb : b.length ≤ 4000000000) : ACalls prog 77 0 [.st (.sl 1 (a.map rowS)), .st (.sl 1 (b.map rowS))] [] fun r h => r = B (begB a b) ∧ h = [] := by
  have h1 := equalS_ok (a.take (min a.length b.length)) (b.take (min a.length b.length)) (by simp; omega) (by simp; omega)
  have hma : (List.map rowS a).length = a.length := List.length_map _
  have hmb : (List.map rowS b).length = b.length := List.length_map _
  rw [List.map_take, List.map_take] at h1
  have hmin : min (a.length : Int) b.length = ((min a.length b.length : Nat) : Int) := by omega
  refine fnC lay_ok func77 rfl rfl rfl rfl rfl ?_
  repeat' first | refine ln ?_ | refine stp lay_ok rfl ?_ | refine fin ?_ | refine n_thn ?_ | refine .seq ?_ | refine reg ?_ | (refine o_none rfl ?_; refine st_min rfl rfl ?_) | fail
  rw [hmin]
  generalize hn : min a.length b.length = n at *
  refine dreg [(0, [], [12, 14, 15, 16]), (1, [], [11, 14, 15, 16]), (2, [0, 1], [14, 15, 16]), (3, [], [11, 12, 13, 15]), (4, [], [11, 12, 13, 14]), (5, [3, 4], [11, 12, 13]), (6, [0, 1, 2, 3, 4, 5], []), (7, [0, 1, 2, 3, 4, 5, 6], [])] mixed (by kernel_rfl) ?_
  repeat' first | refine n_thn ?_ | refine .ret ?_ | refine dws lay_ok rfl rfl rfl rfl rfl rfl rfl ?_ | refine dw_end ?_ | refine dwb rfl rfl rfl rfl rfl (by (first | refine st_subL 0 n lay_ok rfl rfl rfl rfl ⟨_, _, rfl, rfl⟩ (Nat.zero_le _) (by omega) ?_ | refine st_pure (h1) b117 rfl rfl rfl rfl ?_); exact fin rfl) rfl rfl ?_ | fail
  refine f_r [] rfl trivial rfl ⟨?_, rfl⟩
  unfold begB
  rw [hn]; rfl
theorem agree1_ok (a b : List ByteArray) (ha : a.length ≤ 4000000000) (hb : b.length ≤ 4000000000) : ACalls prog 76 0 [.st (.sl 1 (b.map rowS)), .st (.sptr [.sl 1 (a.map rowS)])] [] fun r h => r = B (!begB a b) ∧ h = [] := by
  have h1 := begins_ok a b ha hb
  generalize begB a b = W at *
  refine fnC lay_ok func76 rfl rfl rfl rfl rfl ?_
  repeat' first | refine stp lay_ok rfl ?_ | refine fin ?_ | refine n_thn ?_ | refine .seq ?_ | refine reg ?_ | refine .ret ?_ | (refine o_none rfl ?_; refine st_pure (h1) b77 rfl rfl rfl rfl ?_) | fail
  refine f_r [] rfl trivial rfl ⟨?_, rfl⟩
  rfl
theorem idxL_ok (f : Nat) (bf : HasBody prog f) (cs : List SV) (p : (List ByteArray) → Bool) (l : List (List ByteArray)) (hl : l.length ≤ 4000000000) (hf : ∀ e ∈ l, ACalls prog f 0 [.st (.sl 1 (e.map rowS)), .st (.sptr cs)] [] fun r h => r = B (p e) ∧ h = []) :
    ACalls prog 116 0 [.st (.sl 1 (l.map rowL)), .fn (.func f) [] [.st (.sptr cs)]] [] fun r h => r = I (fidx p l) ∧ h = [] := by
  refine fnC lay_ok func116 rfl rfl rfl rfl rfl ?_
  repeat' first | refine ln ?_ | refine stp lay_ok rfl ?_ | refine fin ?_ | refine n_thn ?_ | refine .seq ?_ | refine reg ?_ | refine .block ?_ | fail
  refine lpR (fun k => k ≤ l.length ∧ ∀ j (h : j < k), ∀ h2 : j < l.length, p l[j] = false) (fun k => l.length - k) (fun k => [(8, I k)]) (fun k => []) (0) [0, 1, 7] [] [] rfl rfl rfl (.of [] (by (repeat' first | exact trivial | refine And.intro ?_ ?_ | rfl); first | done | fail) (by (repeat' first | exact trivial | refine And.intro ?_ ?_ | rfl); first | done | fail) rfl) ?_ ?_
  · exact ⟨Nat.zero_le _, fun j h => by omega⟩
  rintro k ⟨hk, hall⟩
  refine nrm rfl rfl ?_
  repeat' first | refine stp lay_ok rfl ?_ | refine fin ?_ | refine n_thn ?_ | refine e_thn ?_ | refine e_hit ?_ | refine e_rr ?_ | refine .seq ?_ | refine reg ?_ | refine .block ?_ | refine .skip ?_ | refine .ret ?_ | refine .exit ?_ | refine c_dec rfl (fun hc => ?_) (fun hc => ?_) | fail
  · have hk' : k < l.length := by omega
    have hat : (l.map rowL)[((k : Nat) : Int).toNat]? = some (rowL l[k]) := by simp [hk']
    have h1 := hf l[k] (List.getElem_mem hk')
    cases hp : p l[k] with
    | true =>
      rw [hp] at h1
      repeat' first | refine stp lay_ok rfl ?_ | refine fin ?_ | refine n_thn ?_ | refine r_thn ?_ | refine r_blk ?_ | refine r_rr ?_ | refine .seq ?_ | refine reg ?_ | refine .ret ?_ | refine cndT rfl ?_ | (refine o_none rfl ?_; (first | refine st_index (rowL l[k]) lay_ok rfl rfl rfl rfl (by omega) hat ?_ | refine st_pure (h1) bf rfl rfl rfl rfl ?_)) | fail
      refine f_r [] rfl trivial rfl ⟨?_, rfl⟩
      rw [fidx_step _ l k hk' (fun j h => hall j h _) hp]; rfl
    | false =>
      rw [hp] at h1
      repeat' first | refine wr (by omega) ?_ | refine stp lay_ok rfl ?_ | refine fin ?_ | refine n_thn ?_ | refine n_blk ?_ | refine reg ?_ | refine .skip ?_ | refine cndF rfl ?_ | (refine o_none rfl ?_; (first | refine st_index (rowL l[k]) lay_ok rfl rfl rfl rfl (by omega) hat ?_ | refine st_pure (h1) bf rfl rfl rfl rfl ?_)) | fail
      refine n_rr (k + 1) ?_ (.of [] (by (repeat' first | exact trivial | refine And.intro ?_ ?_ | rfl); first | done | fail) (by (repeat' first | exact trivial | refine And.intro ?_ ?_ | rfl); first | done | fail) rfl) ?_
      · omega
      · refine ⟨hk', fun j h h2 => ?_⟩
        by_cases hj : j = k
        · subst hj; exact hp
        · exact hall j (by omega) h2
  · refine f_r [] rfl trivial rfl ⟨?_, rfl⟩
    rw [fidx_none _ l (fun j h => hall j (by omega) h)]; rfl
theorem conL_ok (f : Nat) (bf : HasBody prog f) (cs : List SV) (p : (List ByteArray) → Bool) (l : List (List ByteArray)) (hl : l.length ≤ 4000000000) (hf : ∀ e ∈ l, ACalls prog f 0 [.st (.sl 1 (e.map rowS)), .st (.sptr cs)] [] fun r h => r = B (p e) ∧ h = []) :
    ACalls prog 75 0 [.st (.sl 1 (l.map rowL)), .fn (.func f) [] [.st (.sptr cs)]] [] fun r h => r = B (l.any p) ∧ h = [] := by
  refine fnC lay_ok func75 rfl rfl rfl rfl rfl ?_
  have h1 := idxL_ok f bf cs p l hl hf
  repeat' first | refine stp lay_ok rfl ?_ | refine fin ?_ | refine n_thn ?_ | refine .seq ?_ | refine reg ?_ | refine .ret ?_ | (refine o_none rfl ?_; refine st_pure (h1) b116 rfl rfl rfl rfl ?_) | fail
  refine f_r [] rfl trivial rfl ⟨?_, rfl⟩
  rw [← fidx_any]; rfl
end Go.Proofs.YtohmbpcjapjkbaaGreatDoorFn
namespace Go.Proofs.YtohmbpcjapjkbaaGreatDoorFn
open Go.Proofs.YtohmbpcjapjkbaaGreatDoorAl Go.Proofs.Tryz
attribute [local irreducible] IntKind.wrap CodeOk OpsL OpG ACalls thn inBlk rndR cutR WkR Wk fnR DW ExtOk partsOf
/-! ### rows of texts that agree; the longest of them -/
def badAt (l : List (List ByteArray)) (i : Nat) : Bool := (l.take i).any fun b => !begB (l.getD i []) b
def badI (l : List (List ByteArray)) : Int := fidx (badAt l) (List.range l.length)
theorem badI_step {l : List (List ByteArray)} {k : Nat} (hk : k < l.length) (h : ∀ j, j < k → badAt l j = false) (hb : badAt l k = true) : badI l = k :=
  fidx_step _ _ k (by simpa using hk) (fun j hj => by simpa using h j hj) (by simpa using hb)
theorem badI_none {l : List (List ByteArray)} (h : ∀ j, j < l.length → badAt l j = false) : badI l = -1 :=
  fidx_none _ _ fun j hj => by
    have : j < l.length := by simpa using hj
    simpa using h j this
set_option maxHeartbeats 2000000 in
theorem agree_ok (l : List (List ByteArray)) (hl : l.length ≤ 4000000000) (hs : ∀ a ∈ l, a.length ≤ 4000000000) : ACalls prog 41 0 [.st (.sl 1 (l.map rowL))] [] fun r h => r = .tuple [I (badI l), B (decide (badI l < 0))] ∧ h = [] := by
  have hm : (List.map rowL l).length = l.length := List.length_map _
  have hb1 := fun k hk h hb => badI_step (l := l) (k := k) hk h hb
  have hb0 := badI_none (l := l)
  generalize badI l = W at *
  refine fnC lay_ok func41 rfl rfl rfl rfl rfl ?_
  repeat' first | refine ln ?_ | refine stp lay_ok rfl ?_ | refine fin ?_ | refine n_thn ?_ | refine .seq ?_ | refine reg ?_ | refine .block ?_ | fail
  refine lpR (fun k => k ≤ l.length ∧ ∀ j, j < k → badAt l j = false) (fun k => l.length - k) (fun k => [(8, I k)]) (fun k => []) (0) [0, 6, 7] [] [] rfl rfl rfl (.of [] (by (repeat' first | exact trivial | refine And.intro ?_ ?_ | rfl); first | done | fail) (by (repeat' first | exact trivial | refine And.intro ?_ ?_ | rfl); first | done | fail) rfl) ?_ ?_
  · exact ⟨Nat.zero_le _, fun j h => by omega⟩
  rintro k ⟨hk, hall⟩
  refine nrm rfl rfl ?_
  by_cases hkl : k < l.length
  · have hat := at_rowL hkl
    have hak := hs _ (List.getElem_mem hkl)
    have hcon := conL_ok 76 b76 [.sl 1 (l[k].map rowS)] (fun b => !begB l[k] b) (l.take k) (by simp; omega) (fun b hb => agree1_ok l[k] b hak (hs b (List.mem_of_mem_take hb)))
    have hbad : badAt l k = (l.take k).any fun b => !begB l[k] b := by
      unfold badAt
      rw [show l.getD k [] = l[k] by simp [hkl]]
    rw [← hbad, List.map_take] at hcon
    have hstep := hb1 k hkl hall
    have hnx : badAt l k = false → ∀ j, j < k + 1 → badAt l j = false := fun h j hj => by
      by_cases e : j = k
      · subst e; exact h
      · exact hall j (by omega)
    generalize badAt l k = C at *
    generalize l[k] = a at *
    cases C with
    | true =>
      repeat' first | refine o_frb 0 [.sl 1 (a.map rowS)] rfl rfl rfl (by (repeat' first | exact trivial | refine And.intro ?_ ?_ | rfl); first | done | fail) (by (repeat' first | exact trivial | refine And.intro ?_ ?_ | rfl); first | done | fail) rfl rfl ?_ | refine stp lay_ok rfl ?_ | refine fin ?_ | refine n_thn ?_ | refine e_thn ?_ | refine e_hit ?_ | refine r_thn ?_ | refine r_blk ?_ | refine e_rr ?_ | refine r_rr ?_ | refine .seq ?_ | refine reg ?_ | refine .block ?_ | refine .skip ?_ | refine .ret ?_ | refine .exit ?_ | refine cndT rfl ?_ | refine c_dec rfl (fun hc => ?_) (fun hc => ?_) | (refine o_none rfl ?_; (first | refine st_index (rowL a) lay_ok rfl rfl rfl rfl (by omega) hat ?_ | refine st_subL 0 k lay_ok rfl rfl rfl rfl ⟨_, _, rfl, rfl⟩ (Nat.zero_le _) (by omega) ?_ | refine st_pure (hcon) b75 rfl rfl rfl rfl ?_)) | fail
      all_goals first
        | (exfalso; omega)
        | skip
      refine f_r [] rfl trivial rfl ⟨?_, rfl⟩
      rw [hstep rfl, decide_eq_false (by omega)]; rfl
    | false =>
      repeat' first | refine o_frb 0 [.sl 1 (a.map rowS)] rfl rfl rfl (by (repeat' first | exact trivial | refine And.intro ?_ ?_ | rfl); first | done | fail) (by (repeat' first | exact trivial | refine And.intro ?_ ?_ | rfl); first | done | fail) rfl rfl ?_ | refine wr (by omega) ?_ | refine stp lay_ok rfl ?_ | refine fin ?_ | refine n_thn ?_ | refine n_blk ?_ | refine e_thn ?_ | refine e_hit ?_ | refine e_rr ?_ | refine .seq ?_ | refine reg ?_ | refine .block ?_ | refine .skip ?_ | refine .ret ?_ | refine .exit ?_ | refine cndF rfl ?_ | refine c_dec rfl (fun hc => ?_) (fun hc => ?_) | (refine o_none rfl ?_; (first | refine st_index (rowL a) lay_ok rfl rfl rfl rfl (by omega) hat ?_ | refine st_subL 0 k lay_ok rfl rfl rfl rfl ⟨_, _, rfl, rfl⟩ (Nat.zero_le _) (by omega) ?_ | refine st_pure (hcon) b75 rfl rfl rfl rfl ?_)) | fail
      all_goals first
        | (exfalso; omega)
        | skip
      refine n_rr (k + 1) ?_ (.of [] (by (repeat' first | exact trivial | refine And.intro ?_ ?_ | rfl); first | done | fail) (by (repeat' first | exact trivial | refine And.intro ?_ ?_ | rfl); first | done | fail) rfl) ?_
      · omega
      · exact ⟨hkl, hnx rfl⟩
  · repeat' first | refine stp lay_ok rfl ?_ | refine fin ?_ | refine n_thn ?_ | refine e_thn ?_ | refine e_hit ?_ | refine e_rr ?_ | refine .seq ?_ | refine reg ?_ | refine .block ?_ | refine .skip ?_ | refine .ret ?_ | refine .exit ?_ | refine c_dec rfl (fun hc => ?_) (fun hc => ?_) | fail
    all_goals first
      | (exfalso; omega)
      | skip
    refine f_r [] rfl trivial rfl ⟨?_, rfl⟩
    rw [hb0 (fun j hj => hall j (by omega))]; rfl
/-- The longest of rows, the first of them. -/
def lonG (l : List (List ByteArray)) : List ByteArray := l.foldl (fun m a => if m.length < a.length then a else m) []
theorem lonG_take {l : List (List ByteArray)} {k : Nat} (h : k < l.length) : lonG (l.take (k + 1)) = if (lonG (l.take k)).length < l[k].length then l[k] else lonG (l.take k) := by
  unfold lonG
  rw [List.take_succ_eq_append_getElem h, List.foldl_append]; rfl
set_option maxHeartbeats 2000000 in
theorem longest_ok (l : List (List ByteArray)) (hl : l.length ≤ 4000000000) (hs : ∀ a ∈ l, a.length ≤ 4000000000) : ACalls prog 42 0 [.st (.sl 1 (l.map rowL))] [] fun r h => r = .st (.sl 1 ((lonG l).map rowS)) ∧ h = [] := by
  have hm : (List.map rowL l).length = l.length := List.length_map _
  refine fnC lay_ok func42 rfl rfl rfl rfl rfl ?_
  repeat' first | refine ln ?_ | refine stp lay_ok rfl ?_ | refine fin ?_ | refine n_thn ?_ | refine .seq ?_ | refine reg ?_ | refine .block ?_ | fail
  refine CodeOk.wk (Wk.tmpLe (y := .st (.sl 1 [])) 3 rfl (AVLe.st (SLe.nil 1))) (Nat.le_refl _) ?_
  refine nrm rfl rfl ?_
  refine lpR (fun (k, out) => k ≤ l.length ∧ out = lonG (l.take k) ∧ out.length ≤ 4000000000) (fun (k, out) => l.length - k) (fun (k, out) => [(8, I k), (3, .st (.sl 1 (out.map rowS)))]) (fun (k, out) => []) ((0, [])) [6, 7] [] [] rfl rfl rfl (.of [] (by (repeat' first | exact trivial | refine And.intro ?_ ?_ | rfl); first | done | fail) (by (repeat' first | exact trivial | refine And.intro ?_ ?_ | rfl); first | done | fail) rfl) ?_ ?_
  · exact ⟨Nat.zero_le _, rfl, Nat.zero_le _⟩
  rintro ⟨k, out⟩ ⟨h1, h2, h3⟩
  refine nrm rfl rfl ?_
  have hmo : (List.map rowS out).length = out.length := List.length_map _
  by_cases hk : k < l.length
  · have hat := at_rowL hk
    have htk := lonG_take hk
    have hak := hs _ (List.getElem_mem hk)
    rw [← h2] at htk
    generalize l[k] = a at *
    have hma : (List.map rowS a).length = a.length := List.length_map _
    by_cases hlt : out.length < a.length
    · rw [if_pos hlt] at htk
      repeat' first | refine wr (by omega) ?_ | refine ln ?_ | refine stp lay_ok rfl ?_ | refine fin ?_ | refine n_thn ?_ | refine n_blk ?_ | refine e_thn ?_ | refine e_hit ?_ | refine e_rr ?_ | refine .seq ?_ | refine reg ?_ | refine .block ?_ | refine .skip ?_ | refine .exit ?_ | refine c_dec rfl (fun hc => ?_) (fun hc => ?_) | (refine o_none rfl ?_; refine st_index (rowL a) lay_ok rfl rfl rfl rfl (by omega) hat ?_) | fail
      all_goals first
        | (exfalso; omega)
        | skip
      refine n_rr ((k + 1, a)) ?_ (.of [] (by (repeat' first | exact trivial | refine And.intro ?_ ?_ | rfl | exact congrArg (fun z : Int => some (AV.st (.int .i64 z))) (show (k : Int) + 1 = ((k + 1 : Nat) : Int) by omega)); first | done | fail) (by (repeat' first | exact trivial | refine And.intro ?_ ?_ | rfl | exact congrArg (fun z : Int => some (AV.st (.int .i64 z))) (show (k : Int) + 1 = ((k + 1 : Nat) : Int) by omega)); first | done | fail) rfl) ?_
      · show l.length - (k + 1) < l.length - k; omega
      · exact ⟨hk, htk.symm, hak⟩
    · rw [if_neg hlt] at htk
      repeat' first | refine wr (by omega) ?_ | refine ln ?_ | refine stp lay_ok rfl ?_ | refine fin ?_ | refine n_thn ?_ | refine n_blk ?_ | refine e_thn ?_ | refine e_hit ?_ | refine e_rr ?_ | refine .seq ?_ | refine reg ?_ | refine .block ?_ | refine .skip ?_ | refine .exit ?_ | refine c_dec rfl (fun hc => ?_) (fun hc => ?_) | (refine o_none rfl ?_; refine st_index (rowL a) lay_ok rfl rfl rfl rfl (by omega) hat ?_) | fail
      all_goals first
        | (exfalso; omega)
        | skip
      refine n_rr ((k + 1, out)) ?_ (.of [] (by (repeat' first | exact trivial | refine And.intro ?_ ?_ | rfl | exact congrArg (fun z : Int => some (AV.st (.int .i64 z))) (show (k : Int) + 1 = ((k + 1 : Nat) : Int) by omega)); first | done | fail) (by (repeat' first | exact trivial | refine And.intro ?_ ?_ | rfl | exact congrArg (fun z : Int => some (AV.st (.int .i64 z))) (show (k : Int) + 1 = ((k + 1 : Nat) : Int) by omega)); first | done | fail) rfl) ?_
      · show l.length - (k + 1) < l.length - k; omega
      · exact ⟨hk, htk.symm, h3⟩
  · have hke : k = l.length := by omega
    subst hke
    rw [List.take_length] at h2
    have hcl := cloneS_ok out h3
    rw [← h2]
    repeat' first | refine stp lay_ok rfl ?_ | refine fin ?_ | refine n_thn ?_ | refine e_thn ?_ | refine e_hit ?_ | refine e_rr ?_ | refine .seq ?_ | refine reg ?_ | refine .block ?_ | refine .skip ?_ | refine .ret ?_ | refine .exit ?_ | refine c_dec rfl (fun hc => ?_) (fun hc => ?_) | (refine o_none rfl ?_; refine st_pure (hcl) b51 rfl rfl rfl rfl ?_) | fail
    all_goals first
      | (exfalso; omega)
      | skip
    refine f_r [] rfl trivial rfl ⟨?_, rfl⟩
    rfl
end Go.Proofs.YtohmbpcjapjkbaaGreatDoorFn
namespace Go.Proofs.YtohmbpcjapjkbaaGreatDoorFn
open Go.Proofs.YtohmbpcjapjkbaaGreatDoorAl Go.Proofs.Tryz
attribute [local irreducible] IntKind.wrap CodeOk OpsL OpG ACalls thn inBlk rndR cutR WkR Wk fnR DW ExtOk partsOf
theorem b34 : HasBody prog 34 := ⟨f34, func34, Option.some_ne_none _, by decide⟩
theorem b33 : HasBody prog 33 := ⟨f33, func33, Option.some_ne_none _, by decide⟩
theorem b37 : HasBody prog 37 := ⟨f37, func37, Option.some_ne_none _, by decide⟩
theorem b15 : HasBody prog 15 := ⟨f15, func15, Option.some_ne_none _, by decide⟩
theorem b30 : HasBody prog 30 := ⟨f30, func30, Option.some_ne_none _, by decide⟩
/-! ### the statement's own word on rows; its head -/
theorem begB_iff (a b : List ByteArray) : begB a b = true ↔ ∀ j (h1 : j < a.length) (h2 : j < b.length), a[j] = b[j] := by
  unfold begB
  rw [decide_eq_true_eq]
  constructor
  · intro h j h1 h2
    have e := congrArg (fun l => l[j]?) h
    simp only [List.getElem?_take] at e
    rw [if_pos (by omega), if_pos (by omega), List.getElem?_eq_getElem h1, List.getElem?_eq_getElem h2] at e
    exact Option.some.inj e
  · intro h
    apply List.ext_getElem
    · simp
    · intro j h1 h2
      simp only [List.length_take] at h1 h2
      simp only [List.getElem_take]
      exact h j (by omega) (by omega)
theorem with_ok (a b : List ByteArray) (ha : a.length ≤ 4000000000) : ACalls prog 40 0 [.st (.sl 1 (a.map rowS)), .st (.sl 1 (b.map rowS))] [] fun r h => r = B (begB a b) ∧ h = [] := by
  have hma : (List.map rowS a).length = a.length := List.length_map _
  have hmb : (List.map rowS b).length = b.length := List.length_map _
  have hW := begB_iff a b
  generalize begB a b = W at *
  refine fnC lay_ok func40 rfl rfl rfl rfl rfl ?_
  repeat' first | refine stp lay_ok rfl ?_ | refine fin ?_ | refine n_thn ?_ | refine .seq ?_ | refine reg ?_ | refine .block ?_ | fail
  refine lpR (fun k => k ≤ a.length ∧ k ≤ b.length ∧ ∀ j (h1 : j < a.length) (h2 : j < b.length), j < k → a[j] = b[j]) (fun k => a.length - k) (fun k => [(5, I k)]) (fun k => []) (0) [0, 1] [] [] rfl rfl rfl (.of [] (by (repeat' first | exact trivial | refine And.intro ?_ ?_ | rfl); first | done | fail) (by (repeat' first | exact trivial | refine And.intro ?_ ?_ | rfl); first | done | fail) rfl) ?_ ?_
  · exact ⟨Nat.zero_le _, Nat.zero_le _, fun j h1 h2 h3 => by omega⟩
  rintro k ⟨hka, hkb, hall⟩
  refine nrm rfl rfl ?_
  by_cases hk : k < a.length ∧ k < b.length
  · obtain ⟨h1, h2⟩ := hk
    have hat := at_rowS h1
    have hbt := at_rowS h2
    have hne : a[k] ≠ b[k] → W = false := fun h => by
      cases W with
      | false => rfl
      | true => exact absurd (hW.1 rfl k h1 h2) h
    have hnx : a[k] = b[k] → ∀ j (h1 : j < a.length) (h2 : j < b.length), j < k + 1 → a[j] = b[j] := fun h j g1 g2 g3 => by
      by_cases e : j = k
      · subst e; exact h
      · exact hall j g1 g2 (by omega)
    generalize a[k] = x at *
    generalize b[k] = y at *
    repeat' first | refine ln ?_ | refine stp lay_ok rfl ?_ | refine fin ?_ | refine n_thn ?_ | refine e_thn ?_ | refine e_hit ?_ | refine e_rr ?_ | refine .seq ?_ | refine reg ?_ | refine .block ?_ | refine .skip ?_ | refine .ret ?_ | refine .exit ?_ | refine cndF rfl ?_ | refine c_dec rfl (fun hc => ?_) (fun hc => ?_) | refine gd rfl rfl rfl (fun hg => ?_) (fun hg => ?_) | fail
    all_goals first
      | (exfalso; omega)
      | skip
    refine dreg [(0, [], [19, 22, 23, 24, 25]), (1, [], [18, 22, 23, 24, 25]), (2, [0, 1], [22, 23, 24, 25]), (3, [0, 1, 2], [22, 23, 24, 25]), (4, [], [18, 19, 20, 21, 23]), (5, [], [18, 19, 20, 21, 22]), (6, [4, 5], [18, 19, 20, 21]), (7, [4, 5, 6], [18, 19, 20, 21]), (8, [0, 1, 2, 3, 4, 5, 6, 7], [])] mixed (by kernel_rfl) ?_
    repeat' first | refine wr (by omega) ?_ | refine stp lay_ok rfl ?_ | refine fin ?_ | refine n_thn ?_ | refine n_blk ?_ | refine r_thn ?_ | refine r_blk ?_ | refine r_rr ?_ | refine .seq ?_ | refine reg ?_ | refine .skip ?_ | refine .ret ?_ | refine c_dec rfl (fun hc => ?_) (fun hc => ?_) | refine dws lay_ok rfl rfl rfl rfl rfl rfl rfl ?_ | refine dw_end ?_ | refine dwb rfl rfl rfl rfl rfl (by (first | refine st_index [SV.str x] lay_ok rfl rfl rfl rfl (by omega) hat ?_ | refine st_index [SV.str y] lay_ok rfl rfl rfl rfl (by omega) hbt ?_); exact fin rfl) rfl rfl ?_ | fail
    all_goals first
      | (refine f_r [] rfl trivial rfl ⟨?_, rfl⟩; rw [hne (by assumption)]; rfl)
      | skip
    refine n_rr (k + 1) ?_ (.of [] (by (repeat' first | exact trivial | refine And.intro ?_ ?_ | rfl | exact congrArg (fun z : Int => some (AV.st (.int .i64 z))) (show (k : Int) + 1 = ((k + 1 : Nat) : Int) by omega)); first | done | fail) (by (repeat' first | exact trivial | refine And.intro ?_ ?_ | rfl | exact congrArg (fun z : Int => some (AV.st (.int .i64 z))) (show (k : Int) + 1 = ((k + 1 : Nat) : Int) by omega)); first | done | fail) rfl) ?_
    · omega
    · exact ⟨h1, h2, hnx (Decidable.not_not.1 (by assumption))⟩
  · have hWt : W = true := hW.2 fun j h1 h2 => hall j h1 h2 (by omega)
    repeat' first | refine ln ?_ | refine stp lay_ok rfl ?_ | refine fin ?_ | refine n_thn ?_ | refine e_thn ?_ | refine e_hit ?_ | refine e_rr ?_ | refine .seq ?_ | refine reg ?_ | refine .block ?_ | refine .skip ?_ | refine .ret ?_ | refine .exit ?_ | refine cndF rfl ?_ | refine c_dec rfl (fun hc => ?_) (fun hc => ?_) | refine gd rfl rfl rfl (fun hg => ?_) (fun hg => ?_) | fail
    all_goals first
      | (exfalso; omega)
      | skip
    all_goals
      refine f_r [] rfl trivial rfl ⟨?_, rfl⟩
      rw [hWt]; rfl
end Go.Proofs.YtohmbpcjapjkbaaGreatDoorFn
namespace Go.Proofs.YtohmbpcjapjkbaaGreatDoorFn
open Go.Proofs.YtohmbpcjapjkbaaGreatDoorAl Go.Proofs.Tryz
attribute [local irreducible] IntKind.wrap CodeOk OpsL OpG ACalls thn inBlk rndR cutR WkR Wk fnR DW ExtOk partsOf
/-! ### the head of the Check laws -/
/-- A catalog that was never used. -/
theorem newK_ok : ACalls prog 30 0 [] [] fun r h => r = .ptr 0 0 ∧ h = [(0, .cells [.st .nilsl])] := by
  refine fnC lay_ok func30 rfl rfl rfl rfl rfl ?_
  repeat' first | refine stp lay_ok rfl ?_ | refine fin ?_ | refine n_thn ?_ | refine .seq ?_ | refine reg ?_ | refine .ret ?_ | fail
  refine f_end (n0 := 1) (t'' := [(0, .ptr 0 0)]) (h'' := [(0, .cells [.st .nilsl])]) (WkR.of [0] (by (repeat' first | exact trivial | refine And.intro ?_ ?_ | rfl); first | done | fail) (by (repeat' first | exact trivial | refine And.intro ?_ ?_ | rfl); first | done | fail) rfl) rfl rfl ⟨?_, rfl⟩
  rfl
abbrev exec0 : List AV := [.ptr 1 0, .st (.int .i64 0), .st (.int .i64 0), .st (.int .i64 0), .st .nilsl, .st .nilsl, .st .nilsl, .st (.int .i64 0), .st (.int .i64 0), .st (.int .i64 0), .st .nilsl, .st .nilsl, .st .nilsl, .st (.int .i64 0), .st (.int .i64 0), .st (.int .i64 0), .st .nilsl, .st .nilsl, .st .nilsl, .st (.int .i64 0), .st (.int .i64 0), .st (.int .i64 0), .st .nilsl, .st .nilsl, .st .nilsl, .st (.int .i64 0), .st (.int .i64 0), .st (.int .i64 0), .st .nilsl, .st .nilsl, .st .nilsl, .st (.int .i64 0), .st (.int .i64 0), .st (.int .i64 0), .st .nilsl, .st .nilsl, .st .nilsl, .st (.int .i64 0), .st (.int .i64 0), .st (.int .i64 0), .st .nilsl, .st .nilsl, .st .nilsl, .st (.int .i64 0), .st (.int .i64 0), .st (.int .i64 0), .st .nilsl, .st .nilsl, .st .nilsl, .st .nilsl]
set_option maxHeartbeats 2000000 in
theorem execNew0_ok : ACalls prog 15 0 [] [] fun r h => r = .ptr 0 0 ∧ h = [(0, .cells exec0), (1, .cells [.st .nilsl])] := by
  have h1 := newK_ok
  refine fnC lay_ok func15 rfl rfl rfl rfl rfl ?_
  repeat' first | refine stp lay_ok rfl ?_ | refine fin ?_ | refine n_thn ?_ | refine .seq ?_ | refine reg ?_ | refine .ret ?_ | (refine o_none rfl ?_; refine st_callF 1 (h1) b30 rfl rfl rfl rfl rfl rfl (by (repeat' first | exact trivial | refine And.intro ?_ ?_ | rfl); first | done | fail) rfl ?_) | fail
  refine f_end (n0 := 2) (t'' := [(0, .ptr 0 0)]) (h'' := [(0, .cells exec0), (1, .cells [.st .nilsl])]) (WkR.of [1, 0] (by (repeat' first | exact trivial | refine And.intro ?_ ?_ | rfl); first | done | fail) (by (repeat' first | exact trivial | refine And.intro ?_ ?_ | rfl); first | done | fail) rfl) rfl rfl ⟨?_, rfl⟩
  rfl
/-- No bodies, and no answers. -/
theorem answers0_ok : ACalls prog 37 0 [.st (.sl 1 []), .st (.sl 7 [])] [] fun r h => r = .tuple [I (-1), B true] ∧ h = [] := by
  have h1 := execNew0_ok
  refine fnC lay_ok func37 rfl rfl rfl rfl rfl ?_
  have hl0 : ([] : List (List SV)).length = 0 := rfl
  repeat' first | refine stp lay_ok rfl ?_ | refine fin ?_ | refine n_thn ?_ | refine .seq ?_ | refine reg ?_ | refine .block ?_ | (refine o_none rfl ?_; (first | refine st_makeMap ?_ | refine st_callF 2 (h1) b15 rfl rfl rfl rfl rfl rfl (by (repeat' first | exact trivial | refine And.intro ?_ ?_ | rfl); first | done | fail) rfl ?_)) | fail
  refine lpR (fun k => k = 0) (fun k => 0) (fun k => [(22, I k)]) (fun k => [(0, .map [])]) (0) [1, 6, 7, 20, 21] [0] [] rfl rfl rfl (.of [] (by (repeat' first | exact trivial | refine And.intro ?_ ?_ | rfl); first | done | fail) (by (repeat' first | exact trivial | refine And.intro ?_ ?_ | rfl); first | done | fail) rfl) ?_ ?_
  · rfl
  rintro k hk
  subst hk
  refine nrm rfl rfl ?_
  repeat' first | refine stp lay_ok rfl ?_ | refine fin ?_ | refine n_thn ?_ | refine e_thn ?_ | refine e_hit ?_ | refine e_rr ?_ | refine .seq ?_ | refine reg ?_ | refine .block ?_ | refine .exit ?_ | refine cndF rfl ?_ | fail
  all_goals first
    | (exfalso; omega)
    | skip
  refine lpR (fun k => k = 0) (fun k => 0) (fun k => [(53, I k)]) (fun k => [(0, .map [])]) (0) [6, 51, 52] [0] [] rfl rfl rfl (.of [] (by (repeat' first | exact trivial | refine And.intro ?_ ?_ | rfl); first | done | fail) (by (repeat' first | exact trivial | refine And.intro ?_ ?_ | rfl); first | done | fail) rfl) ?_ ?_
  · rfl
  rintro k hk
  subst hk
  refine nrm rfl rfl ?_
  repeat' first | refine stp lay_ok rfl ?_ | refine fin ?_ | refine n_thn ?_ | refine e_thn ?_ | refine e_hit ?_ | refine e_rr ?_ | refine .seq ?_ | refine reg ?_ | refine .ret ?_ | refine .exit ?_ | refine cndF rfl ?_ | fail
  all_goals first
    | (exfalso; omega)
    | skip
  refine f_r [] rfl trivial rfl ⟨?_, rfl⟩
  rfl
/-- The document's example. -/
theorem up21_ok : ACalls prog 33 0 [] [] fun r h => r = B true ∧ h = [] := by
  have h1 := agree_ok [[⟨#[97]⟩], [⟨#[97]⟩, ⟨#[98]⟩], [⟨#[97]⟩, ⟨#[99]⟩]] (by simp) (by simp)
  have e : badI [[⟨#[97]⟩], [⟨#[97]⟩, ⟨#[98]⟩], [⟨#[97]⟩, ⟨#[99]⟩]] = 2 := by decide
  rw [e] at h1
  have h2 := answers0_ok
  refine fnC lay_ok func33 rfl rfl rfl rfl rfl ?_
  repeat' first | refine stp lay_ok rfl ?_ | refine fin ?_ | refine n_thn ?_ | refine .seq ?_ | refine reg ?_ | refine .ret ?_ | (refine o_none rfl ?_; (first | refine st_pure (h1) b41 rfl rfl rfl rfl ?_ | refine st_pureL (h2) b37 rfl (by (repeat' first | exact AVLeL.nil | refine AVLeL.cons ?_ ?_ | exact AVLe.refl _ | refine AVLe.st ?_ | exact SLe.refl _ | exact SLe.nil _ | exact SLe.sl0 _ | refine SLe.agg ?_ | refine SLe.sl ?_ | refine SLe.iface ?_ | exact SLeL.nil | refine SLeL.cons ?_ ?_ | exact RLe.nil' | refine RLe.cons' rfl ?_ ?_); first | done | fail) rfl rfl rfl ?_)) | fail
  refine f_r [] rfl trivial rfl ⟨?_, rfl⟩
  rfl
end Go.Proofs.YtohmbpcjapjkbaaGreatDoorFn
namespace Go.Proofs.YtohmbpcjapjkbaaGreatDoorFn
open Go.Proofs.YtohmbpcjapjkbaaGreatDoorAl Go.Proofs.Tryz
attribute [local irreducible] IntKind.wrap CodeOk OpsL OpG ACalls thn inBlk rndR cutR WkR Wk fnR DW ExtOk partsOf
/-! ### rows that are few and short -/
def rowZ (n : Int) : List SV := [.int .i64 n]
def fewS (a : List ByteArray) : Bool := decide (a.length ≤ 100) && a.all fun s => decide (s.size ≤ 5000)
def shortL (l : List (List ByteArray)) : Bool := decide (l.length ≤ 30) && l.all fewS
set_option maxHeartbeats 4000000 in
theorem short21_ok (l : List (List ByteArray)) : ACalls prog 34 0 [.st (.sl 1 (l.map rowL))] [] fun r h => r = B (shortL l) ∧ h = [] := by
  have hm : (List.map rowL l).length = l.length := List.length_map _
  unfold shortL
  by_cases h30 : l.length ≤ 30
  · rw [decide_eq_true h30, Bool.true_and]
    refine fnC lay_ok func34 rfl rfl rfl rfl rfl ?_
    repeat' first | refine ln ?_ | refine stp lay_ok rfl ?_ | refine fin ?_ | refine n_thn ?_ | refine r_thn ?_ | refine .seq ?_ | refine reg ?_ | refine .block ?_ | refine .skip ?_ | refine .ret ?_ | refine c_dec rfl (fun hc => ?_) (fun hc => ?_) | fail
    all_goals first
      | (exfalso; omega)
      | skip
    refine lpR (fun i => i ≤ l.length ∧ (l.take i).all fewS = true) (fun i => l.length - i) (fun i => [(3, I i)]) (fun i => []) (0) [0] [] [] rfl rfl rfl (.of [] (by (repeat' first | exact trivial | refine And.intro ?_ ?_ | rfl); first | done | fail) (by (repeat' first | exact trivial | refine And.intro ?_ ?_ | rfl); first | done | fail) rfl) ?_ ?_
    · exact ⟨Nat.zero_le _, rfl⟩
    rintro i ⟨g1, g2⟩
    refine nrm rfl rfl ?_
    by_cases hi : i < l.length
    · have hat := at_rowL hi
      have htk := all_take (p := fewS) hi
      rw [g2, Bool.true_and] at htk
      have hno := fun h => all_not (p := fewS) (l := l) hi h
      generalize l.all fewS = W at *
      generalize l[i] = a at *
      have hma : (List.map rowS a).length = a.length := List.length_map _
      by_cases ha : a.length ≤ 100
      case neg =>
        have hw := hno (by unfold fewS; rw [decide_eq_false ha]; rfl)
        repeat' first | refine ln ?_ | refine stp lay_ok rfl ?_ | refine fin ?_ | refine n_thn ?_ | refine e_thn ?_ | refine e_hit ?_ | refine r_thn ?_ | refine r_blk ?_ | refine e_rr ?_ | refine r_rr ?_ | refine .seq ?_ | refine reg ?_ | refine .block ?_ | refine .skip ?_ | refine .ret ?_ | refine .exit ?_ | refine c_dec rfl (fun hc => ?_) (fun hc => ?_) | (refine o_none rfl ?_; refine st_index (rowL a) lay_ok rfl rfl rfl rfl (by omega) hat ?_) | fail
        all_goals first
          | (exfalso; omega)
          | skip
        refine f_r [] rfl trivial rfl ⟨?_, rfl⟩
        rw [hw]; rfl
      have hfw : fewS a = a.all fun s => decide (s.size ≤ 5000) := by unfold fewS; rw [decide_eq_true ha, Bool.true_and]
      rw [hfw] at htk hno
      repeat' first | refine ln ?_ | refine stp lay_ok rfl ?_ | refine fin ?_ | refine n_thn ?_ | refine e_thn ?_ | refine e_hit ?_ | refine r_thn ?_ | refine r_blk ?_ | refine e_rr ?_ | refine r_rr ?_ | refine .seq ?_ | refine reg ?_ | refine .block ?_ | refine .skip ?_ | refine .ret ?_ | refine .exit ?_ | refine c_dec rfl (fun hc => ?_) (fun hc => ?_) | (refine o_none rfl ?_; refine st_index (rowL a) lay_ok rfl rfl rfl rfl (by omega) hat ?_) | fail
      all_goals first
        | (exfalso; omega)
        | skip
      refine lpR (fun k => k ≤ a.length ∧ (a.take k).all (fun s => decide (s.size ≤ 5000)) = true) (fun k => a.length - k) (fun k => [(4, I k)]) (fun k => []) (0) [0, 3] [] [] rfl rfl rfl (.of [] (by (repeat' first | exact trivial | refine And.intro ?_ ?_ | rfl); first | done | fail) (by (repeat' first | exact trivial | refine And.intro ?_ ?_ | rfl); first | done | fail) rfl) ?_ ?_
      · exact ⟨Nat.zero_le _, rfl⟩
      rintro k ⟨k1, k2⟩
      refine nrm rfl rfl ?_
      by_cases hk : k < a.length
      · have hat2 := at_rowS hk
        have htk2 := all_take (p := fun s : ByteArray => decide (s.size ≤ 5000)) hk
        rw [k2, Bool.true_and] at htk2
        have hno2 := fun h => hno (all_not (p := fun s : ByteArray => decide (s.size ≤ 5000)) (l := a) hk h)
        generalize a[k] = y at *
        repeat' first | refine wr (by omega) ?_ | refine ln ?_ | refine stp lay_ok rfl ?_ | refine fin ?_ | refine n_thn ?_ | refine n_blk ?_ | refine e_thn ?_ | refine e_hit ?_ | refine r_thn ?_ | refine r_blk ?_ | refine e_rr ?_ | refine r_rr ?_ | refine .seq ?_ | refine reg ?_ | refine .block ?_ | refine .skip ?_ | refine .ret ?_ | refine .exit ?_ | refine c_dec rfl (fun hc => ?_) (fun hc => ?_) | (refine o_none rfl ?_; (first | refine st_index (rowL a) lay_ok rfl rfl rfl rfl (by omega) hat ?_ | refine st_index [SV.str y] lay_ok rfl rfl rfl rfl (by omega) hat2 ?_)) | fail
        all_goals first
          | (exfalso; omega)
          | skip
        · refine f_r [] rfl trivial rfl ⟨?_, rfl⟩
          rw [hno2 (decide_eq_false (by omega))]; rfl
        · refine n_rr (k + 1) ?_ (.of [] (by (repeat' first | exact trivial | refine And.intro ?_ ?_ | rfl | exact congrArg (fun z : Int => some (AV.st (.int .i64 z))) (show (k : Int) + 1 = ((k + 1 : Nat) : Int) by omega)); first | done | fail) (by (repeat' first | exact trivial | refine And.intro ?_ ?_ | rfl | exact congrArg (fun z : Int => some (AV.st (.int .i64 z))) (show (k : Int) + 1 = ((k + 1 : Nat) : Int) by omega)); first | done | fail) rfl) ?_
          · omega
          · exact ⟨hk, by rw [htk2]; exact decide_eq_true (by omega)⟩
      · have hke : k = a.length := by omega
        subst hke
        rw [List.take_length] at k2
        repeat' first | refine wr (by omega) ?_ | refine ln ?_ | refine stp lay_ok rfl ?_ | refine fin ?_ | refine n_thn ?_ | refine n_blk ?_ | refine e_thn ?_ | refine e_hit ?_ | refine e_rr ?_ | refine .seq ?_ | refine reg ?_ | refine .block ?_ | refine .skip ?_ | refine .exit ?_ | refine c_dec rfl (fun hc => ?_) (fun hc => ?_) | (refine o_none rfl ?_; refine st_index (rowL a) lay_ok rfl rfl rfl rfl (by omega) hat ?_) | fail
        all_goals first
          | (exfalso; omega)
          | skip
        refine n_rr (i + 1) ?_ (.of [] (by (repeat' first | exact trivial | refine And.intro ?_ ?_ | rfl | exact congrArg (fun z : Int => some (AV.st (.int .i64 z))) (show (i : Int) + 1 = ((i + 1 : Nat) : Int) by omega)); first | done | fail) (by (repeat' first | exact trivial | refine And.intro ?_ ?_ | rfl | exact congrArg (fun z : Int => some (AV.st (.int .i64 z))) (show (i : Int) + 1 = ((i + 1 : Nat) : Int) by omega)); first | done | fail) rfl) ?_
        · omega
        · exact ⟨hi, by rw [htk]; exact k2⟩
    · have hie : i = l.length := by omega
      subst hie
      rw [List.take_length] at g2
      repeat' first | refine ln ?_ | refine stp lay_ok rfl ?_ | refine fin ?_ | refine n_thn ?_ | refine e_thn ?_ | refine e_hit ?_ | refine e_rr ?_ | refine .seq ?_ | refine reg ?_ | refine .block ?_ | refine .skip ?_ | refine .ret ?_ | refine .exit ?_ | refine c_dec rfl (fun hc => ?_) (fun hc => ?_) | fail
      all_goals first
        | (exfalso; omega)
        | skip
      refine f_r [] rfl trivial rfl ⟨?_, rfl⟩
      rw [g2]; rfl
  · rw [decide_eq_false h30, Bool.false_and]
    refine fnC lay_ok func34 rfl rfl rfl rfl rfl ?_
    repeat' first | refine ln ?_ | refine stp lay_ok rfl ?_ | refine fin ?_ | refine n_thn ?_ | refine r_thn ?_ | refine .seq ?_ | refine reg ?_ | refine .block ?_ | refine .skip ?_ | refine .ret ?_ | refine c_dec rfl (fun hc => ?_) (fun hc => ?_) | fail
    all_goals first
      | (exfalso; omega)
      | skip
    refine f_r [] rfl trivial rfl ⟨?_, rfl⟩
    rfl
theorem shortL_fit {l : List (List ByteArray)} (h : shortL l = true) : l.length ≤ 30 ∧ ∀ a ∈ l, a.length ≤ 100 := by
  unfold shortL at h
  rw [Bool.and_eq_true, decide_eq_true_eq, List.all_eq_true] at h
  refine ⟨h.1, fun a ha => ?_⟩
  have h2 := h.2 a ha
  unfold fewS at h2
  rw [Bool.and_eq_true, decide_eq_true_eq] at h2
  exact h2.1
theorem lonG_mem : ∀ (l : List (List ByteArray)), lonG l = [] ∨ lonG l ∈ l := by
  intro l
  unfold lonG
  have key : ∀ (l : List (List ByteArray)) (m : List ByteArray), l.foldl (fun m a => if m.length < a.length then a else m) m = m ∨ l.foldl (fun m a => if m.length < a.length then a else m) m ∈ l := by
    intro l
    induction l with
    | nil => intro m; exact .inl rfl
    | cons x r ih =>
      intro m
      rw [List.foldl_cons]
      rcases ih (if m.length < x.length then x else m) with h | h
      · rw [h]
        split
        · exact .inr (by simp)
        · exact .inl rfl
      · exact .inr (by simp [h])
  exact key l []
theorem lonG_le {l : List (List ByteArray)} {n : Nat} (h : ∀ a ∈ l, a.length ≤ n) : (lonG l).length ≤ n := by
  rcases lonG_mem l with e | e
  · rw [e]; exact Nat.zero_le _
  · exact h _ e
end Go.Proofs.YtohmbpcjapjkbaaGreatDoorFn
namespace Go.Proofs.YtohmbpcjapjkbaaGreatDoorFn
open Go.Proofs.YtohmbpcjapjkbaaGreatDoorAl Go.Proofs.Tryz
attribute [local irreducible] IntKind.wrap CodeOk OpsL OpG ACalls thn inBlk rndR cutR WkR Wk fnR DW ExtOk partsOf
/-! ### whether any rows agree, and the longest of them -/
theorem badAt_of {l : List (List ByteArray)} {i k : Nat} (hi : i < l.length) (hk : k < i) (h : begB l[i] (l[k]'(by omega)) = false) : badAt l i = true := by
  unfold badAt
  rw [List.any_eq_true]
  refine ⟨l[k]'(by omega), ?_, ?_⟩
  · rw [List.mem_take_iff_getElem]; exact ⟨k, by omega, rfl⟩
  · rw [show l.getD i [] = l[i] by simp [hi], h]; rfl
theorem badAt_no {l : List (List ByteArray)} {i : Nat} (hi : i < l.length) (h : ∀ j (hj : j < l.length), j < i → begB l[i] l[j] = true) : badAt l i = false := by
  unfold badAt
  rw [List.any_eq_false]
  intro b hb
  rw [List.mem_take_iff_getElem] at hb
  obtain ⟨j, hj, rfl⟩ := hb
  rw [show l.getD i [] = l[i] by simp [hi], h j (by omega) (by omega)]; simp
set_option maxHeartbeats 8000000 in
theorem lawAgrees_ok (l : List (List ByteArray)) : ACalls prog 9 0 [.st (.sl 1 (l.map rowL))] [] fun r h => r = B true ∧ h = [] := by
  have hm : (List.map rowL l).length = l.length := List.length_map _
  have hup := up21_ok
  have hsh := short21_ok l
  cases hS : shortL l <;> rw [hS] at hsh
  · refine fnC lay_ok func9 rfl rfl rfl rfl rfl ?_
    repeat' first | refine stp lay_ok rfl ?_ | refine fin ?_ | refine n_thn ?_ | refine r_thn ?_ | refine .seq ?_ | refine reg ?_ | refine .ret ?_ | refine cndT rfl ?_ | (refine o_none rfl ?_; (first | refine st_pure (hup) b33 rfl rfl rfl rfl ?_ | refine st_pure (hsh) b34 rfl rfl rfl rfl ?_)) | fail
    refine f_r [] rfl trivial rfl ⟨?_, rfl⟩
    rfl
  obtain ⟨hl, hs⟩ := shortL_fit hS
  have hag := agree_ok l (by omega) (fun a ha => by have := hs a ha; omega)
  have hlo := longest_ok l (by omega) (fun a ha => by have := hs a ha; omega)
  have hll := lonG_le hs
  have hsm := same3_ok (lonG l) (lonG l) (by omega) (by omega)
  rw [decide_eq_true rfl] at hsm
  have hb1 := fun k hk h hb => badI_step (l := l) (k := k) hk h hb
  have hb0 := badI_none (l := l)
  generalize badI l = W at *
  refine fnC lay_ok func9 rfl rfl rfl rfl rfl ?_
  repeat' first | refine stp lay_ok rfl ?_ | refine fin ?_ | refine n_thn ?_ | refine .seq ?_ | refine reg ?_ | refine .block ?_ | refine .skip ?_ | refine cndF rfl ?_ | (refine o_none rfl ?_; (first | refine st_pure (hup) b33 rfl rfl rfl rfl ?_ | refine st_pure (hsh) b34 rfl rfl rfl rfl ?_)) | fail
  refine CodeOk.wk (Wk.tmpLe (y := .st (.sl 1 [])) 6 rfl (AVLe.st (SLe.nil 1))) (Nat.le_refl _) ?_
  refine nrm rfl rfl ?_
  refine lpR (fun (i, w, out) => i ≤ l.length ∧ ((w = -1 ∧ ∀ j, j < i → badAt l j = false) ∨ (w = W ∧ 0 ≤ w)) ∧ out = lonG (l.take i) ∧ out.length ≤ 100) (fun (i, w, out) => l.length - i) (fun (i, w, out) => [(7, I i), (5, I w), (6, .st (.sl 1 (out.map rowS)))]) (fun (i, w, out) => []) ((0, -1, [])) [0, 3] [] [] rfl rfl rfl (.of [] (by (repeat' first | exact trivial | refine And.intro ?_ ?_ | rfl); first | done | fail) (by (repeat' first | exact trivial | refine And.intro ?_ ?_ | rfl); first | done | fail) rfl) ?_ ?_
  · exact ⟨Nat.zero_le _, .inl ⟨rfl, fun j h => by omega⟩, rfl, Nat.zero_le _⟩
  rintro ⟨i, w, out⟩ ⟨g1, g2, g3, g4⟩
  refine nrm rfl rfl ?_
  have hmo : (List.map rowS out).length = out.length := List.length_map _
  by_cases hi : i < l.length
  · have hat := at_rowL hi
    have hai := hs _ (List.getElem_mem hi)
    have htk := lonG_take hi
    rw [← g3] at htk
    have hmi : (List.map rowS l[i]).length = l[i].length := List.length_map _
    repeat' first | refine ln ?_ | refine stp lay_ok rfl ?_ | refine fin ?_ | refine n_thn ?_ | refine e_thn ?_ | refine e_hit ?_ | refine e_rr ?_ | refine .seq ?_ | refine reg ?_ | refine .block ?_ | refine .skip ?_ | refine .exit ?_ | refine c_dec rfl (fun hc => ?_) (fun hc => ?_) | fail
    all_goals first
      | (exfalso; omega)
      | skip
    refine lpR (fun (k, w) => k ≤ i ∧ ((w = -1 ∧ (∀ j, j < i → badAt l j = false) ∧ ∀ j (hj : j < l.length), j < k → begB l[i] l[j] = true) ∨ (w = W ∧ 0 ≤ w))) (fun (k, w) => i - k) (fun (k, w) => [(8, I k), (5, I w)]) (fun (k, w) => []) ((0, w)) [0, 3, 6, 7] [] [] rfl rfl rfl (.of [] (by (repeat' first | exact trivial | refine And.intro ?_ ?_ | rfl); first | done | fail) (by (repeat' first | exact trivial | refine And.intro ?_ ?_ | rfl); first | done | fail) rfl) ?_ ?_
    · refine ⟨Nat.zero_le _, ?_⟩
      rcases g2 with ⟨h1, h2⟩ | h
      · exact .inl ⟨h1, h2, fun j hj h => by omega⟩
      · exact .inr h
    clear g2
    rintro ⟨k, w⟩ ⟨k1, k2⟩
    refine nrm rfl rfl ?_
    by_cases hk : k < i ∧ w < 0
    · obtain ⟨hk, hw⟩ := hk
      obtain ⟨q1, q2, q3⟩ : w = -1 ∧ (∀ j, j < i → badAt l j = false) ∧ ∀ j (hj : j < l.length), j < k → begB l[i] l[j] = true := by
        rcases k2 with h | h
        · exact h
        · exfalso; omega
      have hkl : k < l.length := by omega
      have hat2 := at_rowL hkl
      have hwi := with_ok l[i] l[k] (by omega)
      have hbad : begB l[i] l[k] = false → (i : Int) = W := fun h => by
        rw [hb1 i hi q2 (badAt_of hi hk h)]
      have hgood : begB l[i] l[k] = true → ∀ j (hj : j < l.length), j < k + 1 → begB l[i] l[j] = true := fun h j hj hjk => by
        by_cases e : j = k
        · subst e; exact h
        · exact q3 j hj (by omega)
      generalize begB l[i] l[k] = C at *
      generalize hai0 : l[i] = a at *
      generalize l[k] = b at *
      cases C with
      | false =>
        repeat' first | refine stp lay_ok rfl ?_ | refine fin ?_ | refine n_thn ?_ | refine e_thn ?_ | refine e_hit ?_ | refine e_rr ?_ | refine .seq ?_ | refine reg ?_ | refine .block ?_ | refine .skip ?_ | refine .exit ?_ | refine cndF rfl ?_ | refine c_dec rfl (fun hc => ?_) (fun hc => ?_) | refine gd rfl rfl rfl (fun hg => ?_) (fun hg => ?_) | fail
        all_goals first
          | (exfalso; omega)
          | skip
        refine dreg [(0, [], [34, 37, 38, 39, 40]), (1, [], [33, 37, 38, 39, 40]), (2, [0, 1], [37, 38, 39, 40]), (3, [0, 1, 2], [37, 38, 39, 40]), (4, [], [33, 34, 35, 36, 38]), (5, [], [33, 34, 35, 36, 37]), (6, [4, 5], [33, 34, 35, 36]), (7, [4, 5, 6], [33, 34, 35, 36]), (8, [0, 1, 2, 3, 4, 5, 6, 7], []), (9, [0, 1, 2, 3, 4, 5, 6, 7, 8], [])] mixed (by kernel_rfl) ?_
        repeat' first | refine wr (by omega) ?_ | refine stp lay_ok rfl ?_ | refine fin ?_ | refine n_thn ?_ | refine n_blk ?_ | refine .seq ?_ | refine reg ?_ | refine cndT rfl ?_ | refine dws lay_ok rfl rfl rfl rfl rfl rfl rfl ?_ | refine dw_end ?_ | refine dwb rfl rfl rfl rfl rfl (by (first | refine st_index (rowL a) lay_ok rfl rfl rfl rfl (by omega) hat ?_ | refine st_index (rowL b) lay_ok rfl rfl rfl rfl (by omega) hat2 ?_ | refine st_pure (hwi) b40 rfl rfl rfl rfl ?_); exact fin rfl) rfl rfl ?_ | fail
        refine n_rr ((k + 1, (i : Int))) ?_ (.of [] (by (repeat' first | exact trivial | refine And.intro ?_ ?_ | rfl | exact congrArg (fun z : Int => some (AV.st (.int .i64 z))) (show (k : Int) + 1 = ((k + 1 : Nat) : Int) by omega)); first | done | fail) (by (repeat' first | exact trivial | refine And.intro ?_ ?_ | rfl | exact congrArg (fun z : Int => some (AV.st (.int .i64 z))) (show (k : Int) + 1 = ((k + 1 : Nat) : Int) by omega)); first | done | fail) rfl) ?_
        · show i - (k + 1) < i - k; omega
        · exact ⟨hk, .inr ⟨hbad rfl, by show (0 : Int) ≤ (i : Int); omega⟩⟩
      | true =>
        repeat' first | refine stp lay_ok rfl ?_ | refine fin ?_ | refine n_thn ?_ | refine e_thn ?_ | refine e_hit ?_ | refine e_rr ?_ | refine .seq ?_ | refine reg ?_ | refine .block ?_ | refine .skip ?_ | refine .exit ?_ | refine cndF rfl ?_ | refine c_dec rfl (fun hc => ?_) (fun hc => ?_) | refine gd rfl rfl rfl (fun hg => ?_) (fun hg => ?_) | fail
        all_goals first
          | (exfalso; omega)
          | skip
        refine dreg [(0, [], [34, 37, 38, 39, 40]), (1, [], [33, 37, 38, 39, 40]), (2, [0, 1], [37, 38, 39, 40]), (3, [0, 1, 2], [37, 38, 39, 40]), (4, [], [33, 34, 35, 36, 38]), (5, [], [33, 34, 35, 36, 37]), (6, [4, 5], [33, 34, 35, 36]), (7, [4, 5, 6], [33, 34, 35, 36]), (8, [0, 1, 2, 3, 4, 5, 6, 7], []), (9, [0, 1, 2, 3, 4, 5, 6, 7, 8], [])] mixed (by kernel_rfl) ?_
        repeat' first | refine wr (by omega) ?_ | refine stp lay_ok rfl ?_ | refine fin ?_ | refine n_thn ?_ | refine n_blk ?_ | refine .seq ?_ | refine reg ?_ | refine .skip ?_ | refine cndF rfl ?_ | refine dws lay_ok rfl rfl rfl rfl rfl rfl rfl ?_ | refine dw_end ?_ | refine dwb rfl rfl rfl rfl rfl (by (first | refine st_index (rowL a) lay_ok rfl rfl rfl rfl (by omega) hat ?_ | refine st_index (rowL b) lay_ok rfl rfl rfl rfl (by omega) hat2 ?_ | refine st_pure (hwi) b40 rfl rfl rfl rfl ?_); exact fin rfl) rfl rfl ?_ | fail
        refine n_rr ((k + 1, w)) ?_ (.of [] (by (repeat' first | exact trivial | refine And.intro ?_ ?_ | rfl | exact congrArg (fun z : Int => some (AV.st (.int .i64 z))) (show (k : Int) + 1 = ((k + 1 : Nat) : Int) by omega)); first | done | fail) (by (repeat' first | exact trivial | refine And.intro ?_ ?_ | rfl | exact congrArg (fun z : Int => some (AV.st (.int .i64 z))) (show (k : Int) + 1 = ((k + 1 : Nat) : Int) by omega)); first | done | fail) rfl) ?_
        · show i - (k + 1) < i - k; omega
        · exact ⟨hk, .inl ⟨q1, q2, hgood rfl⟩⟩
    · have hnx : (w = -1 ∧ ∀ j, j < i + 1 → badAt l j = false) ∨ (w = W ∧ 0 ≤ w) := by
        rcases k2 with ⟨q1, q2, q3⟩ | h
        · have hke : k = i := by omega
          subst hke
          refine .inl ⟨q1, fun j hj => ?_⟩
          by_cases e : j = k
          · subst e; exact badAt_no hi q3
          · exact q2 j (by omega)
        · exact .inr h
      clear k2
      generalize hai0 : l[i] = a at *
      by_cases hgt : out.length < a.length
      · rw [if_pos hgt] at htk
        repeat' first | refine wr (by omega) ?_ | refine ln ?_ | refine stp lay_ok rfl ?_ | refine fin ?_ | refine n_thn ?_ | refine n_blk ?_ | refine e_thn ?_ | refine e_hit ?_ | refine e_rr ?_ | refine .seq ?_ | refine reg ?_ | refine .block ?_ | refine .skip ?_ | refine .exit ?_ | refine cndF rfl ?_ | refine c_dec rfl (fun hc => ?_) (fun hc => ?_) | (refine o_none rfl ?_; refine st_index (rowL a) lay_ok rfl rfl rfl rfl (by omega) hat ?_) | refine gd rfl rfl rfl (fun hg => ?_) (fun hg => ?_) | fail
        all_goals first
          | (exfalso; omega)
          | skip
        all_goals
          refine n_rr ((i + 1, w, a)) ?_ (.of [] (by (repeat' first | exact trivial | refine And.intro ?_ ?_ | rfl | exact congrArg (fun z : Int => some (AV.st (.int .i64 z))) (show (i : Int) + 1 = ((i + 1 : Nat) : Int) by omega)); first | done | fail) (by (repeat' first | exact trivial | refine And.intro ?_ ?_ | rfl | exact congrArg (fun z : Int => some (AV.st (.int .i64 z))) (show (i : Int) + 1 = ((i + 1 : Nat) : Int) by omega)); first | done | fail) rfl) ?_
          · show l.length - (i + 1) < l.length - i; omega
          · exact ⟨hi, hnx, htk.symm, hai⟩
      · rw [if_neg hgt] at htk
        repeat' first | refine wr (by omega) ?_ | refine ln ?_ | refine stp lay_ok rfl ?_ | refine fin ?_ | refine n_thn ?_ | refine n_blk ?_ | refine e_thn ?_ | refine e_hit ?_ | refine e_rr ?_ | refine .seq ?_ | refine reg ?_ | refine .block ?_ | refine .skip ?_ | refine .exit ?_ | refine cndF rfl ?_ | refine c_dec rfl (fun hc => ?_) (fun hc => ?_) | (refine o_none rfl ?_; refine st_index (rowL a) lay_ok rfl rfl rfl rfl (by omega) hat ?_) | refine gd rfl rfl rfl (fun hg => ?_) (fun hg => ?_) | fail
        all_goals first
          | (exfalso; omega)
          | skip
        all_goals
          refine n_rr ((i + 1, w, out)) ?_ (.of [] (by (repeat' first | exact trivial | refine And.intro ?_ ?_ | rfl | exact congrArg (fun z : Int => some (AV.st (.int .i64 z))) (show (i : Int) + 1 = ((i + 1 : Nat) : Int) by omega)); first | done | fail) (by (repeat' first | exact trivial | refine And.intro ?_ ?_ | rfl | exact congrArg (fun z : Int => some (AV.st (.int .i64 z))) (show (i : Int) + 1 = ((i + 1 : Nat) : Int) by omega)); first | done | fail) rfl) ?_
          · show l.length - (i + 1) < l.length - i; omega
          · exact ⟨hi, hnx, htk.symm, g4⟩
  · have hie : i = l.length := by omega
    subst hie
    rw [List.take_length] at g3
    have hw : w = W := by
      rcases g2 with ⟨h1, h2⟩ | h
      · rw [h1, hb0 h2]
      · exact h.1
    subst hw g3
    repeat' first | refine ln ?_ | refine stp lay_ok rfl ?_ | refine fin ?_ | refine n_thn ?_ | refine e_thn ?_ | refine e_hit ?_ | refine e_rr ?_ | refine .seq ?_ | refine reg ?_ | refine .block ?_ | refine .skip ?_ | refine .ret ?_ | refine .exit ?_ | refine c_dec rfl (fun hc => ?_) (fun hc => ?_) | ((first | refine o_none rfl ?_ | refine o_yes rfl rfl rfl ?_); (first | refine st_pure (hag) b41 rfl rfl rfl rfl ?_ | refine st_pure (hlo) b42 rfl rfl rfl rfl ?_ | refine st_pure (hsm) b25 rfl rfl rfl rfl ?_)) | refine gd rfl rfl rfl (fun hg => ?_) (fun hg => ?_) | fail
    all_goals first
      | (exfalso; omega)
      | skip
    all_goals first
      | (refine f_r [] rfl trivial rfl ⟨?_, rfl⟩; rfl)
      | (refine f_r [] rfl trivial rfl ⟨?_, rfl⟩; simp_all [retOf, B]; done)
end Go.Proofs.YtohmbpcjapjkbaaGreatDoorFn
namespace Go.Proofs.YtohmbpcjapjkbaaGreatDoorFn
open Go.Proofs.YtohmbpcjapjkbaaGreatDoorAl Go.Proofs.Tryz Go.ChangeAt Go.RowKit
/-! ### what arguments of the laws' types read as -/
abbrev ΦI (xs : List SV) : Prop := ∃ n, xs = [.int .i64 n] ∧ (Lit.int .i64 n).wf = true
theorem rdI : Rd prog 3 ΦI := rd_int underlying3
abbrev ΦS (xs : List SV) : Prop := ∃ s : ByteArray, xs = [.str s] ∧ s.size ≤ reachBytes
theorem rdS : Rd prog 9 ΦS := rd_str underlying9
abbrev ΦL (sz bytes : Nat) (Φ : List SV → Prop) (xs : List SV) : Prop := ∃ rows, xs = [.sl sz rows] ∧ (∀ row ∈ rows, Φ row) ∧ rows.length * bytes ≤ reachBytes
theorem rdLS : Rd prog 22 (ΦL 1 16 ΦS) := rd_slice underlying22 (by kernel_rfl) (by kernel_rfl) rfl rdS
theorem ofSs {rows : List (List SV)} (h : ∀ row ∈ rows, ΦS row) : ∃ l : List ByteArray, rows = l.map rowS ∧ ∀ s ∈ l, s.size ≤ reachBytes :=
  rows_map (f := rowS) (Ok := fun s => s.size ≤ reachBytes) h
/-! ### files and cuts -/
end Go.Proofs.YtohmbpcjapjkbaaGreatDoorFn
namespace Go.Proofs.YtohmbpcjapjkbaaGreatDoorFn
open Go.Proofs.YtohmbpcjapjkbaaGreatDoorAl Go.Proofs.Tryz Go.ChangeAt Go.RowKit
/-! ### rows of texts, and numbers, as arguments -/
theorem rdLLS : Rd prog 72 (ΦL 1 24 (ΦL 1 16 ΦS)) := rd_slice underlying72 (by kernel_rfl) (by kernel_rfl) rfl rdLS
theorem rdLI : Rd prog 45 (ΦL 1 8 ΦI) := rd_slice underlying45 (by kernel_rfl) (by kernel_rfl) rfl rdI
theorem ofL {xs : List SV} (h : ΦL 1 16 ΦS xs) : ∃ a : List ByteArray, xs = rowL a ∧ True := by
  obtain ⟨rows, rfl, hr, hl⟩ := h
  obtain ⟨l, rfl, hs⟩ := ofSs hr
  exact ⟨l, rfl, trivial⟩
theorem ofZ {xs : List SV} (h : ΦI xs) : ∃ n : Int, xs = rowZ n ∧ True := by
  obtain ⟨k, rfl, _⟩ := h
  exact ⟨k, rfl, trivial⟩
end Go.Proofs.YtohmbpcjapjkbaaGreatDoorFn
