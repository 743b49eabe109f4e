/-
  The table of types of this seat, as the abstract interpreter reads it, and that it is the program's.
-/
import Derived.Test.YtmdhahfminiilaaGreatDoorAbsPre
import Derived.Test.YtmdhahfminiilaaGreatDoorRows
import Derived.KernelRfl
namespace Go.Proofs.YtmdhahfminiilaaGreatDoor
open Go Go.Abs

def ti2 : TI := ⟨.int .i64, 1, 8, [.int .i64 0], false, []⟩
def ti3 : TI := ⟨.int .i64, 1, 8, [.int .i64 0], false, []⟩
def ti4 : TI := ⟨.bool, 1, 1, [.bool false], false, []⟩
def ti5 : TI := ⟨.int .u8, 1, 1, [.int .u8 0], false, []⟩
def ti6 : TI := ⟨.int .u8, 1, 1, [.int .u8 0], false, []⟩
def ti7 : TI := ⟨.struct #[⟨ "x", 2, 0, false, "", "runtime", 0⟩, ⟨ "y", 3, 1, false, "", "runtime", 8⟩, ⟨ "signed", 4, 2, false, "", "runtime", 16⟩, ⟨ "code", 6, 3, false, "", "runtime", 17⟩], 4, 24, [.int .i64 0, .int .i64 0, .bool false, .int .u8 0], true, []⟩
def ti8 : TI := ⟨.struct #[⟨ "x", 2, 0, false, "", "runtime", 0⟩, ⟨ "y", 3, 1, false, "", "runtime", 8⟩, ⟨ "signed", 4, 2, false, "", "runtime", 16⟩, ⟨ "code", 6, 3, false, "", "runtime", 17⟩], 4, 24, [.int .i64 0, .int .i64 0, .bool false, .int .u8 0], true, []⟩
def ti9 : TI := ⟨.string, 1, 16, [.string ⟨#[]⟩], false, []⟩
def ti10 : TI := ⟨.string, 1, 16, [.string ⟨#[]⟩], false, []⟩
def ti11 : TI := ⟨.string, 1, 16, [.string ⟨#[]⟩], false, []⟩
def ti12 : TI := ⟨.int .u64, 1, 8, [.int .u64 0], false, []⟩
def ti13 : TI := ⟨.struct #[⟨ "msg", 9, 0, false, "", "runtime", 0⟩, ⟨ "addr", 12, 1, false, "", "runtime", 16⟩], 2, 24, [.string ⟨#[]⟩, .int .u64 0], true, []⟩
def ti14 : TI := ⟨.struct #[⟨ "msg", 9, 0, false, "", "runtime", 0⟩, ⟨ "addr", 12, 1, false, "", "runtime", 16⟩], 2, 24, [.string ⟨#[]⟩, .int .u64 0], true, []⟩
def ti18 : TI := ⟨.struct #[⟨ "typ", 17, 0, false, "", "internal/runtime/maps", 0⟩], 1, 8, [.pointer none], true, []⟩
def ti19 : TI := ⟨.struct #[⟨ "typ", 17, 0, false, "", "internal/runtime/maps", 0⟩], 1, 8, [.pointer none], true, []⟩
def ti21 : TI := ⟨.int .i32, 1, 4, [.int .i32 0], false, []⟩
def ti22 : TI := ⟨.slice 50, 1, 24, [.slice none 0 0], false, [2]⟩
def ti25 : TI := ⟨.slice 38, 1, 24, [.slice none 0 0], false, [8]⟩
def ti26 : TI := ⟨.int .i64, 1, 8, [.int .i64 0], false, []⟩
def ti34 : TI := ⟨.struct #[⟨ "Unit", 3, 0, false, "", "", 0⟩, ⟨ "Parent", 3, 1, false, "", "", 8⟩, ⟨ "Level", 3, 2, false, "", "", 16⟩, ⟨ "Mark", 9, 3, false, "", "", 24⟩, ⟨ "Title", 9, 4, false, "", "", 40⟩], 5, 56, [.int .i64 0, .int .i64 0, .int .i64 0, .string ⟨#[]⟩, .string ⟨#[]⟩], true, []⟩
def ti35 : TI := ⟨.struct #[⟨ "Unit", 3, 0, false, "", "", 0⟩, ⟨ "Parent", 3, 1, false, "", "", 8⟩, ⟨ "Level", 3, 2, false, "", "", 16⟩, ⟨ "Mark", 9, 3, false, "", "", 24⟩, ⟨ "Title", 9, 4, false, "", "", 40⟩], 5, 56, [.int .i64 0, .int .i64 0, .int .i64 0, .string ⟨#[]⟩, .string ⟨#[]⟩], true, []⟩
def ti36 : TI := ⟨.slice 3, 1, 24, [.slice none 0 0], false, [1]⟩
def ti37 : TI := ⟨.struct #[⟨ "Number", 3, 0, false, "", "", 0⟩, ⟨ "Day", 3, 1, false, "", "", 8⟩, ⟨ "Unit", 35, 2, false, "", "", 16⟩, ⟨ "Path", 36, 7, false, "", "", 72⟩], 8, 96, [.int .i64 0, .int .i64 0, .int .i64 0, .int .i64 0, .int .i64 0, .string ⟨#[]⟩, .string ⟨#[]⟩, .slice none 0 0], true, [0, 0, 0, 0, 0, 0, 0, 1]⟩
def ti38 : TI := ⟨.struct #[⟨ "Number", 3, 0, false, "", "", 0⟩, ⟨ "Day", 3, 1, false, "", "", 8⟩, ⟨ "Unit", 35, 2, false, "", "", 16⟩, ⟨ "Path", 36, 7, false, "", "", 72⟩], 8, 96, [.int .i64 0, .int .i64 0, .int .i64 0, .int .i64 0, .int .i64 0, .string ⟨#[]⟩, .string ⟨#[]⟩, .slice none 0 0], true, [0, 0, 0, 0, 0, 0, 0, 1]⟩
def ti48 : TI := ⟨.slice 35, 1, 24, [.slice none 0 0], false, [5]⟩
def ti49 : TI := ⟨.struct #[⟨ "Day", 3, 0, false, "", "", 0⟩, ⟨ "Units", 48, 1, false, "", "", 8⟩], 2, 32, [.int .i64 0, .slice none 0 0], true, [0, 5]⟩
def ti50 : TI := ⟨.struct #[⟨ "Day", 3, 0, false, "", "", 0⟩, ⟨ "Units", 48, 1, false, "", "", 8⟩], 2, 32, [.int .i64 0, .slice none 0 0], true, [0, 5]⟩
def ti15 : TI := ⟨.pointer 157, 1, 8, [.pointer none], false, []⟩
def ti16 : TI := ⟨.pointer 160, 1, 8, [.pointer none], false, []⟩
def ti17 : TI := ⟨.pointer 168, 1, 8, [.pointer none], false, []⟩
def ti63 : TI := ⟨.slice 9, 1, 24, [.slice none 0 0], false, [1]⟩
def ti65 : TI := ⟨.int .u64, 1, 8, [.int .u64 0], false, []⟩
def ti74 : TI := ⟨.map 9 3, 1, 8, [.map none], false, []⟩
def ti93 : TI := ⟨.array 256 4, 256, 256, [.bool false, .bool false, .bool false, .bool false, .bool false, .bool false, .bool false, .bool false, .bool false, .bool false, .bool false, .bool false, .bool false, .bool false, .bool false, .bool false, .bool false, .bool false, .bool false, .bool false, .bool false, .bool false, .bool false, .bool false, .bool false, .bool false, .bool false, .bool false, .bool false, .bool false, .bool false, .bool false, .bool false, .bool false, .bool false, .bool false, .bool false, .bool false, .bool false, .bool false, .bool false, .bool false, .bool false, .bool false, .bool false, .bool false, .bool false, .bool false, .bool false, .bool false, .bool false, .bool false, .bool false, .bool false, .bool false, .bool false, .bool false, .bool false, .bool false, .bool false, .bool false, .bool false, .bool false, .bool false, .bool false, .bool false, .bool false, .bool false, .bool false, .bool false, .bool false, .bool false, .bool false, .bool false, .bool false, .bool false, .bool false, .bool false, .bool false, .bool false, .bool false, .bool false, .bool false, .bool false, .bool false, .bool false, .bool false, .bool false, .bool false, .bool false, .bool false, .bool false, .bool false, .bool false, .bool false, .bool false, .bool false, .bool false, .bool false, .bool false, .bool false, .bool false, .bool false, .bool false, .bool false, .bool false, .bool false, .bool false, .bool false, .bool false, .bool false, .bool false, .bool false, .bool false, .bool false, .bool false, .bool false, .bool false, .bool false, .bool false, .bool false, .bool false, .bool false, .bool false, .bool false, .bool false, .bool false, .bool false, .bool false, .bool false, .bool false, .bool false, .bool false, .bool false, .bool false, .bool false, .bool false, .bool false, .bool false, .bool false, .bool false, .bool false, .bool false, .bool false, .bool false, .bool false, .bool false, .bool false, .bool false, .bool false, .bool false, .bool false, .bool false, .bool false, .bool false, .bool false, .bool false, .bool false, .bool false, .bool false, .bool false, .bool false, .bool false, .bool false, .bool false, .bool false, .bool false, .bool false, .bool false, .bool false, .bool false, .bool false, .bool false, .bool false, .bool false, .bool false, .bool false, .bool false, .bool false, .bool false, .bool false, .bool false, .bool false, .bool false, .bool false, .bool false, .bool false, .bool false, .bool false, .bool false, .bool false, .bool false, .bool false, .bool false, .bool false, .bool false, .bool false, .bool false, .bool false, .bool false, .bool false, .bool false, .bool false, .bool false, .bool false, .bool false, .bool false, .bool false, .bool false, .bool false, .bool false, .bool false, .bool false, .bool false, .bool false, .bool false, .bool false, .bool false, .bool false, .bool false, .bool false, .bool false, .bool false, .bool false, .bool false, .bool false, .bool false, .bool false, .bool false, .bool false, .bool false, .bool false, .bool false, .bool false, .bool false, .bool false, .bool false, .bool false, .bool false, .bool false, .bool false, .bool false, .bool false, .bool false, .bool false, .bool false, .bool false, .bool false, .bool false, .bool false, .bool false, .bool false, .bool false, .bool false, .bool false, .bool false], true, []⟩
def ti97 : TI := ⟨.pointer 93, 1, 8, [.pointer none], false, []⟩
def ti100 : TI := ⟨.slice 5, 1, 24, [.slice none 0 0], false, [1]⟩
def ti101 : TI := ⟨.map 3 3, 1, 8, [.map none], false, []⟩
def ti107 : TI := ⟨.int .i64, 1, 8, [.int .i64 0], false, []⟩
def ti109 : TI := ⟨.int .u64, 1, 8, [.int .u64 0], false, []⟩
def ti111 : TI := ⟨.pointer 124, 1, 8, [.pointer none], false, []⟩
def ti123 : TI := ⟨.struct #[⟨ "Func", 9, 0, false, "", "", 0⟩, ⟨ "Num", 9, 1, false, "", "", 16⟩, ⟨ "Err", 67, 2, false, "", "", 32⟩], 3, 48, [.string ⟨#[]⟩, .string ⟨#[]⟩, .nilIface], true, []⟩
def ti124 : TI := ⟨.struct #[⟨ "Func", 9, 0, false, "", "", 0⟩, ⟨ "Num", 9, 1, false, "", "", 16⟩, ⟨ "Err", 67, 2, false, "", "", 32⟩], 3, 48, [.string ⟨#[]⟩, .string ⟨#[]⟩, .nilIface], true, []⟩
def ti129 : TI := ⟨.array 24 5, 24, 24, [.int .u8 0, .int .u8 0, .int .u8 0, .int .u8 0, .int .u8 0, .int .u8 0, .int .u8 0, .int .u8 0, .int .u8 0, .int .u8 0, .int .u8 0, .int .u8 0, .int .u8 0, .int .u8 0, .int .u8 0, .int .u8 0, .int .u8 0, .int .u8 0, .int .u8 0, .int .u8 0, .int .u8 0, .int .u8 0, .int .u8 0, .int .u8 0], true, []⟩
def ti135 : TI := ⟨.pointer 5, 1, 8, [.pointer none], false, []⟩
def ti136 : TI := ⟨.pointer 138, 1, 8, [.pointer none], false, []⟩
def ti137 : TI := ⟨.struct #[⟨ "s", 9, 0, false, "", "errors", 0⟩], 1, 16, [.string ⟨#[]⟩], true, []⟩
def ti138 : TI := ⟨.struct #[⟨ "s", 9, 0, false, "", "errors", 0⟩], 1, 16, [.string ⟨#[]⟩], true, []⟩
def ti140 : TI := ⟨.struct #[⟨ "lo", 5, 0, false, "", "unicode/utf8", 0⟩, ⟨ "hi", 5, 1, false, "", "unicode/utf8", 1⟩], 2, 2, [.int .u8 0, .int .u8 0], true, []⟩
def ti141 : TI := ⟨.struct #[⟨ "lo", 5, 0, false, "", "unicode/utf8", 0⟩, ⟨ "hi", 5, 1, false, "", "unicode/utf8", 1⟩], 2, 2, [.int .u8 0, .int .u8 0], true, []⟩
def ti142 : TI := ⟨.array 16 141, 32, 32, [.int .u8 0, .int .u8 0, .int .u8 0, .int .u8 0, .int .u8 0, .int .u8 0, .int .u8 0, .int .u8 0, .int .u8 0, .int .u8 0, .int .u8 0, .int .u8 0, .int .u8 0, .int .u8 0, .int .u8 0, .int .u8 0, .int .u8 0, .int .u8 0, .int .u8 0, .int .u8 0, .int .u8 0, .int .u8 0, .int .u8 0, .int .u8 0, .int .u8 0, .int .u8 0, .int .u8 0, .int .u8 0, .int .u8 0, .int .u8 0, .int .u8 0, .int .u8 0], true, []⟩
def ti145 : TI := ⟨.array 20 65, 20, 160, [.int .u64 0, .int .u64 0, .int .u64 0, .int .u64 0, .int .u64 0, .int .u64 0, .int .u64 0, .int .u64 0, .int .u64 0, .int .u64 0, .int .u64 0, .int .u64 0, .int .u64 0, .int .u64 0, .int .u64 0, .int .u64 0, .int .u64 0, .int .u64 0, .int .u64 0, .int .u64 0], true, []⟩
def ti146 : TI := ⟨.int .u32, 1, 4, [.int .u32 0], false, []⟩
def ti153 : TI := ⟨.array 32 5, 32, 32, [.int .u8 0, .int .u8 0, .int .u8 0, .int .u8 0, .int .u8 0, .int .u8 0, .int .u8 0, .int .u8 0, .int .u8 0, .int .u8 0, .int .u8 0, .int .u8 0, .int .u8 0, .int .u8 0, .int .u8 0, .int .u8 0, .int .u8 0, .int .u8 0, .int .u8 0, .int .u8 0, .int .u8 0, .int .u8 0, .int .u8 0, .int .u8 0, .int .u8 0, .int .u8 0, .int .u8 0, .int .u8 0, .int .u8 0, .int .u8 0, .int .u8 0, .int .u8 0], true, []⟩
def ti156 : TI := ⟨.struct #[⟨ "_interface", 17, 0, false, "", "runtime", 0⟩, ⟨ "concrete", 17, 1, false, "", "runtime", 8⟩, ⟨ "asserted", 17, 2, false, "", "runtime", 16⟩, ⟨ "missingMethod", 9, 3, false, "", "runtime", 24⟩], 4, 40, [.pointer none, .pointer none, .pointer none, .string ⟨#[]⟩], true, []⟩
def ti157 : TI := ⟨.struct #[⟨ "_interface", 17, 0, false, "", "runtime", 0⟩, ⟨ "concrete", 17, 1, false, "", "runtime", 8⟩, ⟨ "asserted", 17, 2, false, "", "runtime", 16⟩, ⟨ "missingMethod", 9, 3, false, "", "runtime", 24⟩], 4, 40, [.pointer none, .pointer none, .pointer none, .string ⟨#[]⟩], true, []⟩
def ti158 : TI := ⟨.array 0 16, 0, 0, [], true, []⟩
def ti159 : TI := ⟨.struct #[⟨ "_", 158, 0, false, "", "runtime", 0⟩], 0, 0, [], true, []⟩
def ti160 : TI := ⟨.struct #[⟨ "_", 158, 0, false, "", "runtime", 0⟩], 0, 0, [], true, []⟩
def ti162 : TI := ⟨.int .u8, 1, 1, [.int .u8 0], false, []⟩
def ti163 : TI := ⟨.int .u8, 1, 1, [.int .u8 0], false, []⟩
def ti165 : TI := ⟨.int .i32, 1, 4, [.int .i32 0], false, []⟩
def ti166 : TI := ⟨.int .i32, 1, 4, [.int .i32 0], false, []⟩
def ti167 : TI := ⟨.struct #[⟨ "Size_", 12, 0, false, "", "", 0⟩, ⟨ "PtrBytes", 12, 1, false, "", "", 8⟩, ⟨ "Hash", 146, 2, false, "", "", 16⟩, ⟨ "TFlag", 162, 3, false, "", "", 20⟩, ⟨ "Align_", 5, 4, false, "", "", 21⟩, ⟨ "FieldAlign_", 5, 5, false, "", "", 22⟩, ⟨ "Kind_", 163, 6, false, "", "", 23⟩, ⟨ "Equal", 164, 7, false, "", "", 24⟩, ⟨ "GCData", 135, 8, false, "", "", 32⟩, ⟨ "Str", 165, 9, false, "", "", 40⟩, ⟨ "PtrToThis", 166, 10, false, "", "", 44⟩], 11, 48, [.int .u64 0, .int .u64 0, .int .u32 0, .int .u8 0, .int .u8 0, .int .u8 0, .int .u8 0, .nilFunc, .pointer none, .int .i32 0, .int .i32 0], true, []⟩
def ti168 : TI := ⟨.struct #[⟨ "Size_", 12, 0, false, "", "", 0⟩, ⟨ "PtrBytes", 12, 1, false, "", "", 8⟩, ⟨ "Hash", 146, 2, false, "", "", 16⟩, ⟨ "TFlag", 162, 3, false, "", "", 20⟩, ⟨ "Align_", 5, 4, false, "", "", 21⟩, ⟨ "FieldAlign_", 5, 5, false, "", "", 22⟩, ⟨ "Kind_", 163, 6, false, "", "", 23⟩, ⟨ "Equal", 164, 7, false, "", "", 24⟩, ⟨ "GCData", 135, 8, false, "", "", 32⟩, ⟨ "Str", 165, 9, false, "", "", 40⟩, ⟨ "PtrToThis", 166, 10, false, "", "", 44⟩], 11, 48, [.int .u64 0, .int .u64 0, .int .u32 0, .int .u8 0, .int .u8 0, .int .u8 0, .int .u8 0, .nilFunc, .pointer none, .int .i32 0, .int .i32 0], true, []⟩

def tab : Tab := [(2, ti2), (3, ti3), (4, ti4), (5, ti5), (6, ti6), (7, ti7), (8, ti8), (9, ti9), (10, ti10), (11, ti11), (12, ti12), (13, ti13), (14, ti14), (18, ti18), (19, ti19), (21, ti21), (22, ti22), (25, ti25), (26, ti26), (34, ti34), (35, ti35), (36, ti36), (37, ti37), (38, ti38), (48, ti48), (49, ti49), (50, ti50), (15, ti15), (16, ti16), (17, ti17), (63, ti63), (65, ti65), (74, ti74), (93, ti93), (97, ti97), (100, ti100), (101, ti101), (107, ti107), (109, ti109), (111, ti111), (123, ti123), (124, ti124), (129, ti129), (135, ti135), (136, ti136), (137, ti137), (138, ti138), (140, ti140), (141, ti141), (142, ti142), (145, ti145), (146, ti146), (153, ti153), (156, ti156), (157, ti157), (158, ti158), (159, ti159), (160, ti160), (162, ti162), (163, ti163), (165, ti165), (166, ti166), (167, ti167), (168, ti168)]

theorem tok2 : TOk1 Tryz.prog 2 ti2 := ⟨by kernel_rfl, by kernel_rfl, by kernel_rfl, rfl, rfl, rfl, by decide⟩
theorem tok3 : TOk1 Tryz.prog 3 ti3 := ⟨by kernel_rfl, by kernel_rfl, by kernel_rfl, rfl, rfl, rfl, by decide⟩
theorem tok4 : TOk1 Tryz.prog 4 ti4 := ⟨by kernel_rfl, by kernel_rfl, by kernel_rfl, rfl, rfl, rfl, by decide⟩
theorem tok5 : TOk1 Tryz.prog 5 ti5 := ⟨by kernel_rfl, by kernel_rfl, by kernel_rfl, rfl, rfl, rfl, by decide⟩
theorem tok6 : TOk1 Tryz.prog 6 ti6 := ⟨by kernel_rfl, by kernel_rfl, by kernel_rfl, rfl, rfl, rfl, by decide⟩
theorem tok7 : TOk1 Tryz.prog 7 ti7 := ⟨by kernel_rfl, by kernel_rfl, by kernel_rfl, rfl, rfl, rfl, by decide⟩
theorem tok8 : TOk1 Tryz.prog 8 ti8 := ⟨by kernel_rfl, by kernel_rfl, by kernel_rfl, rfl, rfl, rfl, by decide⟩
theorem tok9 : TOk1 Tryz.prog 9 ti9 := ⟨by kernel_rfl, by kernel_rfl, by kernel_rfl, rfl, rfl, rfl, by decide⟩
theorem tok10 : TOk1 Tryz.prog 10 ti10 := ⟨by kernel_rfl, by kernel_rfl, by kernel_rfl, rfl, rfl, rfl, by decide⟩
theorem tok11 : TOk1 Tryz.prog 11 ti11 := ⟨by kernel_rfl, by kernel_rfl, by kernel_rfl, rfl, rfl, rfl, by decide⟩
theorem tok12 : TOk1 Tryz.prog 12 ti12 := ⟨by kernel_rfl, by kernel_rfl, by kernel_rfl, rfl, rfl, rfl, by decide⟩
theorem tok13 : TOk1 Tryz.prog 13 ti13 := ⟨by kernel_rfl, by kernel_rfl, by kernel_rfl, rfl, rfl, rfl, by decide⟩
theorem tok14 : TOk1 Tryz.prog 14 ti14 := ⟨by kernel_rfl, by kernel_rfl, by kernel_rfl, rfl, rfl, rfl, by decide⟩
theorem tok18 : TOk1 Tryz.prog 18 ti18 := ⟨by kernel_rfl, by kernel_rfl, by kernel_rfl, rfl, rfl, rfl, by decide⟩
theorem tok19 : TOk1 Tryz.prog 19 ti19 := ⟨by kernel_rfl, by kernel_rfl, by kernel_rfl, rfl, rfl, rfl, by decide⟩
theorem tok21 : TOk1 Tryz.prog 21 ti21 := ⟨by kernel_rfl, by kernel_rfl, by kernel_rfl, rfl, rfl, rfl, by decide⟩
theorem tok22 : TOk1 Tryz.prog 22 ti22 := ⟨by kernel_rfl, by kernel_rfl, by kernel_rfl, rfl, rfl, rfl, by decide⟩
theorem tok25 : TOk1 Tryz.prog 25 ti25 := ⟨by kernel_rfl, by kernel_rfl, by kernel_rfl, rfl, rfl, rfl, by decide⟩
theorem tok26 : TOk1 Tryz.prog 26 ti26 := ⟨by kernel_rfl, by kernel_rfl, by kernel_rfl, rfl, rfl, rfl, by decide⟩
theorem tok34 : TOk1 Tryz.prog 34 ti34 := ⟨by kernel_rfl, by kernel_rfl, by kernel_rfl, rfl, rfl, rfl, by decide⟩
theorem tok35 : TOk1 Tryz.prog 35 ti35 := ⟨by kernel_rfl, by kernel_rfl, by kernel_rfl, rfl, rfl, rfl, by decide⟩
theorem tok36 : TOk1 Tryz.prog 36 ti36 := ⟨by kernel_rfl, by kernel_rfl, by kernel_rfl, rfl, rfl, rfl, by decide⟩
theorem tok37 : TOk1 Tryz.prog 37 ti37 := ⟨by kernel_rfl, by kernel_rfl, by kernel_rfl, rfl, rfl, rfl, by decide⟩
theorem tok38 : TOk1 Tryz.prog 38 ti38 := ⟨by kernel_rfl, by kernel_rfl, by kernel_rfl, rfl, rfl, rfl, by decide⟩
theorem tok48 : TOk1 Tryz.prog 48 ti48 := ⟨by kernel_rfl, by kernel_rfl, by kernel_rfl, rfl, rfl, rfl, by decide⟩
theorem tok49 : TOk1 Tryz.prog 49 ti49 := ⟨by kernel_rfl, by kernel_rfl, by kernel_rfl, rfl, rfl, rfl, by decide⟩
theorem tok50 : TOk1 Tryz.prog 50 ti50 := ⟨by kernel_rfl, by kernel_rfl, by kernel_rfl, rfl, rfl, rfl, by decide⟩
theorem tok15 : TOk1 Tryz.prog 15 ti15 := ⟨by kernel_rfl, by kernel_rfl, by kernel_rfl, rfl, rfl, rfl, by decide⟩
theorem tok16 : TOk1 Tryz.prog 16 ti16 := ⟨by kernel_rfl, by kernel_rfl, by kernel_rfl, rfl, rfl, rfl, by decide⟩
theorem tok17 : TOk1 Tryz.prog 17 ti17 := ⟨by kernel_rfl, by kernel_rfl, by kernel_rfl, rfl, rfl, rfl, by decide⟩
theorem tok63 : TOk1 Tryz.prog 63 ti63 := ⟨by kernel_rfl, by kernel_rfl, by kernel_rfl, rfl, rfl, rfl, by decide⟩
theorem tok65 : TOk1 Tryz.prog 65 ti65 := ⟨by kernel_rfl, by kernel_rfl, by kernel_rfl, rfl, rfl, rfl, by decide⟩
theorem tok74 : TOk1 Tryz.prog 74 ti74 := ⟨by kernel_rfl, by kernel_rfl, by kernel_rfl, rfl, rfl, rfl, by decide⟩
set_option maxRecDepth 20000 in
theorem tok93 : TOk1 Tryz.prog 93 ti93 := ⟨by kernel_rfl, by kernel_rfl, by kernel_rfl, rfl, rfl, rfl, by decide⟩
theorem tok97 : TOk1 Tryz.prog 97 ti97 := ⟨by kernel_rfl, by kernel_rfl, by kernel_rfl, rfl, rfl, rfl, by decide⟩
theorem tok100 : TOk1 Tryz.prog 100 ti100 := ⟨by kernel_rfl, by kernel_rfl, by kernel_rfl, rfl, rfl, rfl, by decide⟩
theorem tok101 : TOk1 Tryz.prog 101 ti101 := ⟨by kernel_rfl, by kernel_rfl, by kernel_rfl, rfl, rfl, rfl, by decide⟩
theorem tok107 : TOk1 Tryz.prog 107 ti107 := ⟨by kernel_rfl, by kernel_rfl, by kernel_rfl, rfl, rfl, rfl, by decide⟩
theorem tok109 : TOk1 Tryz.prog 109 ti109 := ⟨by kernel_rfl, by kernel_rfl, by kernel_rfl, rfl, rfl, rfl, by decide⟩
theorem tok111 : TOk1 Tryz.prog 111 ti111 := ⟨by kernel_rfl, by kernel_rfl, by kernel_rfl, rfl, rfl, rfl, by decide⟩
theorem tok123 : TOk1 Tryz.prog 123 ti123 := ⟨by kernel_rfl, by kernel_rfl, by kernel_rfl, rfl, rfl, rfl, by decide⟩
theorem tok124 : TOk1 Tryz.prog 124 ti124 := ⟨by kernel_rfl, by kernel_rfl, by kernel_rfl, rfl, rfl, rfl, by decide⟩
theorem tok129 : TOk1 Tryz.prog 129 ti129 := ⟨by kernel_rfl, by kernel_rfl, by kernel_rfl, rfl, rfl, rfl, by decide⟩
theorem tok135 : TOk1 Tryz.prog 135 ti135 := ⟨by kernel_rfl, by kernel_rfl, by kernel_rfl, rfl, rfl, rfl, by decide⟩
theorem tok136 : TOk1 Tryz.prog 136 ti136 := ⟨by kernel_rfl, by kernel_rfl, by kernel_rfl, rfl, rfl, rfl, by decide⟩
theorem tok137 : TOk1 Tryz.prog 137 ti137 := ⟨by kernel_rfl, by kernel_rfl, by kernel_rfl, rfl, rfl, rfl, by decide⟩
theorem tok138 : TOk1 Tryz.prog 138 ti138 := ⟨by kernel_rfl, by kernel_rfl, by kernel_rfl, rfl, rfl, rfl, by decide⟩
theorem tok140 : TOk1 Tryz.prog 140 ti140 := ⟨by kernel_rfl, by kernel_rfl, by kernel_rfl, rfl, rfl, rfl, by decide⟩
theorem tok141 : TOk1 Tryz.prog 141 ti141 := ⟨by kernel_rfl, by kernel_rfl, by kernel_rfl, rfl, rfl, rfl, by decide⟩
theorem tok142 : TOk1 Tryz.prog 142 ti142 := ⟨by kernel_rfl, by kernel_rfl, by kernel_rfl, rfl, rfl, rfl, by decide⟩
theorem tok145 : TOk1 Tryz.prog 145 ti145 := ⟨by kernel_rfl, by kernel_rfl, by kernel_rfl, rfl, rfl, rfl, by decide⟩
theorem tok146 : TOk1 Tryz.prog 146 ti146 := ⟨by kernel_rfl, by kernel_rfl, by kernel_rfl, rfl, rfl, rfl, by decide⟩
theorem tok153 : TOk1 Tryz.prog 153 ti153 := ⟨by kernel_rfl, by kernel_rfl, by kernel_rfl, rfl, rfl, rfl, by decide⟩
theorem tok156 : TOk1 Tryz.prog 156 ti156 := ⟨by kernel_rfl, by kernel_rfl, by kernel_rfl, rfl, rfl, rfl, by decide⟩
theorem tok157 : TOk1 Tryz.prog 157 ti157 := ⟨by kernel_rfl, by kernel_rfl, by kernel_rfl, rfl, rfl, rfl, by decide⟩
theorem tok158 : TOk1 Tryz.prog 158 ti158 := ⟨by kernel_rfl, by kernel_rfl, by kernel_rfl, rfl, rfl, rfl, by decide⟩
theorem tok159 : TOk1 Tryz.prog 159 ti159 := ⟨by kernel_rfl, by kernel_rfl, by kernel_rfl, rfl, rfl, rfl, by decide⟩
theorem tok160 : TOk1 Tryz.prog 160 ti160 := ⟨by kernel_rfl, by kernel_rfl, by kernel_rfl, rfl, rfl, rfl, by decide⟩
theorem tok162 : TOk1 Tryz.prog 162 ti162 := ⟨by kernel_rfl, by kernel_rfl, by kernel_rfl, rfl, rfl, rfl, by decide⟩
theorem tok163 : TOk1 Tryz.prog 163 ti163 := ⟨by kernel_rfl, by kernel_rfl, by kernel_rfl, rfl, rfl, rfl, by decide⟩
theorem tok165 : TOk1 Tryz.prog 165 ti165 := ⟨by kernel_rfl, by kernel_rfl, by kernel_rfl, rfl, rfl, rfl, by decide⟩
theorem tok166 : TOk1 Tryz.prog 166 ti166 := ⟨by kernel_rfl, by kernel_rfl, by kernel_rfl, rfl, rfl, rfl, by decide⟩
theorem tok167 : TOk1 Tryz.prog 167 ti167 := ⟨by kernel_rfl, by kernel_rfl, by kernel_rfl, rfl, rfl, rfl, by decide⟩
theorem tok168 : TOk1 Tryz.prog 168 ti168 := ⟨by kernel_rfl, by kernel_rfl, by kernel_rfl, rfl, rfl, rfl, by decide⟩
theorem tabOk : TOk Tryz.prog tab :=
  tok_cons tok2 (tok_cons tok3 (tok_cons tok4 (tok_cons tok5 (tok_cons tok6 (tok_cons tok7 (tok_cons tok8 (tok_cons tok9 (tok_cons tok10 (tok_cons tok11 (tok_cons tok12 (tok_cons tok13 (tok_cons tok14 (tok_cons tok18 (tok_cons tok19 (tok_cons tok21 (tok_cons tok22 (tok_cons tok25 (tok_cons tok26 (tok_cons tok34 (tok_cons tok35 (tok_cons tok36 (tok_cons tok37 (tok_cons tok38 (tok_cons tok48 (tok_cons tok49 (tok_cons tok50 (tok_cons tok15 (tok_cons tok16 (tok_cons tok17 (tok_cons tok63 (tok_cons tok65 (tok_cons tok74 (tok_cons tok93 (tok_cons tok97 (tok_cons tok100 (tok_cons tok101 (tok_cons tok107 (tok_cons tok109 (tok_cons tok111 (tok_cons tok123 (tok_cons tok124 (tok_cons tok129 (tok_cons tok135 (tok_cons tok136 (tok_cons tok137 (tok_cons tok138 (tok_cons tok140 (tok_cons tok141 (tok_cons tok142 (tok_cons tok145 (tok_cons tok146 (tok_cons tok153 (tok_cons tok156 (tok_cons tok157 (tok_cons tok158 (tok_cons tok159 (tok_cons tok160 (tok_cons tok162 (tok_cons tok163 (tok_cons tok165 (tok_cons tok166 (tok_cons tok167 (tok_cons tok168 (tok_nil _))))))))))))))))))))))))))))))))))))))))))))))))))))))))))))))))
theorem mixed : Tryz.prog.follows .mixedOrders = true := by kernel_rfl
end Go.Proofs.YtmdhahfminiilaaGreatDoor
