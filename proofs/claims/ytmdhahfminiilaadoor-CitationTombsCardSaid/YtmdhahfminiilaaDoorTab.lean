/-
  The table of types of this seat, as the abstract interpreter reads it, and that it is the program's.
-/
import Derived.Test.YtmdhahfminiilaaDoorAbsPre
import Derived.Test.YtmdhahfminiilaaDoorRows
import Derived.KernelRfl
namespace Go.Proofs.YtmdhahfminiilaaDoor
open Go Go.Abs

def ti2 : TI := ⟨.int .i64, 1, 8, [.int .i64 0], false, []⟩
def ti3 : TI := ⟨.int .i64, 1, 8, [.int .i64 0], false, []⟩
def ti4 : TI := ⟨.bool, 1, 1, [.bool false], false, []⟩
def ti5 : TI := ⟨.int .u8, 1, 1, [.int .u8 0], false, []⟩
def ti6 : TI := ⟨.int .u8, 1, 1, [.int .u8 0], false, []⟩
def ti7 : TI := ⟨.struct #[⟨ "x", 2, 0, false, "", "runtime", 0⟩, ⟨ "y", 3, 1, false, "", "runtime", 8⟩, ⟨ "signed", 4, 2, false, "", "runtime", 16⟩, ⟨ "code", 6, 3, false, "", "runtime", 17⟩], 4, 24, [.int .i64 0, .int .i64 0, .bool false, .int .u8 0], true, []⟩
def ti8 : TI := ⟨.struct #[⟨ "x", 2, 0, false, "", "runtime", 0⟩, ⟨ "y", 3, 1, false, "", "runtime", 8⟩, ⟨ "signed", 4, 2, false, "", "runtime", 16⟩, ⟨ "code", 6, 3, false, "", "runtime", 17⟩], 4, 24, [.int .i64 0, .int .i64 0, .bool false, .int .u8 0], true, []⟩
def ti9 : TI := ⟨.string, 1, 16, [.string ⟨#[]⟩], false, []⟩
def ti10 : TI := ⟨.string, 1, 16, [.string ⟨#[]⟩], false, []⟩
def ti11 : TI := ⟨.string, 1, 16, [.string ⟨#[]⟩], false, []⟩
def ti12 : TI := ⟨.int .u64, 1, 8, [.int .u64 0], false, []⟩
def ti13 : TI := ⟨.struct #[⟨ "msg", 9, 0, false, "", "runtime", 0⟩, ⟨ "addr", 12, 1, false, "", "runtime", 16⟩], 2, 24, [.string ⟨#[]⟩, .int .u64 0], true, []⟩
def ti14 : TI := ⟨.struct #[⟨ "msg", 9, 0, false, "", "runtime", 0⟩, ⟨ "addr", 12, 1, false, "", "runtime", 16⟩], 2, 24, [.string ⟨#[]⟩, .int .u64 0], true, []⟩
def ti18 : TI := ⟨.struct #[⟨ "typ", 17, 0, false, "", "internal/runtime/maps", 0⟩], 1, 8, [.pointer none], true, []⟩
def ti19 : TI := ⟨.struct #[⟨ "typ", 17, 0, false, "", "internal/runtime/maps", 0⟩], 1, 8, [.pointer none], true, []⟩
def ti21 : TI := ⟨.int .i32, 1, 4, [.int .i32 0], false, []⟩
def ti23 : TI := ⟨.int .i64, 1, 8, [.int .i64 0], false, []⟩
def ti29 : TI := ⟨.slice 32, 1, 24, [.slice none 0 0], false, [2]⟩
def ti30 : TI := ⟨.slice 37, 1, 24, [.slice none 0 0], false, [5]⟩
def ti31 : TI := ⟨.struct #[⟨ "Day", 3, 0, false, "", "", 0⟩, ⟨ "Units", 30, 1, false, "", "", 8⟩], 2, 32, [.int .i64 0, .slice none 0 0], true, [0, 5]⟩
def ti32 : TI := ⟨.struct #[⟨ "Day", 3, 0, false, "", "", 0⟩, ⟨ "Units", 30, 1, false, "", "", 8⟩], 2, 32, [.int .i64 0, .slice none 0 0], true, [0, 5]⟩
def ti36 : TI := ⟨.struct #[⟨ "Unit", 3, 0, false, "", "", 0⟩, ⟨ "Parent", 3, 1, false, "", "", 8⟩, ⟨ "Level", 3, 2, false, "", "", 16⟩, ⟨ "Mark", 9, 3, false, "", "", 24⟩, ⟨ "Title", 9, 4, false, "", "", 40⟩], 5, 56, [.int .i64 0, .int .i64 0, .int .i64 0, .string ⟨#[]⟩, .string ⟨#[]⟩], true, []⟩
def ti37 : TI := ⟨.struct #[⟨ "Unit", 3, 0, false, "", "", 0⟩, ⟨ "Parent", 3, 1, false, "", "", 8⟩, ⟨ "Level", 3, 2, false, "", "", 16⟩, ⟨ "Mark", 9, 3, false, "", "", 24⟩, ⟨ "Title", 9, 4, false, "", "", 40⟩], 5, 56, [.int .i64 0, .int .i64 0, .int .i64 0, .string ⟨#[]⟩, .string ⟨#[]⟩], true, []⟩
def ti40 : TI := ⟨.slice 3, 1, 24, [.slice none 0 0], false, [1]⟩
def ti41 : TI := ⟨.struct #[⟨ "Number", 3, 0, false, "", "", 0⟩, ⟨ "Day", 3, 1, false, "", "", 8⟩, ⟨ "Unit", 37, 2, false, "", "", 16⟩, ⟨ "Path", 40, 7, false, "", "", 72⟩], 8, 96, [.int .i64 0, .int .i64 0, .int .i64 0, .int .i64 0, .int .i64 0, .string ⟨#[]⟩, .string ⟨#[]⟩, .slice none 0 0], true, [0, 0, 0, 0, 0, 0, 0, 1]⟩
def ti42 : TI := ⟨.struct #[⟨ "Number", 3, 0, false, "", "", 0⟩, ⟨ "Day", 3, 1, false, "", "", 8⟩, ⟨ "Unit", 37, 2, false, "", "", 16⟩, ⟨ "Path", 40, 7, false, "", "", 72⟩], 8, 96, [.int .i64 0, .int .i64 0, .int .i64 0, .int .i64 0, .int .i64 0, .string ⟨#[]⟩, .string ⟨#[]⟩, .slice none 0 0], true, [0, 0, 0, 0, 0, 0, 0, 1]⟩
def ti48 : TI := ⟨.int .u32, 1, 4, [.int .u32 0], false, []⟩
def ti49 : TI := ⟨.slice 5, 1, 24, [.slice none 0 0], false, [1]⟩
def ti51 : TI := ⟨.slice 42, 1, 24, [.slice none 0 0], false, [8]⟩
def ti15 : TI := ⟨.pointer 154, 1, 8, [.pointer none], false, []⟩
def ti16 : TI := ⟨.pointer 157, 1, 8, [.pointer none], false, []⟩
def ti17 : TI := ⟨.pointer 165, 1, 8, [.pointer none], false, []⟩
def ti67 : TI := ⟨.slice 9, 1, 24, [.slice none 0 0], false, [1]⟩
def ti69 : TI := ⟨.int .u64, 1, 8, [.int .u64 0], false, []⟩
def ti86 : TI := ⟨.map 9 3, 1, 8, [.map none], false, []⟩
def ti99 : TI := ⟨.array 256 4, 256, 256, [.bool false, .bool false, .bool false, .bool false, .bool false, .bool false, .bool false, .bool false, .bool false, .bool false, .bool false, .bool false, .bool false, .bool false, .bool false, .bool false, .bool false, .bool false, .bool false, .bool false, .bool false, .bool false, .bool false, .bool false, .bool false, .bool false, .bool false, .bool false, .bool false, .bool false, .bool false, .bool false, .bool false, .bool false, .bool false, .bool false, .bool false, .bool false, .bool false, .bool false, .bool false, .bool false, .bool false, .bool false, .bool false, .bool false, .bool false, .bool false, .bool false, .bool false, .bool false, .bool false, .bool false, .bool false, .bool false, .bool false, .bool false, .bool false, .bool false, .bool false, .bool false, .bool false, .bool false, .bool false, .bool false, .bool false, .bool false, .bool false, .bool false, .bool false, .bool false, .bool false, .bool false, .bool false, .bool false, .bool false, .bool false, .bool false, .bool false, .bool false, .bool false, .bool false, .bool false, .bool false, .bool false, .bool false, .bool false, .bool false, .bool false, .bool false, .bool false, .bool false, .bool false, .bool false, .bool false, .bool false, .bool false, .bool false, .bool false, .bool false, .bool false, .bool false, .bool false, .bool false, .bool false, .bool false, .bool false, .bool false, .bool false, .bool false, .bool false, .bool false, .bool false, .bool false, .bool false, .bool false, .bool false, .bool false, .bool false, .bool false, .bool false, .bool false, .bool false, .bool false, .bool false, .bool false, .bool false, .bool false, .bool false, .bool false, .bool false, .bool false, .bool false, .bool false, .bool false, .bool false, .bool false, .bool false, .bool false, .bool false, .bool false, .bool false, .bool false, .bool false, .bool false, .bool false, .bool false, .bool false, .bool false, .bool false, .bool false, .bool false, .bool false, .bool false, .bool false, .bool false, .bool false, .bool false, .bool false, .bool false, .bool false, .bool false, .bool false, .bool false, .bool false, .bool false, .bool false, .bool false, .bool false, .bool false, .bool false, .bool false, .bool false, .bool false, .bool false, .bool false, .bool false, .bool false, .bool false, .bool false, .bool false, .bool false, .bool false, .bool false, .bool false, .bool false, .bool false, .bool false, .bool false, .bool false, .bool false, .bool false, .bool false, .bool false, .bool false, .bool false, .bool false, .bool false, .bool false, .bool false, .bool false, .bool false, .bool false, .bool false, .bool false, .bool false, .bool false, .bool false, .bool false, .bool false, .bool false, .bool false, .bool false, .bool false, .bool false, .bool false, .bool false, .bool false, .bool false, .bool false, .bool false, .bool false, .bool false, .bool false, .bool false, .bool false, .bool false, .bool false, .bool false, .bool false, .bool false, .bool false, .bool false, .bool false, .bool false, .bool false, .bool false, .bool false, .bool false, .bool false, .bool false, .bool false, .bool false, .bool false, .bool false, .bool false, .bool false, .bool false, .bool false, .bool false, .bool false, .bool false, .bool false, .bool false, .bool false, .bool false], true, []⟩
def ti103 : TI := ⟨.pointer 99, 1, 8, [.pointer none], false, []⟩
def ti106 : TI := ⟨.map 3 3, 1, 8, [.map none], false, []⟩
def ti109 : TI := ⟨.int .i64, 1, 8, [.int .i64 0], false, []⟩
def ti111 : TI := ⟨.int .u64, 1, 8, [.int .u64 0], false, []⟩
def ti113 : TI := ⟨.pointer 130, 1, 8, [.pointer none], false, []⟩
def ti121 : TI := ⟨.array 24 5, 24, 24, [.int .u8 0, .int .u8 0, .int .u8 0, .int .u8 0, .int .u8 0, .int .u8 0, .int .u8 0, .int .u8 0, .int .u8 0, .int .u8 0, .int .u8 0, .int .u8 0, .int .u8 0, .int .u8 0, .int .u8 0, .int .u8 0, .int .u8 0, .int .u8 0, .int .u8 0, .int .u8 0, .int .u8 0, .int .u8 0, .int .u8 0, .int .u8 0], true, []⟩
def ti129 : TI := ⟨.struct #[⟨ "Func", 9, 0, false, "", "", 0⟩, ⟨ "Num", 9, 1, false, "", "", 16⟩, ⟨ "Err", 71, 2, false, "", "", 32⟩], 3, 48, [.string ⟨#[]⟩, .string ⟨#[]⟩, .nilIface], true, []⟩
def ti130 : TI := ⟨.struct #[⟨ "Func", 9, 0, false, "", "", 0⟩, ⟨ "Num", 9, 1, false, "", "", 16⟩, ⟨ "Err", 71, 2, false, "", "", 32⟩], 3, 48, [.string ⟨#[]⟩, .string ⟨#[]⟩, .nilIface], true, []⟩
def ti136 : TI := ⟨.array 20 69, 20, 160, [.int .u64 0, .int .u64 0, .int .u64 0, .int .u64 0, .int .u64 0, .int .u64 0, .int .u64 0, .int .u64 0, .int .u64 0, .int .u64 0, .int .u64 0, .int .u64 0, .int .u64 0, .int .u64 0, .int .u64 0, .int .u64 0, .int .u64 0, .int .u64 0, .int .u64 0, .int .u64 0], true, []⟩
def ti140 : TI := ⟨.pointer 5, 1, 8, [.pointer none], false, []⟩
def ti141 : TI := ⟨.pointer 143, 1, 8, [.pointer none], false, []⟩
def ti142 : TI := ⟨.struct #[⟨ "s", 9, 0, false, "", "errors", 0⟩], 1, 16, [.string ⟨#[]⟩], true, []⟩
def ti143 : TI := ⟨.struct #[⟨ "s", 9, 0, false, "", "errors", 0⟩], 1, 16, [.string ⟨#[]⟩], true, []⟩
def ti145 : TI := ⟨.struct #[⟨ "lo", 5, 0, false, "", "unicode/utf8", 0⟩, ⟨ "hi", 5, 1, false, "", "unicode/utf8", 1⟩], 2, 2, [.int .u8 0, .int .u8 0], true, []⟩
def ti146 : TI := ⟨.struct #[⟨ "lo", 5, 0, false, "", "unicode/utf8", 0⟩, ⟨ "hi", 5, 1, false, "", "unicode/utf8", 1⟩], 2, 2, [.int .u8 0, .int .u8 0], true, []⟩
def ti147 : TI := ⟨.array 16 146, 32, 32, [.int .u8 0, .int .u8 0, .int .u8 0, .int .u8 0, .int .u8 0, .int .u8 0, .int .u8 0, .int .u8 0, .int .u8 0, .int .u8 0, .int .u8 0, .int .u8 0, .int .u8 0, .int .u8 0, .int .u8 0, .int .u8 0, .int .u8 0, .int .u8 0, .int .u8 0, .int .u8 0, .int .u8 0, .int .u8 0, .int .u8 0, .int .u8 0, .int .u8 0, .int .u8 0, .int .u8 0, .int .u8 0, .int .u8 0, .int .u8 0, .int .u8 0, .int .u8 0], true, []⟩
def ti150 : TI := ⟨.array 32 5, 32, 32, [.int .u8 0, .int .u8 0, .int .u8 0, .int .u8 0, .int .u8 0, .int .u8 0, .int .u8 0, .int .u8 0, .int .u8 0, .int .u8 0, .int .u8 0, .int .u8 0, .int .u8 0, .int .u8 0, .int .u8 0, .int .u8 0, .int .u8 0, .int .u8 0, .int .u8 0, .int .u8 0, .int .u8 0, .int .u8 0, .int .u8 0, .int .u8 0, .int .u8 0, .int .u8 0, .int .u8 0, .int .u8 0, .int .u8 0, .int .u8 0, .int .u8 0, .int .u8 0], true, []⟩
def ti153 : TI := ⟨.struct #[⟨ "_interface", 17, 0, false, "", "runtime", 0⟩, ⟨ "concrete", 17, 1, false, "", "runtime", 8⟩, ⟨ "asserted", 17, 2, false, "", "runtime", 16⟩, ⟨ "missingMethod", 9, 3, false, "", "runtime", 24⟩], 4, 40, [.pointer none, .pointer none, .pointer none, .string ⟨#[]⟩], true, []⟩
def ti154 : TI := ⟨.struct #[⟨ "_interface", 17, 0, false, "", "runtime", 0⟩, ⟨ "concrete", 17, 1, false, "", "runtime", 8⟩, ⟨ "asserted", 17, 2, false, "", "runtime", 16⟩, ⟨ "missingMethod", 9, 3, false, "", "runtime", 24⟩], 4, 40, [.pointer none, .pointer none, .pointer none, .string ⟨#[]⟩], true, []⟩
def ti155 : TI := ⟨.array 0 16, 0, 0, [], true, []⟩
def ti156 : TI := ⟨.struct #[⟨ "_", 155, 0, false, "", "runtime", 0⟩], 0, 0, [], true, []⟩
def ti157 : TI := ⟨.struct #[⟨ "_", 155, 0, false, "", "runtime", 0⟩], 0, 0, [], true, []⟩
def ti159 : TI := ⟨.int .u8, 1, 1, [.int .u8 0], false, []⟩
def ti160 : TI := ⟨.int .u8, 1, 1, [.int .u8 0], false, []⟩
def ti162 : TI := ⟨.int .i32, 1, 4, [.int .i32 0], false, []⟩
def ti163 : TI := ⟨.int .i32, 1, 4, [.int .i32 0], false, []⟩
def ti164 : TI := ⟨.struct #[⟨ "Size_", 12, 0, false, "", "", 0⟩, ⟨ "PtrBytes", 12, 1, false, "", "", 8⟩, ⟨ "Hash", 48, 2, false, "", "", 16⟩, ⟨ "TFlag", 159, 3, false, "", "", 20⟩, ⟨ "Align_", 5, 4, false, "", "", 21⟩, ⟨ "FieldAlign_", 5, 5, false, "", "", 22⟩, ⟨ "Kind_", 160, 6, false, "", "", 23⟩, ⟨ "Equal", 161, 7, false, "", "", 24⟩, ⟨ "GCData", 140, 8, false, "", "", 32⟩, ⟨ "Str", 162, 9, false, "", "", 40⟩, ⟨ "PtrToThis", 163, 10, false, "", "", 44⟩], 11, 48, [.int .u64 0, .int .u64 0, .int .u32 0, .int .u8 0, .int .u8 0, .int .u8 0, .int .u8 0, .nilFunc, .pointer none, .int .i32 0, .int .i32 0], true, []⟩
def ti165 : TI := ⟨.struct #[⟨ "Size_", 12, 0, false, "", "", 0⟩, ⟨ "PtrBytes", 12, 1, false, "", "", 8⟩, ⟨ "Hash", 48, 2, false, "", "", 16⟩, ⟨ "TFlag", 159, 3, false, "", "", 20⟩, ⟨ "Align_", 5, 4, false, "", "", 21⟩, ⟨ "FieldAlign_", 5, 5, false, "", "", 22⟩, ⟨ "Kind_", 160, 6, false, "", "", 23⟩, ⟨ "Equal", 161, 7, false, "", "", 24⟩, ⟨ "GCData", 140, 8, false, "", "", 32⟩, ⟨ "Str", 162, 9, false, "", "", 40⟩, ⟨ "PtrToThis", 163, 10, false, "", "", 44⟩], 11, 48, [.int .u64 0, .int .u64 0, .int .u32 0, .int .u8 0, .int .u8 0, .int .u8 0, .int .u8 0, .nilFunc, .pointer none, .int .i32 0, .int .i32 0], true, []⟩

def tab : Tab := [(2, ti2), (3, ti3), (4, ti4), (5, ti5), (6, ti6), (7, ti7), (8, ti8), (9, ti9), (10, ti10), (11, ti11), (12, ti12), (13, ti13), (14, ti14), (18, ti18), (19, ti19), (21, ti21), (23, ti23), (29, ti29), (30, ti30), (31, ti31), (32, ti32), (36, ti36), (37, ti37), (40, ti40), (41, ti41), (42, ti42), (48, ti48), (49, ti49), (51, ti51), (15, ti15), (16, ti16), (17, ti17), (67, ti67), (69, ti69), (86, ti86), (99, ti99), (103, ti103), (106, ti106), (109, ti109), (111, ti111), (113, ti113), (121, ti121), (129, ti129), (130, ti130), (136, ti136), (140, ti140), (141, ti141), (142, ti142), (143, ti143), (145, ti145), (146, ti146), (147, ti147), (150, ti150), (153, ti153), (154, ti154), (155, ti155), (156, ti156), (157, ti157), (159, ti159), (160, ti160), (162, ti162), (163, ti163), (164, ti164), (165, ti165)]

theorem tok2 : TOk1 Tryd.prog 2 ti2 := ⟨by kernel_rfl, by kernel_rfl, by kernel_rfl, rfl, rfl, rfl, by decide⟩
theorem tok3 : TOk1 Tryd.prog 3 ti3 := ⟨by kernel_rfl, by kernel_rfl, by kernel_rfl, rfl, rfl, rfl, by decide⟩
theorem tok4 : TOk1 Tryd.prog 4 ti4 := ⟨by kernel_rfl, by kernel_rfl, by kernel_rfl, rfl, rfl, rfl, by decide⟩
theorem tok5 : TOk1 Tryd.prog 5 ti5 := ⟨by kernel_rfl, by kernel_rfl, by kernel_rfl, rfl, rfl, rfl, by decide⟩
theorem tok6 : TOk1 Tryd.prog 6 ti6 := ⟨by kernel_rfl, by kernel_rfl, by kernel_rfl, rfl, rfl, rfl, by decide⟩
theorem tok7 : TOk1 Tryd.prog 7 ti7 := ⟨by kernel_rfl, by kernel_rfl, by kernel_rfl, rfl, rfl, rfl, by decide⟩
theorem tok8 : TOk1 Tryd.prog 8 ti8 := ⟨by kernel_rfl, by kernel_rfl, by kernel_rfl, rfl, rfl, rfl, by decide⟩
theorem tok9 : TOk1 Tryd.prog 9 ti9 := ⟨by kernel_rfl, by kernel_rfl, by kernel_rfl, rfl, rfl, rfl, by decide⟩
theorem tok10 : TOk1 Tryd.prog 10 ti10 := ⟨by kernel_rfl, by kernel_rfl, by kernel_rfl, rfl, rfl, rfl, by decide⟩
theorem tok11 : TOk1 Tryd.prog 11 ti11 := ⟨by kernel_rfl, by kernel_rfl, by kernel_rfl, rfl, rfl, rfl, by decide⟩
theorem tok12 : TOk1 Tryd.prog 12 ti12 := ⟨by kernel_rfl, by kernel_rfl, by kernel_rfl, rfl, rfl, rfl, by decide⟩
theorem tok13 : TOk1 Tryd.prog 13 ti13 := ⟨by kernel_rfl, by kernel_rfl, by kernel_rfl, rfl, rfl, rfl, by decide⟩
theorem tok14 : TOk1 Tryd.prog 14 ti14 := ⟨by kernel_rfl, by kernel_rfl, by kernel_rfl, rfl, rfl, rfl, by decide⟩
theorem tok18 : TOk1 Tryd.prog 18 ti18 := ⟨by kernel_rfl, by kernel_rfl, by kernel_rfl, rfl, rfl, rfl, by decide⟩
theorem tok19 : TOk1 Tryd.prog 19 ti19 := ⟨by kernel_rfl, by kernel_rfl, by kernel_rfl, rfl, rfl, rfl, by decide⟩
theorem tok21 : TOk1 Tryd.prog 21 ti21 := ⟨by kernel_rfl, by kernel_rfl, by kernel_rfl, rfl, rfl, rfl, by decide⟩
theorem tok23 : TOk1 Tryd.prog 23 ti23 := ⟨by kernel_rfl, by kernel_rfl, by kernel_rfl, rfl, rfl, rfl, by decide⟩
theorem tok29 : TOk1 Tryd.prog 29 ti29 := ⟨by kernel_rfl, by kernel_rfl, by kernel_rfl, rfl, rfl, rfl, by decide⟩
theorem tok30 : TOk1 Tryd.prog 30 ti30 := ⟨by kernel_rfl, by kernel_rfl, by kernel_rfl, rfl, rfl, rfl, by decide⟩
theorem tok31 : TOk1 Tryd.prog 31 ti31 := ⟨by kernel_rfl, by kernel_rfl, by kernel_rfl, rfl, rfl, rfl, by decide⟩
theorem tok32 : TOk1 Tryd.prog 32 ti32 := ⟨by kernel_rfl, by kernel_rfl, by kernel_rfl, rfl, rfl, rfl, by decide⟩
theorem tok36 : TOk1 Tryd.prog 36 ti36 := ⟨by kernel_rfl, by kernel_rfl, by kernel_rfl, rfl, rfl, rfl, by decide⟩
theorem tok37 : TOk1 Tryd.prog 37 ti37 := ⟨by kernel_rfl, by kernel_rfl, by kernel_rfl, rfl, rfl, rfl, by decide⟩
theorem tok40 : TOk1 Tryd.prog 40 ti40 := ⟨by kernel_rfl, by kernel_rfl, by kernel_rfl, rfl, rfl, rfl, by decide⟩
theorem tok41 : TOk1 Tryd.prog 41 ti41 := ⟨by kernel_rfl, by kernel_rfl, by kernel_rfl, rfl, rfl, rfl, by decide⟩
theorem tok42 : TOk1 Tryd.prog 42 ti42 := ⟨by kernel_rfl, by kernel_rfl, by kernel_rfl, rfl, rfl, rfl, by decide⟩
theorem tok48 : TOk1 Tryd.prog 48 ti48 := ⟨by kernel_rfl, by kernel_rfl, by kernel_rfl, rfl, rfl, rfl, by decide⟩
theorem tok49 : TOk1 Tryd.prog 49 ti49 := ⟨by kernel_rfl, by kernel_rfl, by kernel_rfl, rfl, rfl, rfl, by decide⟩
theorem tok51 : TOk1 Tryd.prog 51 ti51 := ⟨by kernel_rfl, by kernel_rfl, by kernel_rfl, rfl, rfl, rfl, by decide⟩
theorem tok15 : TOk1 Tryd.prog 15 ti15 := ⟨by kernel_rfl, by kernel_rfl, by kernel_rfl, rfl, rfl, rfl, by decide⟩
theorem tok16 : TOk1 Tryd.prog 16 ti16 := ⟨by kernel_rfl, by kernel_rfl, by kernel_rfl, rfl, rfl, rfl, by decide⟩
theorem tok17 : TOk1 Tryd.prog 17 ti17 := ⟨by kernel_rfl, by kernel_rfl, by kernel_rfl, rfl, rfl, rfl, by decide⟩
theorem tok67 : TOk1 Tryd.prog 67 ti67 := ⟨by kernel_rfl, by kernel_rfl, by kernel_rfl, rfl, rfl, rfl, by decide⟩
theorem tok69 : TOk1 Tryd.prog 69 ti69 := ⟨by kernel_rfl, by kernel_rfl, by kernel_rfl, rfl, rfl, rfl, by decide⟩
theorem tok86 : TOk1 Tryd.prog 86 ti86 := ⟨by kernel_rfl, by kernel_rfl, by kernel_rfl, rfl, rfl, rfl, by decide⟩
set_option maxRecDepth 20000 in
theorem tok99 : TOk1 Tryd.prog 99 ti99 := ⟨by kernel_rfl, by kernel_rfl, by kernel_rfl, rfl, rfl, rfl, by decide⟩
theorem tok103 : TOk1 Tryd.prog 103 ti103 := ⟨by kernel_rfl, by kernel_rfl, by kernel_rfl, rfl, rfl, rfl, by decide⟩
theorem tok106 : TOk1 Tryd.prog 106 ti106 := ⟨by kernel_rfl, by kernel_rfl, by kernel_rfl, rfl, rfl, rfl, by decide⟩
theorem tok109 : TOk1 Tryd.prog 109 ti109 := ⟨by kernel_rfl, by kernel_rfl, by kernel_rfl, rfl, rfl, rfl, by decide⟩
theorem tok111 : TOk1 Tryd.prog 111 ti111 := ⟨by kernel_rfl, by kernel_rfl, by kernel_rfl, rfl, rfl, rfl, by decide⟩
theorem tok113 : TOk1 Tryd.prog 113 ti113 := ⟨by kernel_rfl, by kernel_rfl, by kernel_rfl, rfl, rfl, rfl, by decide⟩
theorem tok121 : TOk1 Tryd.prog 121 ti121 := ⟨by kernel_rfl, by kernel_rfl, by kernel_rfl, rfl, rfl, rfl, by decide⟩
theorem tok129 : TOk1 Tryd.prog 129 ti129 := ⟨by kernel_rfl, by kernel_rfl, by kernel_rfl, rfl, rfl, rfl, by decide⟩
theorem tok130 : TOk1 Tryd.prog 130 ti130 := ⟨by kernel_rfl, by kernel_rfl, by kernel_rfl, rfl, rfl, rfl, by decide⟩
theorem tok136 : TOk1 Tryd.prog 136 ti136 := ⟨by kernel_rfl, by kernel_rfl, by kernel_rfl, rfl, rfl, rfl, by decide⟩
theorem tok140 : TOk1 Tryd.prog 140 ti140 := ⟨by kernel_rfl, by kernel_rfl, by kernel_rfl, rfl, rfl, rfl, by decide⟩
theorem tok141 : TOk1 Tryd.prog 141 ti141 := ⟨by kernel_rfl, by kernel_rfl, by kernel_rfl, rfl, rfl, rfl, by decide⟩
theorem tok142 : TOk1 Tryd.prog 142 ti142 := ⟨by kernel_rfl, by kernel_rfl, by kernel_rfl, rfl, rfl, rfl, by decide⟩
theorem tok143 : TOk1 Tryd.prog 143 ti143 := ⟨by kernel_rfl, by kernel_rfl, by kernel_rfl, rfl, rfl, rfl, by decide⟩
theorem tok145 : TOk1 Tryd.prog 145 ti145 := ⟨by kernel_rfl, by kernel_rfl, by kernel_rfl, rfl, rfl, rfl, by decide⟩
theorem tok146 : TOk1 Tryd.prog 146 ti146 := ⟨by kernel_rfl, by kernel_rfl, by kernel_rfl, rfl, rfl, rfl, by decide⟩
theorem tok147 : TOk1 Tryd.prog 147 ti147 := ⟨by kernel_rfl, by kernel_rfl, by kernel_rfl, rfl, rfl, rfl, by decide⟩
theorem tok150 : TOk1 Tryd.prog 150 ti150 := ⟨by kernel_rfl, by kernel_rfl, by kernel_rfl, rfl, rfl, rfl, by decide⟩
theorem tok153 : TOk1 Tryd.prog 153 ti153 := ⟨by kernel_rfl, by kernel_rfl, by kernel_rfl, rfl, rfl, rfl, by decide⟩
theorem tok154 : TOk1 Tryd.prog 154 ti154 := ⟨by kernel_rfl, by kernel_rfl, by kernel_rfl, rfl, rfl, rfl, by decide⟩
theorem tok155 : TOk1 Tryd.prog 155 ti155 := ⟨by kernel_rfl, by kernel_rfl, by kernel_rfl, rfl, rfl, rfl, by decide⟩
theorem tok156 : TOk1 Tryd.prog 156 ti156 := ⟨by kernel_rfl, by kernel_rfl, by kernel_rfl, rfl, rfl, rfl, by decide⟩
theorem tok157 : TOk1 Tryd.prog 157 ti157 := ⟨by kernel_rfl, by kernel_rfl, by kernel_rfl, rfl, rfl, rfl, by decide⟩
theorem tok159 : TOk1 Tryd.prog 159 ti159 := ⟨by kernel_rfl, by kernel_rfl, by kernel_rfl, rfl, rfl, rfl, by decide⟩
theorem tok160 : TOk1 Tryd.prog 160 ti160 := ⟨by kernel_rfl, by kernel_rfl, by kernel_rfl, rfl, rfl, rfl, by decide⟩
theorem tok162 : TOk1 Tryd.prog 162 ti162 := ⟨by kernel_rfl, by kernel_rfl, by kernel_rfl, rfl, rfl, rfl, by decide⟩
theorem tok163 : TOk1 Tryd.prog 163 ti163 := ⟨by kernel_rfl, by kernel_rfl, by kernel_rfl, rfl, rfl, rfl, by decide⟩
theorem tok164 : TOk1 Tryd.prog 164 ti164 := ⟨by kernel_rfl, by kernel_rfl, by kernel_rfl, rfl, rfl, rfl, by decide⟩
theorem tok165 : TOk1 Tryd.prog 165 ti165 := ⟨by kernel_rfl, by kernel_rfl, by kernel_rfl, rfl, rfl, rfl, by decide⟩
theorem tabOk : TOk Tryd.prog tab :=
  tok_cons tok2 (tok_cons tok3 (tok_cons tok4 (tok_cons tok5 (tok_cons tok6 (tok_cons tok7 (tok_cons tok8 (tok_cons tok9 (tok_cons tok10 (tok_cons tok11 (tok_cons tok12 (tok_cons tok13 (tok_cons tok14 (tok_cons tok18 (tok_cons tok19 (tok_cons tok21 (tok_cons tok23 (tok_cons tok29 (tok_cons tok30 (tok_cons tok31 (tok_cons tok32 (tok_cons tok36 (tok_cons tok37 (tok_cons tok40 (tok_cons tok41 (tok_cons tok42 (tok_cons tok48 (tok_cons tok49 (tok_cons tok51 (tok_cons tok15 (tok_cons tok16 (tok_cons tok17 (tok_cons tok67 (tok_cons tok69 (tok_cons tok86 (tok_cons tok99 (tok_cons tok103 (tok_cons tok106 (tok_cons tok109 (tok_cons tok111 (tok_cons tok113 (tok_cons tok121 (tok_cons tok129 (tok_cons tok130 (tok_cons tok136 (tok_cons tok140 (tok_cons tok141 (tok_cons tok142 (tok_cons tok143 (tok_cons tok145 (tok_cons tok146 (tok_cons tok147 (tok_cons tok150 (tok_cons tok153 (tok_cons tok154 (tok_cons tok155 (tok_cons tok156 (tok_cons tok157 (tok_cons tok159 (tok_cons tok160 (tok_cons tok162 (tok_cons tok163 (tok_cons tok164 (tok_cons tok165 (tok_nil _))))))))))))))))))))))))))))))))))))))))))))))))))))))))))))))))
theorem mixed : Tryd.prog.follows .mixedOrders = true := by kernel_rfl
end Go.Proofs.YtmdhahfminiilaaDoor
