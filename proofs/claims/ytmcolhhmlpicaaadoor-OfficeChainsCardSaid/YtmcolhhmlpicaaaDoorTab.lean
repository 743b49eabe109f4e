/-
  The table of types of this seat, as the abstract interpreter reads it, and that it is the program's.
-/
import Derived.Test.YtmcolhhmlpicaaaDoorAbsRec
import Derived.Test.YtmcolhhmlpicaaaDoorRows
import Derived.KernelRfl
namespace Go.Proofs.YtmcolhhmlpicaaaDoor
open Go Go.Abs

def ti2 : TI := ⟨.int .i64, 1, 8, [.int .i64 0], false, []⟩
def ti3 : TI := ⟨.int .i64, 1, 8, [.int .i64 0], false, []⟩
def ti4 : TI := ⟨.bool, 1, 1, [.bool false], false, []⟩
def ti5 : TI := ⟨.int .u8, 1, 1, [.int .u8 0], false, []⟩
def ti6 : TI := ⟨.int .u8, 1, 1, [.int .u8 0], false, []⟩
def ti7 : TI := ⟨.struct #[⟨ "x", 2, 0, false, "", "runtime", 0⟩, ⟨ "y", 3, 1, false, "", "runtime", 8⟩, ⟨ "signed", 4, 2, false, "", "runtime", 16⟩, ⟨ "code", 6, 3, false, "", "runtime", 17⟩], 4, 24, [.int .i64 0, .int .i64 0, .bool false, .int .u8 0], true, []⟩
def ti8 : TI := ⟨.struct #[⟨ "x", 2, 0, false, "", "runtime", 0⟩, ⟨ "y", 3, 1, false, "", "runtime", 8⟩, ⟨ "signed", 4, 2, false, "", "runtime", 16⟩, ⟨ "code", 6, 3, false, "", "runtime", 17⟩], 4, 24, [.int .i64 0, .int .i64 0, .bool false, .int .u8 0], true, []⟩
def ti9 : TI := ⟨.string, 1, 16, [.string ⟨#[]⟩], false, []⟩
def ti10 : TI := ⟨.string, 1, 16, [.string ⟨#[]⟩], false, []⟩
def ti11 : TI := ⟨.string, 1, 16, [.string ⟨#[]⟩], false, []⟩
def ti12 : TI := ⟨.int .u64, 1, 8, [.int .u64 0], false, []⟩
def ti13 : TI := ⟨.struct #[⟨ "msg", 9, 0, false, "", "runtime", 0⟩, ⟨ "addr", 12, 1, false, "", "runtime", 16⟩], 2, 24, [.string ⟨#[]⟩, .int .u64 0], true, []⟩
def ti14 : TI := ⟨.struct #[⟨ "msg", 9, 0, false, "", "runtime", 0⟩, ⟨ "addr", 12, 1, false, "", "runtime", 16⟩], 2, 24, [.string ⟨#[]⟩, .int .u64 0], true, []⟩
def ti18 : TI := ⟨.struct #[⟨ "typ", 17, 0, false, "", "internal/runtime/maps", 0⟩], 1, 8, [.pointer none], true, []⟩
def ti19 : TI := ⟨.struct #[⟨ "typ", 17, 0, false, "", "internal/runtime/maps", 0⟩], 1, 8, [.pointer none], true, []⟩
def ti21 : TI := ⟨.int .i32, 1, 4, [.int .i32 0], false, []⟩
def ti22 : TI := ⟨.slice 40, 1, 24, [.slice none 0 0], false, [5]⟩
def ti28 : TI := ⟨.slice 3, 1, 24, [.slice none 0 0], false, [1]⟩
def ti32 : TI := ⟨.int .i64, 1, 8, [.int .i64 0], false, []⟩
def ti37 : TI := ⟨.struct #[⟨ "From", 3, 0, false, "", "", 0⟩, ⟨ "Until", 3, 1, false, "", "", 8⟩], 2, 16, [.int .i64 0, .int .i64 0], true, []⟩
def ti38 : TI := ⟨.struct #[⟨ "From", 3, 0, false, "", "", 0⟩, ⟨ "Until", 3, 1, false, "", "", 8⟩], 2, 16, [.int .i64 0, .int .i64 0], true, []⟩
def ti39 : TI := ⟨.struct #[⟨ "ID", 3, 0, false, "", "", 0⟩, ⟨ "Name", 9, 1, false, "", "", 8⟩, ⟨ "In", 38, 2, false, "", "", 24⟩, ⟨ "Next", 28, 4, false, "", "", 40⟩], 5, 64, [.int .i64 0, .string ⟨#[]⟩, .int .i64 0, .int .i64 0, .slice none 0 0], true, [0, 0, 0, 0, 1]⟩
def ti40 : TI := ⟨.struct #[⟨ "ID", 3, 0, false, "", "", 0⟩, ⟨ "Name", 9, 1, false, "", "", 8⟩, ⟨ "In", 38, 2, false, "", "", 24⟩, ⟨ "Next", 28, 4, false, "", "", 40⟩], 5, 64, [.int .i64 0, .string ⟨#[]⟩, .int .i64 0, .int .i64 0, .slice none 0 0], true, [0, 0, 0, 0, 1]⟩
def ti41 : TI := ⟨.map 3 3, 1, 8, [.map none], false, []⟩
def ti52 : TI := ⟨.map 3 40, 1, 8, [.map none], false, []⟩
def ti55 : TI := ⟨.func #[3] #[] false, 1, 8, [.nilFunc], false, []⟩
def ti15 : TI := ⟨.pointer 131, 1, 8, [.pointer none], false, []⟩
def ti16 : TI := ⟨.pointer 134, 1, 8, [.pointer none], false, []⟩
def ti17 : TI := ⟨.pointer 143, 1, 8, [.pointer none], false, []⟩
def ti69 : TI := ⟨.int .u64, 1, 8, [.int .u64 0], false, []⟩
def ti77 : TI := ⟨.int .i64, 1, 8, [.int .i64 0], false, []⟩
def ti84 : TI := ⟨.int .u32, 1, 4, [.int .u32 0], false, []⟩
def ti86 : TI := ⟨.int .u64, 1, 8, [.int .u64 0], false, []⟩
def ti87 : TI := ⟨.slice 5, 1, 24, [.slice none 0 0], false, [1]⟩
def ti94 : TI := ⟨.int .u64, 1, 8, [.int .u64 0], false, []⟩
def ti98 : TI := ⟨.pointer 3, 1, 8, [.pointer none], false, []⟩
def ti101 : TI := ⟨.pointer 111, 1, 8, [.pointer none], false, []⟩
def ti105 : TI := ⟨.pointer 94, 1, 8, [.pointer none], false, []⟩
def ti108 : TI := ⟨.slice 114, 1, 24, [.slice none 0 0], false, [3]⟩
def ti109 : TI := ⟨.slice 117, 1, 24, [.slice none 0 0], false, [3]⟩
def ti110 : TI := ⟨.struct #[⟨ "R16", 108, 0, false, "", "", 0⟩, ⟨ "R32", 109, 1, false, "", "", 24⟩, ⟨ "LatinOffset", 3, 2, false, "", "", 48⟩], 3, 56, [.slice none 0 0, .slice none 0 0, .int .i64 0], true, [3, 3]⟩
def ti111 : TI := ⟨.struct #[⟨ "R16", 108, 0, false, "", "", 0⟩, ⟨ "R32", 109, 1, false, "", "", 24⟩, ⟨ "LatinOffset", 3, 2, false, "", "", 48⟩], 3, 56, [.slice none 0 0, .slice none 0 0, .int .i64 0], true, [3, 3]⟩
def ti112 : TI := ⟨.int .u16, 1, 2, [.int .u16 0], false, []⟩
def ti113 : TI := ⟨.struct #[⟨ "Lo", 112, 0, false, "", "", 0⟩, ⟨ "Hi", 112, 1, false, "", "", 2⟩, ⟨ "Stride", 112, 2, false, "", "", 4⟩], 3, 6, [.int .u16 0, .int .u16 0, .int .u16 0], true, []⟩
def ti114 : TI := ⟨.struct #[⟨ "Lo", 112, 0, false, "", "", 0⟩, ⟨ "Hi", 112, 1, false, "", "", 2⟩, ⟨ "Stride", 112, 2, false, "", "", 4⟩], 3, 6, [.int .u16 0, .int .u16 0, .int .u16 0], true, []⟩
def ti116 : TI := ⟨.struct #[⟨ "Lo", 84, 0, false, "", "", 0⟩, ⟨ "Hi", 84, 1, false, "", "", 4⟩, ⟨ "Stride", 84, 2, false, "", "", 8⟩], 3, 12, [.int .u32 0, .int .u32 0, .int .u32 0], true, []⟩
def ti117 : TI := ⟨.struct #[⟨ "Lo", 84, 0, false, "", "", 0⟩, ⟨ "Hi", 84, 1, false, "", "", 4⟩, ⟨ "Stride", 84, 2, false, "", "", 8⟩], 3, 12, [.int .u32 0, .int .u32 0, .int .u32 0], true, []⟩
def ti121 : TI := ⟨.pointer 114, 1, 8, [.pointer none], false, []⟩
def ti122 : TI := ⟨.pointer 117, 1, 8, [.pointer none], false, []⟩
def ti124 : TI := ⟨.struct #[⟨ "lo", 5, 0, false, "", "unicode/utf8", 0⟩, ⟨ "hi", 5, 1, false, "", "unicode/utf8", 1⟩], 2, 2, [.int .u8 0, .int .u8 0], true, []⟩
def ti125 : TI := ⟨.struct #[⟨ "lo", 5, 0, false, "", "unicode/utf8", 0⟩, ⟨ "hi", 5, 1, false, "", "unicode/utf8", 1⟩], 2, 2, [.int .u8 0, .int .u8 0], true, []⟩
def ti126 : TI := ⟨.array 16 125, 32, 32, [.int .u8 0, .int .u8 0, .int .u8 0, .int .u8 0, .int .u8 0, .int .u8 0, .int .u8 0, .int .u8 0, .int .u8 0, .int .u8 0, .int .u8 0, .int .u8 0, .int .u8 0, .int .u8 0, .int .u8 0, .int .u8 0, .int .u8 0, .int .u8 0, .int .u8 0, .int .u8 0, .int .u8 0, .int .u8 0, .int .u8 0, .int .u8 0, .int .u8 0, .int .u8 0, .int .u8 0, .int .u8 0, .int .u8 0, .int .u8 0, .int .u8 0, .int .u8 0], true, []⟩
def ti130 : TI := ⟨.struct #[⟨ "_interface", 17, 0, false, "", "runtime", 0⟩, ⟨ "concrete", 17, 1, false, "", "runtime", 8⟩, ⟨ "asserted", 17, 2, false, "", "runtime", 16⟩, ⟨ "missingMethod", 9, 3, false, "", "runtime", 24⟩], 4, 40, [.pointer none, .pointer none, .pointer none, .string ⟨#[]⟩], true, []⟩
def ti131 : TI := ⟨.struct #[⟨ "_interface", 17, 0, false, "", "runtime", 0⟩, ⟨ "concrete", 17, 1, false, "", "runtime", 8⟩, ⟨ "asserted", 17, 2, false, "", "runtime", 16⟩, ⟨ "missingMethod", 9, 3, false, "", "runtime", 24⟩], 4, 40, [.pointer none, .pointer none, .pointer none, .string ⟨#[]⟩], true, []⟩
def ti132 : TI := ⟨.array 0 16, 0, 0, [], true, []⟩
def ti133 : TI := ⟨.struct #[⟨ "_", 132, 0, false, "", "runtime", 0⟩], 0, 0, [], true, []⟩
def ti134 : TI := ⟨.struct #[⟨ "_", 132, 0, false, "", "runtime", 0⟩], 0, 0, [], true, []⟩
def ti136 : TI := ⟨.int .u8, 1, 1, [.int .u8 0], false, []⟩
def ti137 : TI := ⟨.int .u8, 1, 1, [.int .u8 0], false, []⟩
def ti139 : TI := ⟨.pointer 5, 1, 8, [.pointer none], false, []⟩
def ti140 : TI := ⟨.int .i32, 1, 4, [.int .i32 0], false, []⟩
def ti141 : TI := ⟨.int .i32, 1, 4, [.int .i32 0], false, []⟩
def ti142 : TI := ⟨.struct #[⟨ "Size_", 12, 0, false, "", "", 0⟩, ⟨ "PtrBytes", 12, 1, false, "", "", 8⟩, ⟨ "Hash", 84, 2, false, "", "", 16⟩, ⟨ "TFlag", 136, 3, false, "", "", 20⟩, ⟨ "Align_", 5, 4, false, "", "", 21⟩, ⟨ "FieldAlign_", 5, 5, false, "", "", 22⟩, ⟨ "Kind_", 137, 6, false, "", "", 23⟩, ⟨ "Equal", 138, 7, false, "", "", 24⟩, ⟨ "GCData", 139, 8, false, "", "", 32⟩, ⟨ "Str", 140, 9, false, "", "", 40⟩, ⟨ "PtrToThis", 141, 10, false, "", "", 44⟩], 11, 48, [.int .u64 0, .int .u64 0, .int .u32 0, .int .u8 0, .int .u8 0, .int .u8 0, .int .u8 0, .nilFunc, .pointer none, .int .i32 0, .int .i32 0], true, []⟩
def ti143 : TI := ⟨.struct #[⟨ "Size_", 12, 0, false, "", "", 0⟩, ⟨ "PtrBytes", 12, 1, false, "", "", 8⟩, ⟨ "Hash", 84, 2, false, "", "", 16⟩, ⟨ "TFlag", 136, 3, false, "", "", 20⟩, ⟨ "Align_", 5, 4, false, "", "", 21⟩, ⟨ "FieldAlign_", 5, 5, false, "", "", 22⟩, ⟨ "Kind_", 137, 6, false, "", "", 23⟩, ⟨ "Equal", 138, 7, false, "", "", 24⟩, ⟨ "GCData", 139, 8, false, "", "", 32⟩, ⟨ "Str", 140, 9, false, "", "", 40⟩, ⟨ "PtrToThis", 141, 10, false, "", "", 44⟩], 11, 48, [.int .u64 0, .int .u64 0, .int .u32 0, .int .u8 0, .int .u8 0, .int .u8 0, .int .u8 0, .nilFunc, .pointer none, .int .i32 0, .int .i32 0], true, []⟩

def tab : Tab := [(2, ti2), (3, ti3), (4, ti4), (5, ti5), (6, ti6), (7, ti7), (8, ti8), (9, ti9), (10, ti10), (11, ti11), (12, ti12), (13, ti13), (14, ti14), (18, ti18), (19, ti19), (21, ti21), (22, ti22), (28, ti28), (32, ti32), (37, ti37), (38, ti38), (39, ti39), (40, ti40), (41, ti41), (52, ti52), (55, ti55), (15, ti15), (16, ti16), (17, ti17), (69, ti69), (77, ti77), (84, ti84), (86, ti86), (87, ti87), (94, ti94), (98, ti98), (101, ti101), (105, ti105), (108, ti108), (109, ti109), (110, ti110), (111, ti111), (112, ti112), (113, ti113), (114, ti114), (116, ti116), (117, ti117), (121, ti121), (122, ti122), (124, ti124), (125, ti125), (126, ti126), (130, ti130), (131, ti131), (132, ti132), (133, ti133), (134, ti134), (136, ti136), (137, ti137), (139, ti139), (140, ti140), (141, ti141), (142, ti142), (143, ti143)]

theorem tok2 : TOk1 Tryd.prog 2 ti2 := ⟨by kernel_rfl, by kernel_rfl, by kernel_rfl, rfl, rfl, rfl, by decide⟩
theorem tok3 : TOk1 Tryd.prog 3 ti3 := ⟨by kernel_rfl, by kernel_rfl, by kernel_rfl, rfl, rfl, rfl, by decide⟩
theorem tok4 : TOk1 Tryd.prog 4 ti4 := ⟨by kernel_rfl, by kernel_rfl, by kernel_rfl, rfl, rfl, rfl, by decide⟩
theorem tok5 : TOk1 Tryd.prog 5 ti5 := ⟨by kernel_rfl, by kernel_rfl, by kernel_rfl, rfl, rfl, rfl, by decide⟩
theorem tok6 : TOk1 Tryd.prog 6 ti6 := ⟨by kernel_rfl, by kernel_rfl, by kernel_rfl, rfl, rfl, rfl, by decide⟩
theorem tok7 : TOk1 Tryd.prog 7 ti7 := ⟨by kernel_rfl, by kernel_rfl, by kernel_rfl, rfl, rfl, rfl, by decide⟩
theorem tok8 : TOk1 Tryd.prog 8 ti8 := ⟨by kernel_rfl, by kernel_rfl, by kernel_rfl, rfl, rfl, rfl, by decide⟩
theorem tok9 : TOk1 Tryd.prog 9 ti9 := ⟨by kernel_rfl, by kernel_rfl, by kernel_rfl, rfl, rfl, rfl, by decide⟩
theorem tok10 : TOk1 Tryd.prog 10 ti10 := ⟨by kernel_rfl, by kernel_rfl, by kernel_rfl, rfl, rfl, rfl, by decide⟩
theorem tok11 : TOk1 Tryd.prog 11 ti11 := ⟨by kernel_rfl, by kernel_rfl, by kernel_rfl, rfl, rfl, rfl, by decide⟩
theorem tok12 : TOk1 Tryd.prog 12 ti12 := ⟨by kernel_rfl, by kernel_rfl, by kernel_rfl, rfl, rfl, rfl, by decide⟩
theorem tok13 : TOk1 Tryd.prog 13 ti13 := ⟨by kernel_rfl, by kernel_rfl, by kernel_rfl, rfl, rfl, rfl, by decide⟩
theorem tok14 : TOk1 Tryd.prog 14 ti14 := ⟨by kernel_rfl, by kernel_rfl, by kernel_rfl, rfl, rfl, rfl, by decide⟩
theorem tok18 : TOk1 Tryd.prog 18 ti18 := ⟨by kernel_rfl, by kernel_rfl, by kernel_rfl, rfl, rfl, rfl, by decide⟩
theorem tok19 : TOk1 Tryd.prog 19 ti19 := ⟨by kernel_rfl, by kernel_rfl, by kernel_rfl, rfl, rfl, rfl, by decide⟩
theorem tok21 : TOk1 Tryd.prog 21 ti21 := ⟨by kernel_rfl, by kernel_rfl, by kernel_rfl, rfl, rfl, rfl, by decide⟩
theorem tok22 : TOk1 Tryd.prog 22 ti22 := ⟨by kernel_rfl, by kernel_rfl, by kernel_rfl, rfl, rfl, rfl, by decide⟩
theorem tok28 : TOk1 Tryd.prog 28 ti28 := ⟨by kernel_rfl, by kernel_rfl, by kernel_rfl, rfl, rfl, rfl, by decide⟩
theorem tok32 : TOk1 Tryd.prog 32 ti32 := ⟨by kernel_rfl, by kernel_rfl, by kernel_rfl, rfl, rfl, rfl, by decide⟩
theorem tok37 : TOk1 Tryd.prog 37 ti37 := ⟨by kernel_rfl, by kernel_rfl, by kernel_rfl, rfl, rfl, rfl, by decide⟩
theorem tok38 : TOk1 Tryd.prog 38 ti38 := ⟨by kernel_rfl, by kernel_rfl, by kernel_rfl, rfl, rfl, rfl, by decide⟩
theorem tok39 : TOk1 Tryd.prog 39 ti39 := ⟨by kernel_rfl, by kernel_rfl, by kernel_rfl, rfl, rfl, rfl, by decide⟩
theorem tok40 : TOk1 Tryd.prog 40 ti40 := ⟨by kernel_rfl, by kernel_rfl, by kernel_rfl, rfl, rfl, rfl, by decide⟩
theorem tok41 : TOk1 Tryd.prog 41 ti41 := ⟨by kernel_rfl, by kernel_rfl, by kernel_rfl, rfl, rfl, rfl, by decide⟩
theorem tok52 : TOk1 Tryd.prog 52 ti52 := ⟨by kernel_rfl, by kernel_rfl, by kernel_rfl, rfl, rfl, rfl, by decide⟩
theorem tok55 : TOk1 Tryd.prog 55 ti55 := ⟨by kernel_rfl, by kernel_rfl, by kernel_rfl, rfl, rfl, rfl, by decide⟩
theorem tok15 : TOk1 Tryd.prog 15 ti15 := ⟨by kernel_rfl, by kernel_rfl, by kernel_rfl, rfl, rfl, rfl, by decide⟩
theorem tok16 : TOk1 Tryd.prog 16 ti16 := ⟨by kernel_rfl, by kernel_rfl, by kernel_rfl, rfl, rfl, rfl, by decide⟩
theorem tok17 : TOk1 Tryd.prog 17 ti17 := ⟨by kernel_rfl, by kernel_rfl, by kernel_rfl, rfl, rfl, rfl, by decide⟩
theorem tok69 : TOk1 Tryd.prog 69 ti69 := ⟨by kernel_rfl, by kernel_rfl, by kernel_rfl, rfl, rfl, rfl, by decide⟩
theorem tok77 : TOk1 Tryd.prog 77 ti77 := ⟨by kernel_rfl, by kernel_rfl, by kernel_rfl, rfl, rfl, rfl, by decide⟩
theorem tok84 : TOk1 Tryd.prog 84 ti84 := ⟨by kernel_rfl, by kernel_rfl, by kernel_rfl, rfl, rfl, rfl, by decide⟩
theorem tok86 : TOk1 Tryd.prog 86 ti86 := ⟨by kernel_rfl, by kernel_rfl, by kernel_rfl, rfl, rfl, rfl, by decide⟩
theorem tok87 : TOk1 Tryd.prog 87 ti87 := ⟨by kernel_rfl, by kernel_rfl, by kernel_rfl, rfl, rfl, rfl, by decide⟩
theorem tok94 : TOk1 Tryd.prog 94 ti94 := ⟨by kernel_rfl, by kernel_rfl, by kernel_rfl, rfl, rfl, rfl, by decide⟩
theorem tok98 : TOk1 Tryd.prog 98 ti98 := ⟨by kernel_rfl, by kernel_rfl, by kernel_rfl, rfl, rfl, rfl, by decide⟩
theorem tok101 : TOk1 Tryd.prog 101 ti101 := ⟨by kernel_rfl, by kernel_rfl, by kernel_rfl, rfl, rfl, rfl, by decide⟩
theorem tok105 : TOk1 Tryd.prog 105 ti105 := ⟨by kernel_rfl, by kernel_rfl, by kernel_rfl, rfl, rfl, rfl, by decide⟩
theorem tok108 : TOk1 Tryd.prog 108 ti108 := ⟨by kernel_rfl, by kernel_rfl, by kernel_rfl, rfl, rfl, rfl, by decide⟩
theorem tok109 : TOk1 Tryd.prog 109 ti109 := ⟨by kernel_rfl, by kernel_rfl, by kernel_rfl, rfl, rfl, rfl, by decide⟩
theorem tok110 : TOk1 Tryd.prog 110 ti110 := ⟨by kernel_rfl, by kernel_rfl, by kernel_rfl, rfl, rfl, rfl, by decide⟩
theorem tok111 : TOk1 Tryd.prog 111 ti111 := ⟨by kernel_rfl, by kernel_rfl, by kernel_rfl, rfl, rfl, rfl, by decide⟩
theorem tok112 : TOk1 Tryd.prog 112 ti112 := ⟨by kernel_rfl, by kernel_rfl, by kernel_rfl, rfl, rfl, rfl, by decide⟩
theorem tok113 : TOk1 Tryd.prog 113 ti113 := ⟨by kernel_rfl, by kernel_rfl, by kernel_rfl, rfl, rfl, rfl, by decide⟩
theorem tok114 : TOk1 Tryd.prog 114 ti114 := ⟨by kernel_rfl, by kernel_rfl, by kernel_rfl, rfl, rfl, rfl, by decide⟩
theorem tok116 : TOk1 Tryd.prog 116 ti116 := ⟨by kernel_rfl, by kernel_rfl, by kernel_rfl, rfl, rfl, rfl, by decide⟩
theorem tok117 : TOk1 Tryd.prog 117 ti117 := ⟨by kernel_rfl, by kernel_rfl, by kernel_rfl, rfl, rfl, rfl, by decide⟩
theorem tok121 : TOk1 Tryd.prog 121 ti121 := ⟨by kernel_rfl, by kernel_rfl, by kernel_rfl, rfl, rfl, rfl, by decide⟩
theorem tok122 : TOk1 Tryd.prog 122 ti122 := ⟨by kernel_rfl, by kernel_rfl, by kernel_rfl, rfl, rfl, rfl, by decide⟩
theorem tok124 : TOk1 Tryd.prog 124 ti124 := ⟨by kernel_rfl, by kernel_rfl, by kernel_rfl, rfl, rfl, rfl, by decide⟩
theorem tok125 : TOk1 Tryd.prog 125 ti125 := ⟨by kernel_rfl, by kernel_rfl, by kernel_rfl, rfl, rfl, rfl, by decide⟩
theorem tok126 : TOk1 Tryd.prog 126 ti126 := ⟨by kernel_rfl, by kernel_rfl, by kernel_rfl, rfl, rfl, rfl, by decide⟩
theorem tok130 : TOk1 Tryd.prog 130 ti130 := ⟨by kernel_rfl, by kernel_rfl, by kernel_rfl, rfl, rfl, rfl, by decide⟩
theorem tok131 : TOk1 Tryd.prog 131 ti131 := ⟨by kernel_rfl, by kernel_rfl, by kernel_rfl, rfl, rfl, rfl, by decide⟩
theorem tok132 : TOk1 Tryd.prog 132 ti132 := ⟨by kernel_rfl, by kernel_rfl, by kernel_rfl, rfl, rfl, rfl, by decide⟩
theorem tok133 : TOk1 Tryd.prog 133 ti133 := ⟨by kernel_rfl, by kernel_rfl, by kernel_rfl, rfl, rfl, rfl, by decide⟩
theorem tok134 : TOk1 Tryd.prog 134 ti134 := ⟨by kernel_rfl, by kernel_rfl, by kernel_rfl, rfl, rfl, rfl, by decide⟩
theorem tok136 : TOk1 Tryd.prog 136 ti136 := ⟨by kernel_rfl, by kernel_rfl, by kernel_rfl, rfl, rfl, rfl, by decide⟩
theorem tok137 : TOk1 Tryd.prog 137 ti137 := ⟨by kernel_rfl, by kernel_rfl, by kernel_rfl, rfl, rfl, rfl, by decide⟩
theorem tok139 : TOk1 Tryd.prog 139 ti139 := ⟨by kernel_rfl, by kernel_rfl, by kernel_rfl, rfl, rfl, rfl, by decide⟩
theorem tok140 : TOk1 Tryd.prog 140 ti140 := ⟨by kernel_rfl, by kernel_rfl, by kernel_rfl, rfl, rfl, rfl, by decide⟩
theorem tok141 : TOk1 Tryd.prog 141 ti141 := ⟨by kernel_rfl, by kernel_rfl, by kernel_rfl, rfl, rfl, rfl, by decide⟩
theorem tok142 : TOk1 Tryd.prog 142 ti142 := ⟨by kernel_rfl, by kernel_rfl, by kernel_rfl, rfl, rfl, rfl, by decide⟩
theorem tok143 : TOk1 Tryd.prog 143 ti143 := ⟨by kernel_rfl, by kernel_rfl, by kernel_rfl, rfl, rfl, rfl, by decide⟩
theorem tabOk : TOk Tryd.prog tab :=
  tok_cons tok2 (tok_cons tok3 (tok_cons tok4 (tok_cons tok5 (tok_cons tok6 (tok_cons tok7 (tok_cons tok8 (tok_cons tok9 (tok_cons tok10 (tok_cons tok11 (tok_cons tok12 (tok_cons tok13 (tok_cons tok14 (tok_cons tok18 (tok_cons tok19 (tok_cons tok21 (tok_cons tok22 (tok_cons tok28 (tok_cons tok32 (tok_cons tok37 (tok_cons tok38 (tok_cons tok39 (tok_cons tok40 (tok_cons tok41 (tok_cons tok52 (tok_cons tok55 (tok_cons tok15 (tok_cons tok16 (tok_cons tok17 (tok_cons tok69 (tok_cons tok77 (tok_cons tok84 (tok_cons tok86 (tok_cons tok87 (tok_cons tok94 (tok_cons tok98 (tok_cons tok101 (tok_cons tok105 (tok_cons tok108 (tok_cons tok109 (tok_cons tok110 (tok_cons tok111 (tok_cons tok112 (tok_cons tok113 (tok_cons tok114 (tok_cons tok116 (tok_cons tok117 (tok_cons tok121 (tok_cons tok122 (tok_cons tok124 (tok_cons tok125 (tok_cons tok126 (tok_cons tok130 (tok_cons tok131 (tok_cons tok132 (tok_cons tok133 (tok_cons tok134 (tok_cons tok136 (tok_cons tok137 (tok_cons tok139 (tok_cons tok140 (tok_cons tok141 (tok_cons tok142 (tok_cons tok143 (tok_nil _))))))))))))))))))))))))))))))))))))))))))))))))))))))))))))))))
theorem mixed : Tryd.prog.follows .mixedOrders = true := by kernel_rfl
end Go.Proofs.YtmcolhhmlpicaaaDoor
