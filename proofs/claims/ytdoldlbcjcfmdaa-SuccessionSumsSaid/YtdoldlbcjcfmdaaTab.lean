/-
  The table of types of this seat, as the abstract interpreter reads it, and that it is the program's.
-/
import Derived.Test.YtdoldlbcjcfmdaaAbsPre
import Derived.Test.YtdoldlbcjcfmdaaRows
import Derived.KernelRfl
namespace Go.Proofs.Ytdoldlbcjcfmdaa
open Go Go.Abs

def ti2 : TI := ⟨.int .i64, 1, 8, [.int .i64 0], false, []⟩
def ti3 : TI := ⟨.int .i64, 1, 8, [.int .i64 0], false, []⟩
def ti4 : TI := ⟨.bool, 1, 1, [.bool false], false, []⟩
def ti5 : TI := ⟨.int .u8, 1, 1, [.int .u8 0], false, []⟩
def ti6 : TI := ⟨.int .u8, 1, 1, [.int .u8 0], false, []⟩
def ti7 : TI := ⟨.struct #[⟨ "x", 2, 0, false, "", "runtime", 0⟩, ⟨ "y", 3, 1, false, "", "runtime", 8⟩, ⟨ "signed", 4, 2, false, "", "runtime", 16⟩, ⟨ "code", 6, 3, false, "", "runtime", 17⟩], 4, 24, [.int .i64 0, .int .i64 0, .bool false, .int .u8 0], true, []⟩
def ti8 : TI := ⟨.struct #[⟨ "x", 2, 0, false, "", "runtime", 0⟩, ⟨ "y", 3, 1, false, "", "runtime", 8⟩, ⟨ "signed", 4, 2, false, "", "runtime", 16⟩, ⟨ "code", 6, 3, false, "", "runtime", 17⟩], 4, 24, [.int .i64 0, .int .i64 0, .bool false, .int .u8 0], true, []⟩
def ti9 : TI := ⟨.string, 1, 16, [.string ⟨#[]⟩], false, []⟩
def ti10 : TI := ⟨.string, 1, 16, [.string ⟨#[]⟩], false, []⟩
def ti11 : TI := ⟨.string, 1, 16, [.string ⟨#[]⟩], false, []⟩
def ti12 : TI := ⟨.int .u64, 1, 8, [.int .u64 0], false, []⟩
def ti13 : TI := ⟨.struct #[⟨ "msg", 9, 0, false, "", "runtime", 0⟩, ⟨ "addr", 12, 1, false, "", "runtime", 16⟩], 2, 24, [.string ⟨#[]⟩, .int .u64 0], true, []⟩
def ti14 : TI := ⟨.struct #[⟨ "msg", 9, 0, false, "", "runtime", 0⟩, ⟨ "addr", 12, 1, false, "", "runtime", 16⟩], 2, 24, [.string ⟨#[]⟩, .int .u64 0], true, []⟩
def ti18 : TI := ⟨.struct #[⟨ "typ", 17, 0, false, "", "internal/runtime/maps", 0⟩], 1, 8, [.pointer none], true, []⟩
def ti19 : TI := ⟨.struct #[⟨ "typ", 17, 0, false, "", "internal/runtime/maps", 0⟩], 1, 8, [.pointer none], true, []⟩
def ti21 : TI := ⟨.int .i32, 1, 4, [.int .i32 0], false, []⟩
def ti22 : TI := ⟨.slice 39, 1, 24, [.slice none 0 0], false, [6]⟩
def ti25 : TI := ⟨.slice 3, 1, 24, [.slice none 0 0], false, [1]⟩
def ti26 : TI := ⟨.int .i64, 1, 8, [.int .i64 0], false, []⟩
def ti35 : TI := ⟨.struct #[⟨ "From", 3, 0, false, "", "", 0⟩, ⟨ "Until", 3, 1, false, "", "", 8⟩], 2, 16, [.int .i64 0, .int .i64 0], true, []⟩
def ti36 : TI := ⟨.struct #[⟨ "From", 3, 0, false, "", "", 0⟩, ⟨ "Until", 3, 1, false, "", "", 8⟩], 2, 16, [.int .i64 0, .int .i64 0], true, []⟩
def ti37 : TI := ⟨.slice 75, 1, 24, [.slice none 0 0], false, [3]⟩
def ti38 : TI := ⟨.struct #[⟨ "ID", 3, 0, false, "", "", 0⟩, ⟨ "Kind", 3, 1, false, "", "", 8⟩, ⟨ "In", 36, 2, false, "", "", 16⟩, ⟨ "Names", 37, 4, false, "", "", 32⟩, ⟨ "Next", 25, 5, false, "", "", 56⟩], 6, 80, [.int .i64 0, .int .i64 0, .int .i64 0, .int .i64 0, .slice none 0 0, .slice none 0 0], true, [0, 0, 0, 0, 3, 1]⟩
def ti39 : TI := ⟨.struct #[⟨ "ID", 3, 0, false, "", "", 0⟩, ⟨ "Kind", 3, 1, false, "", "", 8⟩, ⟨ "In", 36, 2, false, "", "", 16⟩, ⟨ "Names", 37, 4, false, "", "", 32⟩, ⟨ "Next", 25, 5, false, "", "", 56⟩], 6, 80, [.int .i64 0, .int .i64 0, .int .i64 0, .int .i64 0, .slice none 0 0, .slice none 0 0], true, [0, 0, 0, 0, 3, 1]⟩
def ti43 : TI := ⟨.slice 25, 1, 24, [.slice none 0 0], false, [1]⟩
def ti56 : TI := ⟨.func #[39] #[25] false, 1, 8, [.nilFunc], false, []⟩
def ti57 : TI := ⟨.struct #[⟨ "l", 22, 0, false, "", "archivum/succession", 0⟩, ⟨ "next", 56, 1, false, "", "archivum/succession", 24⟩], 2, 32, [.slice none 0 0, .nilFunc], true, [6]⟩
def ti58 : TI := ⟨.struct #[⟨ "l", 22, 0, false, "", "archivum/succession", 0⟩, ⟨ "next", 56, 1, false, "", "archivum/succession", 24⟩], 2, 32, [.slice none 0 0, .nilFunc], true, [6]⟩
def ti15 : TI := ⟨.pointer 128, 1, 8, [.pointer none], false, []⟩
def ti16 : TI := ⟨.pointer 131, 1, 8, [.pointer none], false, []⟩
def ti17 : TI := ⟨.pointer 140, 1, 8, [.pointer none], false, []⟩
def ti61 : TI := ⟨.map 3 3, 1, 8, [.map none], false, []⟩
def ti74 : TI := ⟨.struct #[⟨ "Text", 9, 0, false, "", "", 0⟩, ⟨ "In", 36, 1, false, "", "", 16⟩], 3, 32, [.string ⟨#[]⟩, .int .i64 0, .int .i64 0], true, []⟩
def ti75 : TI := ⟨.struct #[⟨ "Text", 9, 0, false, "", "", 0⟩, ⟨ "In", 36, 1, false, "", "", 16⟩], 3, 32, [.string ⟨#[]⟩, .int .i64 0, .int .i64 0], true, []⟩
def ti84 : TI := ⟨.int .u64, 1, 8, [.int .u64 0], false, []⟩
def ti88 : TI := ⟨.func #[22, 3] #[26] false, 1, 8, [.nilFunc], false, []⟩
def ti89 : TI := ⟨.slice 88, 1, 24, [.slice none 0 0], false, [1]⟩
def ti92 : TI := ⟨.int .i64, 1, 8, [.int .i64 0], false, []⟩
def ti99 : TI := ⟨.int .u32, 1, 4, [.int .u32 0], false, []⟩
def ti101 : TI := ⟨.int .u64, 1, 8, [.int .u64 0], false, []⟩
def ti107 : TI := ⟨.int .u64, 1, 8, [.int .u64 0], false, []⟩
def ti111 : TI := ⟨.pointer 3, 1, 8, [.pointer none], false, []⟩
def ti114 : TI := ⟨.pointer 107, 1, 8, [.pointer none], false, []⟩
def ti127 : TI := ⟨.struct #[⟨ "_interface", 17, 0, false, "", "runtime", 0⟩, ⟨ "concrete", 17, 1, false, "", "runtime", 8⟩, ⟨ "asserted", 17, 2, false, "", "runtime", 16⟩, ⟨ "missingMethod", 9, 3, false, "", "runtime", 24⟩], 4, 40, [.pointer none, .pointer none, .pointer none, .string ⟨#[]⟩], true, []⟩
def ti128 : TI := ⟨.struct #[⟨ "_interface", 17, 0, false, "", "runtime", 0⟩, ⟨ "concrete", 17, 1, false, "", "runtime", 8⟩, ⟨ "asserted", 17, 2, false, "", "runtime", 16⟩, ⟨ "missingMethod", 9, 3, false, "", "runtime", 24⟩], 4, 40, [.pointer none, .pointer none, .pointer none, .string ⟨#[]⟩], true, []⟩
def ti129 : TI := ⟨.array 0 16, 0, 0, [], true, []⟩
def ti130 : TI := ⟨.struct #[⟨ "_", 129, 0, false, "", "runtime", 0⟩], 0, 0, [], true, []⟩
def ti131 : TI := ⟨.struct #[⟨ "_", 129, 0, false, "", "runtime", 0⟩], 0, 0, [], true, []⟩
def ti133 : TI := ⟨.int .u8, 1, 1, [.int .u8 0], false, []⟩
def ti134 : TI := ⟨.int .u8, 1, 1, [.int .u8 0], false, []⟩
def ti136 : TI := ⟨.pointer 5, 1, 8, [.pointer none], false, []⟩
def ti137 : TI := ⟨.int .i32, 1, 4, [.int .i32 0], false, []⟩
def ti138 : TI := ⟨.int .i32, 1, 4, [.int .i32 0], false, []⟩
def ti139 : TI := ⟨.struct #[⟨ "Size_", 12, 0, false, "", "", 0⟩, ⟨ "PtrBytes", 12, 1, false, "", "", 8⟩, ⟨ "Hash", 99, 2, false, "", "", 16⟩, ⟨ "TFlag", 133, 3, false, "", "", 20⟩, ⟨ "Align_", 5, 4, false, "", "", 21⟩, ⟨ "FieldAlign_", 5, 5, false, "", "", 22⟩, ⟨ "Kind_", 134, 6, false, "", "", 23⟩, ⟨ "Equal", 135, 7, false, "", "", 24⟩, ⟨ "GCData", 136, 8, false, "", "", 32⟩, ⟨ "Str", 137, 9, false, "", "", 40⟩, ⟨ "PtrToThis", 138, 10, false, "", "", 44⟩], 11, 48, [.int .u64 0, .int .u64 0, .int .u32 0, .int .u8 0, .int .u8 0, .int .u8 0, .int .u8 0, .nilFunc, .pointer none, .int .i32 0, .int .i32 0], true, []⟩
def ti140 : TI := ⟨.struct #[⟨ "Size_", 12, 0, false, "", "", 0⟩, ⟨ "PtrBytes", 12, 1, false, "", "", 8⟩, ⟨ "Hash", 99, 2, false, "", "", 16⟩, ⟨ "TFlag", 133, 3, false, "", "", 20⟩, ⟨ "Align_", 5, 4, false, "", "", 21⟩, ⟨ "FieldAlign_", 5, 5, false, "", "", 22⟩, ⟨ "Kind_", 134, 6, false, "", "", 23⟩, ⟨ "Equal", 135, 7, false, "", "", 24⟩, ⟨ "GCData", 136, 8, false, "", "", 32⟩, ⟨ "Str", 137, 9, false, "", "", 40⟩, ⟨ "PtrToThis", 138, 10, false, "", "", 44⟩], 11, 48, [.int .u64 0, .int .u64 0, .int .u32 0, .int .u8 0, .int .u8 0, .int .u8 0, .int .u8 0, .nilFunc, .pointer none, .int .i32 0, .int .i32 0], true, []⟩

def tab : Tab := [(2, ti2), (3, ti3), (4, ti4), (5, ti5), (6, ti6), (7, ti7), (8, ti8), (9, ti9), (10, ti10), (11, ti11), (12, ti12), (13, ti13), (14, ti14), (18, ti18), (19, ti19), (21, ti21), (22, ti22), (25, ti25), (26, ti26), (35, ti35), (36, ti36), (37, ti37), (38, ti38), (39, ti39), (43, ti43), (56, ti56), (57, ti57), (58, ti58), (15, ti15), (16, ti16), (17, ti17), (61, ti61), (74, ti74), (75, ti75), (84, ti84), (88, ti88), (89, ti89), (92, ti92), (99, ti99), (101, ti101), (107, ti107), (111, ti111), (114, ti114), (127, ti127), (128, ti128), (129, ti129), (130, ti130), (131, ti131), (133, ti133), (134, ti134), (136, ti136), (137, ti137), (138, ti138), (139, ti139), (140, ti140)]

theorem tok2 : TOk1 Try.prog 2 ti2 := ⟨by kernel_rfl, by kernel_rfl, by kernel_rfl, rfl, rfl, rfl, by decide⟩
theorem tok3 : TOk1 Try.prog 3 ti3 := ⟨by kernel_rfl, by kernel_rfl, by kernel_rfl, rfl, rfl, rfl, by decide⟩
theorem tok4 : TOk1 Try.prog 4 ti4 := ⟨by kernel_rfl, by kernel_rfl, by kernel_rfl, rfl, rfl, rfl, by decide⟩
theorem tok5 : TOk1 Try.prog 5 ti5 := ⟨by kernel_rfl, by kernel_rfl, by kernel_rfl, rfl, rfl, rfl, by decide⟩
theorem tok6 : TOk1 Try.prog 6 ti6 := ⟨by kernel_rfl, by kernel_rfl, by kernel_rfl, rfl, rfl, rfl, by decide⟩
theorem tok7 : TOk1 Try.prog 7 ti7 := ⟨by kernel_rfl, by kernel_rfl, by kernel_rfl, rfl, rfl, rfl, by decide⟩
theorem tok8 : TOk1 Try.prog 8 ti8 := ⟨by kernel_rfl, by kernel_rfl, by kernel_rfl, rfl, rfl, rfl, by decide⟩
theorem tok9 : TOk1 Try.prog 9 ti9 := ⟨by kernel_rfl, by kernel_rfl, by kernel_rfl, rfl, rfl, rfl, by decide⟩
theorem tok10 : TOk1 Try.prog 10 ti10 := ⟨by kernel_rfl, by kernel_rfl, by kernel_rfl, rfl, rfl, rfl, by decide⟩
theorem tok11 : TOk1 Try.prog 11 ti11 := ⟨by kernel_rfl, by kernel_rfl, by kernel_rfl, rfl, rfl, rfl, by decide⟩
theorem tok12 : TOk1 Try.prog 12 ti12 := ⟨by kernel_rfl, by kernel_rfl, by kernel_rfl, rfl, rfl, rfl, by decide⟩
theorem tok13 : TOk1 Try.prog 13 ti13 := ⟨by kernel_rfl, by kernel_rfl, by kernel_rfl, rfl, rfl, rfl, by decide⟩
theorem tok14 : TOk1 Try.prog 14 ti14 := ⟨by kernel_rfl, by kernel_rfl, by kernel_rfl, rfl, rfl, rfl, by decide⟩
theorem tok18 : TOk1 Try.prog 18 ti18 := ⟨by kernel_rfl, by kernel_rfl, by kernel_rfl, rfl, rfl, rfl, by decide⟩
theorem tok19 : TOk1 Try.prog 19 ti19 := ⟨by kernel_rfl, by kernel_rfl, by kernel_rfl, rfl, rfl, rfl, by decide⟩
theorem tok21 : TOk1 Try.prog 21 ti21 := ⟨by kernel_rfl, by kernel_rfl, by kernel_rfl, rfl, rfl, rfl, by decide⟩
theorem tok22 : TOk1 Try.prog 22 ti22 := ⟨by kernel_rfl, by kernel_rfl, by kernel_rfl, rfl, rfl, rfl, by decide⟩
theorem tok25 : TOk1 Try.prog 25 ti25 := ⟨by kernel_rfl, by kernel_rfl, by kernel_rfl, rfl, rfl, rfl, by decide⟩
theorem tok26 : TOk1 Try.prog 26 ti26 := ⟨by kernel_rfl, by kernel_rfl, by kernel_rfl, rfl, rfl, rfl, by decide⟩
theorem tok35 : TOk1 Try.prog 35 ti35 := ⟨by kernel_rfl, by kernel_rfl, by kernel_rfl, rfl, rfl, rfl, by decide⟩
theorem tok36 : TOk1 Try.prog 36 ti36 := ⟨by kernel_rfl, by kernel_rfl, by kernel_rfl, rfl, rfl, rfl, by decide⟩
theorem tok37 : TOk1 Try.prog 37 ti37 := ⟨by kernel_rfl, by kernel_rfl, by kernel_rfl, rfl, rfl, rfl, by decide⟩
theorem tok38 : TOk1 Try.prog 38 ti38 := ⟨by kernel_rfl, by kernel_rfl, by kernel_rfl, rfl, rfl, rfl, by decide⟩
theorem tok39 : TOk1 Try.prog 39 ti39 := ⟨by kernel_rfl, by kernel_rfl, by kernel_rfl, rfl, rfl, rfl, by decide⟩
theorem tok43 : TOk1 Try.prog 43 ti43 := ⟨by kernel_rfl, by kernel_rfl, by kernel_rfl, rfl, rfl, rfl, by decide⟩
theorem tok56 : TOk1 Try.prog 56 ti56 := ⟨by kernel_rfl, by kernel_rfl, by kernel_rfl, rfl, rfl, rfl, by decide⟩
theorem tok57 : TOk1 Try.prog 57 ti57 := ⟨by kernel_rfl, by kernel_rfl, by kernel_rfl, rfl, rfl, rfl, by decide⟩
theorem tok58 : TOk1 Try.prog 58 ti58 := ⟨by kernel_rfl, by kernel_rfl, by kernel_rfl, rfl, rfl, rfl, by decide⟩
theorem tok15 : TOk1 Try.prog 15 ti15 := ⟨by kernel_rfl, by kernel_rfl, by kernel_rfl, rfl, rfl, rfl, by decide⟩
theorem tok16 : TOk1 Try.prog 16 ti16 := ⟨by kernel_rfl, by kernel_rfl, by kernel_rfl, rfl, rfl, rfl, by decide⟩
theorem tok17 : TOk1 Try.prog 17 ti17 := ⟨by kernel_rfl, by kernel_rfl, by kernel_rfl, rfl, rfl, rfl, by decide⟩
theorem tok61 : TOk1 Try.prog 61 ti61 := ⟨by kernel_rfl, by kernel_rfl, by kernel_rfl, rfl, rfl, rfl, by decide⟩
theorem tok74 : TOk1 Try.prog 74 ti74 := ⟨by kernel_rfl, by kernel_rfl, by kernel_rfl, rfl, rfl, rfl, by decide⟩
theorem tok75 : TOk1 Try.prog 75 ti75 := ⟨by kernel_rfl, by kernel_rfl, by kernel_rfl, rfl, rfl, rfl, by decide⟩
theorem tok84 : TOk1 Try.prog 84 ti84 := ⟨by kernel_rfl, by kernel_rfl, by kernel_rfl, rfl, rfl, rfl, by decide⟩
theorem tok88 : TOk1 Try.prog 88 ti88 := ⟨by kernel_rfl, by kernel_rfl, by kernel_rfl, rfl, rfl, rfl, by decide⟩
theorem tok89 : TOk1 Try.prog 89 ti89 := ⟨by kernel_rfl, by kernel_rfl, by kernel_rfl, rfl, rfl, rfl, by decide⟩
theorem tok92 : TOk1 Try.prog 92 ti92 := ⟨by kernel_rfl, by kernel_rfl, by kernel_rfl, rfl, rfl, rfl, by decide⟩
theorem tok99 : TOk1 Try.prog 99 ti99 := ⟨by kernel_rfl, by kernel_rfl, by kernel_rfl, rfl, rfl, rfl, by decide⟩
theorem tok101 : TOk1 Try.prog 101 ti101 := ⟨by kernel_rfl, by kernel_rfl, by kernel_rfl, rfl, rfl, rfl, by decide⟩
theorem tok107 : TOk1 Try.prog 107 ti107 := ⟨by kernel_rfl, by kernel_rfl, by kernel_rfl, rfl, rfl, rfl, by decide⟩
theorem tok111 : TOk1 Try.prog 111 ti111 := ⟨by kernel_rfl, by kernel_rfl, by kernel_rfl, rfl, rfl, rfl, by decide⟩
theorem tok114 : TOk1 Try.prog 114 ti114 := ⟨by kernel_rfl, by kernel_rfl, by kernel_rfl, rfl, rfl, rfl, by decide⟩
theorem tok127 : TOk1 Try.prog 127 ti127 := ⟨by kernel_rfl, by kernel_rfl, by kernel_rfl, rfl, rfl, rfl, by decide⟩
theorem tok128 : TOk1 Try.prog 128 ti128 := ⟨by kernel_rfl, by kernel_rfl, by kernel_rfl, rfl, rfl, rfl, by decide⟩
theorem tok129 : TOk1 Try.prog 129 ti129 := ⟨by kernel_rfl, by kernel_rfl, by kernel_rfl, rfl, rfl, rfl, by decide⟩
theorem tok130 : TOk1 Try.prog 130 ti130 := ⟨by kernel_rfl, by kernel_rfl, by kernel_rfl, rfl, rfl, rfl, by decide⟩
theorem tok131 : TOk1 Try.prog 131 ti131 := ⟨by kernel_rfl, by kernel_rfl, by kernel_rfl, rfl, rfl, rfl, by decide⟩
theorem tok133 : TOk1 Try.prog 133 ti133 := ⟨by kernel_rfl, by kernel_rfl, by kernel_rfl, rfl, rfl, rfl, by decide⟩
theorem tok134 : TOk1 Try.prog 134 ti134 := ⟨by kernel_rfl, by kernel_rfl, by kernel_rfl, rfl, rfl, rfl, by decide⟩
theorem tok136 : TOk1 Try.prog 136 ti136 := ⟨by kernel_rfl, by kernel_rfl, by kernel_rfl, rfl, rfl, rfl, by decide⟩
theorem tok137 : TOk1 Try.prog 137 ti137 := ⟨by kernel_rfl, by kernel_rfl, by kernel_rfl, rfl, rfl, rfl, by decide⟩
theorem tok138 : TOk1 Try.prog 138 ti138 := ⟨by kernel_rfl, by kernel_rfl, by kernel_rfl, rfl, rfl, rfl, by decide⟩
theorem tok139 : TOk1 Try.prog 139 ti139 := ⟨by kernel_rfl, by kernel_rfl, by kernel_rfl, rfl, rfl, rfl, by decide⟩
theorem tok140 : TOk1 Try.prog 140 ti140 := ⟨by kernel_rfl, by kernel_rfl, by kernel_rfl, rfl, rfl, rfl, by decide⟩
theorem tabOk : TOk Try.prog tab :=
  tok_cons tok2 (tok_cons tok3 (tok_cons tok4 (tok_cons tok5 (tok_cons tok6 (tok_cons tok7 (tok_cons tok8 (tok_cons tok9 (tok_cons tok10 (tok_cons tok11 (tok_cons tok12 (tok_cons tok13 (tok_cons tok14 (tok_cons tok18 (tok_cons tok19 (tok_cons tok21 (tok_cons tok22 (tok_cons tok25 (tok_cons tok26 (tok_cons tok35 (tok_cons tok36 (tok_cons tok37 (tok_cons tok38 (tok_cons tok39 (tok_cons tok43 (tok_cons tok56 (tok_cons tok57 (tok_cons tok58 (tok_cons tok15 (tok_cons tok16 (tok_cons tok17 (tok_cons tok61 (tok_cons tok74 (tok_cons tok75 (tok_cons tok84 (tok_cons tok88 (tok_cons tok89 (tok_cons tok92 (tok_cons tok99 (tok_cons tok101 (tok_cons tok107 (tok_cons tok111 (tok_cons tok114 (tok_cons tok127 (tok_cons tok128 (tok_cons tok129 (tok_cons tok130 (tok_cons tok131 (tok_cons tok133 (tok_cons tok134 (tok_cons tok136 (tok_cons tok137 (tok_cons tok138 (tok_cons tok139 (tok_cons tok140 (tok_nil _)))))))))))))))))))))))))))))))))))))))))))))))))))))))
theorem mixed : Try.prog.follows .mixedOrders = true := by kernel_rfl
end Go.Proofs.Ytdoldlbcjcfmdaa
