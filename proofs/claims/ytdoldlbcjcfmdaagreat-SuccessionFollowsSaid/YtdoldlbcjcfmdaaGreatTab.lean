/-
  The table of types of this seat, as the abstract interpreter reads it, and that it is the program's.
-/
import Derived.Test.YtdoldlbcjcfmdaaGreatAbsPre
import Derived.Test.YtdoldlbcjcfmdaaGreatRows
import Derived.KernelRfl
namespace Go.Proofs.YtdoldlbcjcfmdaaGreat
open Go Go.Abs

def ti2 : TI := ⟨.int .i64, 1, 8, [.int .i64 0], false, []⟩
def ti3 : TI := ⟨.int .i64, 1, 8, [.int .i64 0], false, []⟩
def ti4 : TI := ⟨.bool, 1, 1, [.bool false], false, []⟩
def ti5 : TI := ⟨.int .u8, 1, 1, [.int .u8 0], false, []⟩
def ti6 : TI := ⟨.int .u8, 1, 1, [.int .u8 0], false, []⟩
def ti7 : TI := ⟨.struct #[⟨ "x", 2, 0, false, "", "runtime", 0⟩, ⟨ "y", 3, 1, false, "", "runtime", 8⟩, ⟨ "signed", 4, 2, false, "", "runtime", 16⟩, ⟨ "code", 6, 3, false, "", "runtime", 17⟩], 4, 24, [.int .i64 0, .int .i64 0, .bool false, .int .u8 0], true, []⟩
def ti8 : TI := ⟨.struct #[⟨ "x", 2, 0, false, "", "runtime", 0⟩, ⟨ "y", 3, 1, false, "", "runtime", 8⟩, ⟨ "signed", 4, 2, false, "", "runtime", 16⟩, ⟨ "code", 6, 3, false, "", "runtime", 17⟩], 4, 24, [.int .i64 0, .int .i64 0, .bool false, .int .u8 0], true, []⟩
def ti9 : TI := ⟨.string, 1, 16, [.string ⟨#[]⟩], false, []⟩
def ti10 : TI := ⟨.string, 1, 16, [.string ⟨#[]⟩], false, []⟩
def ti11 : TI := ⟨.string, 1, 16, [.string ⟨#[]⟩], false, []⟩
def ti12 : TI := ⟨.int .u64, 1, 8, [.int .u64 0], false, []⟩
def ti13 : TI := ⟨.struct #[⟨ "msg", 9, 0, false, "", "runtime", 0⟩, ⟨ "addr", 12, 1, false, "", "runtime", 16⟩], 2, 24, [.string ⟨#[]⟩, .int .u64 0], true, []⟩
def ti14 : TI := ⟨.struct #[⟨ "msg", 9, 0, false, "", "runtime", 0⟩, ⟨ "addr", 12, 1, false, "", "runtime", 16⟩], 2, 24, [.string ⟨#[]⟩, .int .u64 0], true, []⟩
def ti18 : TI := ⟨.struct #[⟨ "typ", 17, 0, false, "", "internal/runtime/maps", 0⟩], 1, 8, [.pointer none], true, []⟩
def ti19 : TI := ⟨.struct #[⟨ "typ", 17, 0, false, "", "internal/runtime/maps", 0⟩], 1, 8, [.pointer none], true, []⟩
def ti21 : TI := ⟨.int .i32, 1, 4, [.int .i32 0], false, []⟩
def ti22 : TI := ⟨.slice 45, 1, 24, [.slice none 0 0], false, [6]⟩
def ti25 : TI := ⟨.slice 3, 1, 24, [.slice none 0 0], false, [1]⟩
def ti26 : TI := ⟨.int .i64, 1, 8, [.int .i64 0], false, []⟩
def ti35 : TI := ⟨.slice 25, 1, 24, [.slice none 0 0], false, [1]⟩
def ti41 : TI := ⟨.struct #[⟨ "From", 3, 0, false, "", "", 0⟩, ⟨ "Until", 3, 1, false, "", "", 8⟩], 2, 16, [.int .i64 0, .int .i64 0], true, []⟩
def ti42 : TI := ⟨.struct #[⟨ "From", 3, 0, false, "", "", 0⟩, ⟨ "Until", 3, 1, false, "", "", 8⟩], 2, 16, [.int .i64 0, .int .i64 0], true, []⟩
def ti43 : TI := ⟨.slice 76, 1, 24, [.slice none 0 0], false, [3]⟩
def ti44 : TI := ⟨.struct #[⟨ "ID", 3, 0, false, "", "", 0⟩, ⟨ "Kind", 3, 1, false, "", "", 8⟩, ⟨ "In", 42, 2, false, "", "", 16⟩, ⟨ "Names", 43, 4, false, "", "", 32⟩, ⟨ "Next", 25, 5, false, "", "", 56⟩], 6, 80, [.int .i64 0, .int .i64 0, .int .i64 0, .int .i64 0, .slice none 0 0, .slice none 0 0], true, [0, 0, 0, 0, 3, 1]⟩
def ti45 : TI := ⟨.struct #[⟨ "ID", 3, 0, false, "", "", 0⟩, ⟨ "Kind", 3, 1, false, "", "", 8⟩, ⟨ "In", 42, 2, false, "", "", 16⟩, ⟨ "Names", 43, 4, false, "", "", 32⟩, ⟨ "Next", 25, 5, false, "", "", 56⟩], 6, 80, [.int .i64 0, .int .i64 0, .int .i64 0, .int .i64 0, .slice none 0 0, .slice none 0 0], true, [0, 0, 0, 0, 3, 1]⟩
def ti47 : TI := ⟨.func #[45] #[25] false, 1, 8, [.nilFunc], false, []⟩
def ti48 : TI := ⟨.struct #[⟨ "l", 22, 0, false, "", "archivum/succession", 0⟩, ⟨ "next", 47, 1, false, "", "archivum/succession", 24⟩], 2, 32, [.slice none 0 0, .nilFunc], true, [6]⟩
def ti49 : TI := ⟨.struct #[⟨ "l", 22, 0, false, "", "archivum/succession", 0⟩, ⟨ "next", 47, 1, false, "", "archivum/succession", 24⟩], 2, 32, [.slice none 0 0, .nilFunc], true, [6]⟩
def ti52 : TI := ⟨.func #[22, 3] #[26] false, 1, 8, [.nilFunc], false, []⟩
def ti15 : TI := ⟨.pointer 132, 1, 8, [.pointer none], false, []⟩
def ti16 : TI := ⟨.pointer 135, 1, 8, [.pointer none], false, []⟩
def ti17 : TI := ⟨.pointer 144, 1, 8, [.pointer none], false, []⟩
def ti63 : TI := ⟨.map 3 3, 1, 8, [.map none], false, []⟩
def ti75 : TI := ⟨.struct #[⟨ "Text", 9, 0, false, "", "", 0⟩, ⟨ "In", 42, 1, false, "", "", 16⟩], 3, 32, [.string ⟨#[]⟩, .int .i64 0, .int .i64 0], true, []⟩
def ti76 : TI := ⟨.struct #[⟨ "Text", 9, 0, false, "", "", 0⟩, ⟨ "In", 42, 1, false, "", "", 16⟩], 3, 32, [.string ⟨#[]⟩, .int .i64 0, .int .i64 0], true, []⟩
def ti82 : TI := ⟨.int .u64, 1, 8, [.int .u64 0], false, []⟩
def ti88 : TI := ⟨.slice 52, 1, 24, [.slice none 0 0], false, [1]⟩
def ti90 : TI := ⟨.int .i64, 1, 8, [.int .i64 0], false, []⟩
def ti98 : TI := ⟨.int .u32, 1, 4, [.int .u32 0], false, []⟩
def ti100 : TI := ⟨.int .u64, 1, 8, [.int .u64 0], false, []⟩
def ti108 : TI := ⟨.int .u64, 1, 8, [.int .u64 0], false, []⟩
def ti112 : TI := ⟨.pointer 3, 1, 8, [.pointer none], false, []⟩
def ti117 : TI := ⟨.pointer 108, 1, 8, [.pointer none], false, []⟩
def ti131 : TI := ⟨.struct #[⟨ "_interface", 17, 0, false, "", "runtime", 0⟩, ⟨ "concrete", 17, 1, false, "", "runtime", 8⟩, ⟨ "asserted", 17, 2, false, "", "runtime", 16⟩, ⟨ "missingMethod", 9, 3, false, "", "runtime", 24⟩], 4, 40, [.pointer none, .pointer none, .pointer none, .string ⟨#[]⟩], true, []⟩
def ti132 : TI := ⟨.struct #[⟨ "_interface", 17, 0, false, "", "runtime", 0⟩, ⟨ "concrete", 17, 1, false, "", "runtime", 8⟩, ⟨ "asserted", 17, 2, false, "", "runtime", 16⟩, ⟨ "missingMethod", 9, 3, false, "", "runtime", 24⟩], 4, 40, [.pointer none, .pointer none, .pointer none, .string ⟨#[]⟩], true, []⟩
def ti133 : TI := ⟨.array 0 16, 0, 0, [], true, []⟩
def ti134 : TI := ⟨.struct #[⟨ "_", 133, 0, false, "", "runtime", 0⟩], 0, 0, [], true, []⟩
def ti135 : TI := ⟨.struct #[⟨ "_", 133, 0, false, "", "runtime", 0⟩], 0, 0, [], true, []⟩
def ti137 : TI := ⟨.int .u8, 1, 1, [.int .u8 0], false, []⟩
def ti138 : TI := ⟨.int .u8, 1, 1, [.int .u8 0], false, []⟩
def ti140 : TI := ⟨.pointer 5, 1, 8, [.pointer none], false, []⟩
def ti141 : TI := ⟨.int .i32, 1, 4, [.int .i32 0], false, []⟩
def ti142 : TI := ⟨.int .i32, 1, 4, [.int .i32 0], false, []⟩
def ti143 : TI := ⟨.struct #[⟨ "Size_", 12, 0, false, "", "", 0⟩, ⟨ "PtrBytes", 12, 1, false, "", "", 8⟩, ⟨ "Hash", 98, 2, false, "", "", 16⟩, ⟨ "TFlag", 137, 3, false, "", "", 20⟩, ⟨ "Align_", 5, 4, false, "", "", 21⟩, ⟨ "FieldAlign_", 5, 5, false, "", "", 22⟩, ⟨ "Kind_", 138, 6, false, "", "", 23⟩, ⟨ "Equal", 139, 7, false, "", "", 24⟩, ⟨ "GCData", 140, 8, false, "", "", 32⟩, ⟨ "Str", 141, 9, false, "", "", 40⟩, ⟨ "PtrToThis", 142, 10, false, "", "", 44⟩], 11, 48, [.int .u64 0, .int .u64 0, .int .u32 0, .int .u8 0, .int .u8 0, .int .u8 0, .int .u8 0, .nilFunc, .pointer none, .int .i32 0, .int .i32 0], true, []⟩
def ti144 : TI := ⟨.struct #[⟨ "Size_", 12, 0, false, "", "", 0⟩, ⟨ "PtrBytes", 12, 1, false, "", "", 8⟩, ⟨ "Hash", 98, 2, false, "", "", 16⟩, ⟨ "TFlag", 137, 3, false, "", "", 20⟩, ⟨ "Align_", 5, 4, false, "", "", 21⟩, ⟨ "FieldAlign_", 5, 5, false, "", "", 22⟩, ⟨ "Kind_", 138, 6, false, "", "", 23⟩, ⟨ "Equal", 139, 7, false, "", "", 24⟩, ⟨ "GCData", 140, 8, false, "", "", 32⟩, ⟨ "Str", 141, 9, false, "", "", 40⟩, ⟨ "PtrToThis", 142, 10, false, "", "", 44⟩], 11, 48, [.int .u64 0, .int .u64 0, .int .u32 0, .int .u8 0, .int .u8 0, .int .u8 0, .int .u8 0, .nilFunc, .pointer none, .int .i32 0, .int .i32 0], true, []⟩

def tab : Tab := [(2, ti2), (3, ti3), (4, ti4), (5, ti5), (6, ti6), (7, ti7), (8, ti8), (9, ti9), (10, ti10), (11, ti11), (12, ti12), (13, ti13), (14, ti14), (18, ti18), (19, ti19), (21, ti21), (22, ti22), (25, ti25), (26, ti26), (35, ti35), (41, ti41), (42, ti42), (43, ti43), (44, ti44), (45, ti45), (47, ti47), (48, ti48), (49, ti49), (52, ti52), (15, ti15), (16, ti16), (17, ti17), (63, ti63), (75, ti75), (76, ti76), (82, ti82), (88, ti88), (90, ti90), (98, ti98), (100, ti100), (108, ti108), (112, ti112), (117, ti117), (131, ti131), (132, ti132), (133, ti133), (134, ti134), (135, ti135), (137, ti137), (138, ti138), (140, ti140), (141, ti141), (142, ti142), (143, ti143), (144, ti144)]

theorem tok2 : TOk1 Tryz.prog 2 ti2 := ⟨by kernel_rfl, by kernel_rfl, by kernel_rfl, rfl, rfl, rfl, by decide⟩
theorem tok3 : TOk1 Tryz.prog 3 ti3 := ⟨by kernel_rfl, by kernel_rfl, by kernel_rfl, rfl, rfl, rfl, by decide⟩
theorem tok4 : TOk1 Tryz.prog 4 ti4 := ⟨by kernel_rfl, by kernel_rfl, by kernel_rfl, rfl, rfl, rfl, by decide⟩
theorem tok5 : TOk1 Tryz.prog 5 ti5 := ⟨by kernel_rfl, by kernel_rfl, by kernel_rfl, rfl, rfl, rfl, by decide⟩
theorem tok6 : TOk1 Tryz.prog 6 ti6 := ⟨by kernel_rfl, by kernel_rfl, by kernel_rfl, rfl, rfl, rfl, by decide⟩
theorem tok7 : TOk1 Tryz.prog 7 ti7 := ⟨by kernel_rfl, by kernel_rfl, by kernel_rfl, rfl, rfl, rfl, by decide⟩
theorem tok8 : TOk1 Tryz.prog 8 ti8 := ⟨by kernel_rfl, by kernel_rfl, by kernel_rfl, rfl, rfl, rfl, by decide⟩
theorem tok9 : TOk1 Tryz.prog 9 ti9 := ⟨by kernel_rfl, by kernel_rfl, by kernel_rfl, rfl, rfl, rfl, by decide⟩
theorem tok10 : TOk1 Tryz.prog 10 ti10 := ⟨by kernel_rfl, by kernel_rfl, by kernel_rfl, rfl, rfl, rfl, by decide⟩
theorem tok11 : TOk1 Tryz.prog 11 ti11 := ⟨by kernel_rfl, by kernel_rfl, by kernel_rfl, rfl, rfl, rfl, by decide⟩
theorem tok12 : TOk1 Tryz.prog 12 ti12 := ⟨by kernel_rfl, by kernel_rfl, by kernel_rfl, rfl, rfl, rfl, by decide⟩
theorem tok13 : TOk1 Tryz.prog 13 ti13 := ⟨by kernel_rfl, by kernel_rfl, by kernel_rfl, rfl, rfl, rfl, by decide⟩
theorem tok14 : TOk1 Tryz.prog 14 ti14 := ⟨by kernel_rfl, by kernel_rfl, by kernel_rfl, rfl, rfl, rfl, by decide⟩
theorem tok18 : TOk1 Tryz.prog 18 ti18 := ⟨by kernel_rfl, by kernel_rfl, by kernel_rfl, rfl, rfl, rfl, by decide⟩
theorem tok19 : TOk1 Tryz.prog 19 ti19 := ⟨by kernel_rfl, by kernel_rfl, by kernel_rfl, rfl, rfl, rfl, by decide⟩
theorem tok21 : TOk1 Tryz.prog 21 ti21 := ⟨by kernel_rfl, by kernel_rfl, by kernel_rfl, rfl, rfl, rfl, by decide⟩
theorem tok22 : TOk1 Tryz.prog 22 ti22 := ⟨by kernel_rfl, by kernel_rfl, by kernel_rfl, rfl, rfl, rfl, by decide⟩
theorem tok25 : TOk1 Tryz.prog 25 ti25 := ⟨by kernel_rfl, by kernel_rfl, by kernel_rfl, rfl, rfl, rfl, by decide⟩
theorem tok26 : TOk1 Tryz.prog 26 ti26 := ⟨by kernel_rfl, by kernel_rfl, by kernel_rfl, rfl, rfl, rfl, by decide⟩
theorem tok35 : TOk1 Tryz.prog 35 ti35 := ⟨by kernel_rfl, by kernel_rfl, by kernel_rfl, rfl, rfl, rfl, by decide⟩
theorem tok41 : TOk1 Tryz.prog 41 ti41 := ⟨by kernel_rfl, by kernel_rfl, by kernel_rfl, rfl, rfl, rfl, by decide⟩
theorem tok42 : TOk1 Tryz.prog 42 ti42 := ⟨by kernel_rfl, by kernel_rfl, by kernel_rfl, rfl, rfl, rfl, by decide⟩
theorem tok43 : TOk1 Tryz.prog 43 ti43 := ⟨by kernel_rfl, by kernel_rfl, by kernel_rfl, rfl, rfl, rfl, by decide⟩
theorem tok44 : TOk1 Tryz.prog 44 ti44 := ⟨by kernel_rfl, by kernel_rfl, by kernel_rfl, rfl, rfl, rfl, by decide⟩
theorem tok45 : TOk1 Tryz.prog 45 ti45 := ⟨by kernel_rfl, by kernel_rfl, by kernel_rfl, rfl, rfl, rfl, by decide⟩
theorem tok47 : TOk1 Tryz.prog 47 ti47 := ⟨by kernel_rfl, by kernel_rfl, by kernel_rfl, rfl, rfl, rfl, by decide⟩
theorem tok48 : TOk1 Tryz.prog 48 ti48 := ⟨by kernel_rfl, by kernel_rfl, by kernel_rfl, rfl, rfl, rfl, by decide⟩
theorem tok49 : TOk1 Tryz.prog 49 ti49 := ⟨by kernel_rfl, by kernel_rfl, by kernel_rfl, rfl, rfl, rfl, by decide⟩
theorem tok52 : TOk1 Tryz.prog 52 ti52 := ⟨by kernel_rfl, by kernel_rfl, by kernel_rfl, rfl, rfl, rfl, by decide⟩
theorem tok15 : TOk1 Tryz.prog 15 ti15 := ⟨by kernel_rfl, by kernel_rfl, by kernel_rfl, rfl, rfl, rfl, by decide⟩
theorem tok16 : TOk1 Tryz.prog 16 ti16 := ⟨by kernel_rfl, by kernel_rfl, by kernel_rfl, rfl, rfl, rfl, by decide⟩
theorem tok17 : TOk1 Tryz.prog 17 ti17 := ⟨by kernel_rfl, by kernel_rfl, by kernel_rfl, rfl, rfl, rfl, by decide⟩
theorem tok63 : TOk1 Tryz.prog 63 ti63 := ⟨by kernel_rfl, by kernel_rfl, by kernel_rfl, rfl, rfl, rfl, by decide⟩
theorem tok75 : TOk1 Tryz.prog 75 ti75 := ⟨by kernel_rfl, by kernel_rfl, by kernel_rfl, rfl, rfl, rfl, by decide⟩
theorem tok76 : TOk1 Tryz.prog 76 ti76 := ⟨by kernel_rfl, by kernel_rfl, by kernel_rfl, rfl, rfl, rfl, by decide⟩
theorem tok82 : TOk1 Tryz.prog 82 ti82 := ⟨by kernel_rfl, by kernel_rfl, by kernel_rfl, rfl, rfl, rfl, by decide⟩
theorem tok88 : TOk1 Tryz.prog 88 ti88 := ⟨by kernel_rfl, by kernel_rfl, by kernel_rfl, rfl, rfl, rfl, by decide⟩
theorem tok90 : TOk1 Tryz.prog 90 ti90 := ⟨by kernel_rfl, by kernel_rfl, by kernel_rfl, rfl, rfl, rfl, by decide⟩
theorem tok98 : TOk1 Tryz.prog 98 ti98 := ⟨by kernel_rfl, by kernel_rfl, by kernel_rfl, rfl, rfl, rfl, by decide⟩
theorem tok100 : TOk1 Tryz.prog 100 ti100 := ⟨by kernel_rfl, by kernel_rfl, by kernel_rfl, rfl, rfl, rfl, by decide⟩
theorem tok108 : TOk1 Tryz.prog 108 ti108 := ⟨by kernel_rfl, by kernel_rfl, by kernel_rfl, rfl, rfl, rfl, by decide⟩
theorem tok112 : TOk1 Tryz.prog 112 ti112 := ⟨by kernel_rfl, by kernel_rfl, by kernel_rfl, rfl, rfl, rfl, by decide⟩
theorem tok117 : TOk1 Tryz.prog 117 ti117 := ⟨by kernel_rfl, by kernel_rfl, by kernel_rfl, rfl, rfl, rfl, by decide⟩
theorem tok131 : TOk1 Tryz.prog 131 ti131 := ⟨by kernel_rfl, by kernel_rfl, by kernel_rfl, rfl, rfl, rfl, by decide⟩
theorem tok132 : TOk1 Tryz.prog 132 ti132 := ⟨by kernel_rfl, by kernel_rfl, by kernel_rfl, rfl, rfl, rfl, by decide⟩
theorem tok133 : TOk1 Tryz.prog 133 ti133 := ⟨by kernel_rfl, by kernel_rfl, by kernel_rfl, rfl, rfl, rfl, by decide⟩
theorem tok134 : TOk1 Tryz.prog 134 ti134 := ⟨by kernel_rfl, by kernel_rfl, by kernel_rfl, rfl, rfl, rfl, by decide⟩
theorem tok135 : TOk1 Tryz.prog 135 ti135 := ⟨by kernel_rfl, by kernel_rfl, by kernel_rfl, rfl, rfl, rfl, by decide⟩
theorem tok137 : TOk1 Tryz.prog 137 ti137 := ⟨by kernel_rfl, by kernel_rfl, by kernel_rfl, rfl, rfl, rfl, by decide⟩
theorem tok138 : TOk1 Tryz.prog 138 ti138 := ⟨by kernel_rfl, by kernel_rfl, by kernel_rfl, rfl, rfl, rfl, by decide⟩
theorem tok140 : TOk1 Tryz.prog 140 ti140 := ⟨by kernel_rfl, by kernel_rfl, by kernel_rfl, rfl, rfl, rfl, by decide⟩
theorem tok141 : TOk1 Tryz.prog 141 ti141 := ⟨by kernel_rfl, by kernel_rfl, by kernel_rfl, rfl, rfl, rfl, by decide⟩
theorem tok142 : TOk1 Tryz.prog 142 ti142 := ⟨by kernel_rfl, by kernel_rfl, by kernel_rfl, rfl, rfl, rfl, by decide⟩
theorem tok143 : TOk1 Tryz.prog 143 ti143 := ⟨by kernel_rfl, by kernel_rfl, by kernel_rfl, rfl, rfl, rfl, by decide⟩
theorem tok144 : TOk1 Tryz.prog 144 ti144 := ⟨by kernel_rfl, by kernel_rfl, by kernel_rfl, rfl, rfl, rfl, by decide⟩
theorem tabOk : TOk Tryz.prog tab :=
  tok_cons tok2 (tok_cons tok3 (tok_cons tok4 (tok_cons tok5 (tok_cons tok6 (tok_cons tok7 (tok_cons tok8 (tok_cons tok9 (tok_cons tok10 (tok_cons tok11 (tok_cons tok12 (tok_cons tok13 (tok_cons tok14 (tok_cons tok18 (tok_cons tok19 (tok_cons tok21 (tok_cons tok22 (tok_cons tok25 (tok_cons tok26 (tok_cons tok35 (tok_cons tok41 (tok_cons tok42 (tok_cons tok43 (tok_cons tok44 (tok_cons tok45 (tok_cons tok47 (tok_cons tok48 (tok_cons tok49 (tok_cons tok52 (tok_cons tok15 (tok_cons tok16 (tok_cons tok17 (tok_cons tok63 (tok_cons tok75 (tok_cons tok76 (tok_cons tok82 (tok_cons tok88 (tok_cons tok90 (tok_cons tok98 (tok_cons tok100 (tok_cons tok108 (tok_cons tok112 (tok_cons tok117 (tok_cons tok131 (tok_cons tok132 (tok_cons tok133 (tok_cons tok134 (tok_cons tok135 (tok_cons tok137 (tok_cons tok138 (tok_cons tok140 (tok_cons tok141 (tok_cons tok142 (tok_cons tok143 (tok_cons tok144 (tok_nil _)))))))))))))))))))))))))))))))))))))))))))))))))))))))
theorem mixed : Tryz.prog.follows .mixedOrders = true := by kernel_rfl
end Go.Proofs.YtdoldlbcjcfmdaaGreat
