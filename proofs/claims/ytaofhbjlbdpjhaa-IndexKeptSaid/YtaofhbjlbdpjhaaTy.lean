/- The types and the functions of the translation, as the walk asks for them. (Laid by a program: wip/tools/mkty.py.) -/
import Derived.Test.YtaofhbjlbdpjhaaChecked
import Derived.KernelRfl
import Derived.Test.YtaofhbjlbdpjhaaSlA
set_option linter.unusedVariables false
set_option linter.unusedSimpArgs false
namespace Go.Proofs.Ytaofhbjlbdpjhaa
open Go Go.Sl
set_option maxRecDepth 100000
def T : List (Nat × TI) := [
  (0, ⟨.tuple #[], .tuple #[], 1, 0⟩),
  (1, ⟨.func #[] #[] false, .nilFunc, 1, 8⟩),
  (2, ⟨.int .i64, .int .i64 0, 1, 8⟩),
  (3, ⟨.int .i64, .int .i64 0, 1, 8⟩),
  (4, ⟨.bool, .bool false, 1, 1⟩),
  (5, ⟨.int .u8, .int .u8 0, 1, 1⟩),
  (6, ⟨.int .u8, .int .u8 0, 1, 1⟩),
  (7, ⟨.struct #[{ name := "x", type := 2, offset := 0, embedded := false, tag := "", pkgPath := "runtime", byteOffset := 0 }, { name := "y", type := 3, offset := 1, embedded := false, tag := "", pkgPath := "runtime", byteOffset := 8 }, { name := "signed", type := 4, offset := 2, embedded := false, tag := "", pkgPath := "runtime", byteOffset := 16 }, { name := "code", type := 6, offset := 3, embedded := false, tag := "", pkgPath := "runtime", byteOffset := 17 }], .agg #[.int .i64 0, .int .i64 0, .bool false, .int .u8 0], 4, 24⟩),
  (8, ⟨.struct #[{ name := "x", type := 2, offset := 0, embedded := false, tag := "", pkgPath := "runtime", byteOffset := 0 }, { name := "y", type := 3, offset := 1, embedded := false, tag := "", pkgPath := "runtime", byteOffset := 8 }, { name := "signed", type := 4, offset := 2, embedded := false, tag := "", pkgPath := "runtime", byteOffset := 16 }, { name := "code", type := 6, offset := 3, embedded := false, tag := "", pkgPath := "runtime", byteOffset := 17 }], .agg #[.int .i64 0, .int .i64 0, .bool false, .int .u8 0], 4, 24⟩),
  (9, ⟨.string, .string .empty, 1, 16⟩),
  (10, ⟨.string, .string .empty, 1, 16⟩),
  (11, ⟨.string, .string .empty, 1, 16⟩),
  (12, ⟨.int .u64, .int .u64 0, 1, 8⟩),
  (13, ⟨.struct #[{ name := "msg", type := 9, offset := 0, embedded := false, tag := "", pkgPath := "runtime", byteOffset := 0 }, { name := "addr", type := 12, offset := 1, embedded := false, tag := "", pkgPath := "runtime", byteOffset := 16 }], .agg #[.string .empty, .int .u64 0], 2, 24⟩),
  (14, ⟨.struct #[{ name := "msg", type := 9, offset := 0, embedded := false, tag := "", pkgPath := "runtime", byteOffset := 0 }, { name := "addr", type := 12, offset := 1, embedded := false, tag := "", pkgPath := "runtime", byteOffset := 16 }], .agg #[.string .empty, .int .u64 0], 2, 24⟩),
  (15, ⟨.pointer 160, .pointer none, 1, 8⟩),
  (16, ⟨.pointer 163, .pointer none, 1, 8⟩),
  (17, ⟨.pointer 171, .pointer none, 1, 8⟩),
  (18, ⟨.struct #[{ name := "typ",   type := 17,   offset := 0,   embedded := false,   tag := "",   pkgPath := "internal/runtime/maps",   byteOffset := 0 }], .agg #[.pointer none], 1, 8⟩),
  (19, ⟨.struct #[{ name := "typ",   type := 17,   offset := 0,   embedded := false,   tag := "",   pkgPath := "internal/runtime/maps",   byteOffset := 0 }], .agg #[.pointer none], 1, 8⟩),
  (21, ⟨.int .i32, .int .i32 0, 1, 4⟩),
  (22, ⟨.slice 32, .slice none 0 0, 1, 24⟩),
  (23, ⟨.func #[22] #[22] false, .nilFunc, 1, 8⟩),
  (24, ⟨.pointer 109, .pointer none, 1, 8⟩),
  (25, ⟨.func #[22] #[24] false, .nilFunc, 1, 8⟩),
  (26, ⟨.func #[] #[3] false, .nilFunc, 1, 8⟩),
  (27, ⟨.func #[106] #[] false, .nilFunc, 1, 8⟩),
  (28, ⟨.func #[106] #[] false, .nilFunc, 1, 8⟩),
  (29, ⟨.func #[] #[28] false, .nilFunc, 1, 8⟩),
  (30, ⟨.func #[3, 3] #[28] false, .nilFunc, 1, 8⟩),
  (31, ⟨.struct #[{ name := "Key", type := 3, offset := 0, embedded := false, tag := "", pkgPath := "", byteOffset := 0 }, { name := "Val", type := 3, offset := 1, embedded := false, tag := "", pkgPath := "", byteOffset := 8 }], .agg #[.int .i64 0, .int .i64 0], 2, 16⟩),
  (32, ⟨.struct #[{ name := "Key", type := 3, offset := 0, embedded := false, tag := "", pkgPath := "", byteOffset := 0 }, { name := "Val", type := 3, offset := 1, embedded := false, tag := "", pkgPath := "", byteOffset := 8 }], .agg #[.int .i64 0, .int .i64 0], 2, 16⟩),
  (33, ⟨.func #[22, 22] #[4] false, .nilFunc, 1, 8⟩),
  (34, ⟨.func #[22, 3] #[4] false, .nilFunc, 1, 8⟩),
  (35, ⟨.slice 46, .slice none 0 0, 1, 24⟩),
  (36, ⟨.func #[] #[24] false, .nilFunc, 1, 8⟩),
  (37, ⟨.slice 24, .slice none 0 0, 1, 24⟩),
  (38, ⟨.func #[3, 3] #[] false, .nilFunc, 1, 8⟩),
  (39, ⟨.slice 22, .slice none 0 0, 1, 24⟩),
  (40, ⟨.pointer 44, .pointer none, 1, 8⟩),
  (41, ⟨.slice 42, .slice none 0 0, 1, 24⟩),
  (42, ⟨.slice 3, .slice none 0 0, 1, 24⟩),
  (43, ⟨.struct #[{ name := "Lists", type := 41, offset := 0, embedded := false, tag := "", pkgPath := "", byteOffset := 0 }, { name := "Marks", type := 42, offset := 1, embedded := false, tag := "", pkgPath := "", byteOffset := 24 }], .agg #[.slice none 0 0, .slice none 0 0], 2, 48⟩),
  (44, ⟨.struct #[{ name := "Lists", type := 41, offset := 0, embedded := false, tag := "", pkgPath := "", byteOffset := 0 }, { name := "Marks", type := 42, offset := 1, embedded := false, tag := "", pkgPath := "", byteOffset := 24 }], .agg #[.slice none 0 0, .slice none 0 0], 2, 48⟩),
  (45, ⟨.struct #[{ name := "Kind", type := 3, offset := 0, embedded := false, tag := "", pkgPath := "", byteOffset := 0 }, { name := "Obj", type := 3, offset := 1, embedded := false, tag := "", pkgPath := "", byteOffset := 8 }, { name := "Key", type := 3, offset := 2, embedded := false, tag := "", pkgPath := "", byteOffset := 16 }, { name := "Val", type := 3, offset := 3, embedded := false, tag := "", pkgPath := "", byteOffset := 24 }, { name := "Hi", type := 3, offset := 4, embedded := false, tag := "", pkgPath := "", byteOffset := 32 }, { name := "Stop", type := 3, offset := 5, embedded := false, tag := "", pkgPath := "", byteOffset := 40 }], .agg #[.int .i64 0, .int .i64 0, .int .i64 0, .int .i64 0, .int .i64 0, .int .i64 0], 6, 48⟩),
  (46, ⟨.struct #[{ name := "Kind", type := 3, offset := 0, embedded := false, tag := "", pkgPath := "", byteOffset := 0 }, { name := "Obj", type := 3, offset := 1, embedded := false, tag := "", pkgPath := "", byteOffset := 8 }, { name := "Key", type := 3, offset := 2, embedded := false, tag := "", pkgPath := "", byteOffset := 16 }, { name := "Val", type := 3, offset := 3, embedded := false, tag := "", pkgPath := "", byteOffset := 24 }, { name := "Hi", type := 3, offset := 4, embedded := false, tag := "", pkgPath := "", byteOffset := 32 }, { name := "Stop", type := 3, offset := 5, embedded := false, tag := "", pkgPath := "", byteOffset := 40 }], .agg #[.int .i64 0, .int .i64 0, .int .i64 0, .int .i64 0, .int .i64 0, .int .i64 0], 6, 48⟩),
  (47, ⟨.func #[3] #[42] false, .nilFunc, 1, 8⟩),
  (48, ⟨.func #[42, 42] #[4] false, .nilFunc, 1, 8⟩),
  (49, ⟨.func #[22, 3] #[42] false, .nilFunc, 1, 8⟩),
  (50, ⟨.func #[42] #[] false, .nilFunc, 1, 8⟩),
  (51, ⟨.func #[] #[42] false, .nilFunc, 1, 8⟩),
  (52, ⟨.func #[22] #[42] false, .nilFunc, 1, 8⟩),
  (54, ⟨.func #[22, 3] #[22, 3] false, .nilFunc, 1, 8⟩),
  (55, ⟨.func #[3] #[3] false, .nilFunc, 1, 8⟩),
  (57, ⟨.func #[24, 46] #[22, 4] false, .nilFunc, 1, 8⟩),
  (59, ⟨.func #[22, 46] #[22, 22] false, .nilFunc, 1, 8⟩),
  (60, ⟨.func #[] #[4] false, .nilFunc, 1, 8⟩),
  (61, ⟨.func #[35] #[4] false, .nilFunc, 1, 8⟩),
  (62, ⟨.pointer 114, .pointer none, 1, 8⟩),
  (63, ⟨.func #[] #[62] false, .nilFunc, 1, 8⟩),
  (64, ⟨.func #[3, 9] #[] false, .nilFunc, 1, 8⟩),
  (65, ⟨.func #[3] #[9] false, .nilFunc, 1, 8⟩),
  (66, ⟨.slice 9, .slice none 0 0, 1, 24⟩),
  (67, ⟨.func #[3] #[66] false, .nilFunc, 1, 8⟩),
  (68, ⟨.func #[134] #[] false, .nilFunc, 1, 8⟩),
  (69, ⟨.func #[134] #[] false, .nilFunc, 1, 8⟩),
  (70, ⟨.func #[] #[69] false, .nilFunc, 1, 8⟩),
  (71, ⟨.slice 78, .slice none 0 0, 1, 24⟩),
  (72, ⟨.pointer 74, .pointer none, 1, 8⟩),
  (73, ⟨.struct #[{ name := "M", type := 24, offset := 0, embedded := false, tag := "", pkgPath := "", byteOffset := 0 }, { name := "All", type := 4, offset := 1, embedded := false, tag := "", pkgPath := "", byteOffset := 8 }, { name := "Lo", type := 3, offset := 2, embedded := false, tag := "", pkgPath := "", byteOffset := 16 }, { name := "Hi", type := 3, offset := 3, embedded := false, tag := "", pkgPath := "", byteOffset := 24 }, { name := "Now", type := 22, offset := 4, embedded := false, tag := "", pkgPath := "", byteOffset := 32 }], .agg #[.pointer none, .bool false, .int .i64 0, .int .i64 0, .slice none 0 0], 5, 56⟩),
  (74, ⟨.struct #[{ name := "M", type := 24, offset := 0, embedded := false, tag := "", pkgPath := "", byteOffset := 0 }, { name := "All", type := 4, offset := 1, embedded := false, tag := "", pkgPath := "", byteOffset := 8 }, { name := "Lo", type := 3, offset := 2, embedded := false, tag := "", pkgPath := "", byteOffset := 16 }, { name := "Hi", type := 3, offset := 3, embedded := false, tag := "", pkgPath := "", byteOffset := 24 }, { name := "Now", type := 22, offset := 4, embedded := false, tag := "", pkgPath := "", byteOffset := 32 }], .agg #[.pointer none, .bool false, .int .i64 0, .int .i64 0, .slice none 0 0], 5, 56⟩),
  (75, ⟨.func #[24, 22] #[4] false, .nilFunc, 1, 8⟩),
  (76, ⟨.func #[] #[22] false, .nilFunc, 1, 8⟩),
  (77, ⟨.struct #[{ name := "At", type := 3, offset := 0, embedded := false, tag := "", pkgPath := "", byteOffset := 0 }, { name := "Kind", type := 3, offset := 1, embedded := false, tag := "", pkgPath := "", byteOffset := 8 }, { name := "Key", type := 3, offset := 2, embedded := false, tag := "", pkgPath := "", byteOffset := 16 }, { name := "Val", type := 3, offset := 3, embedded := false, tag := "", pkgPath := "", byteOffset := 24 }, { name := "Stop", type := 3, offset := 4, embedded := false, tag := "", pkgPath := "", byteOffset := 32 }], .agg #[.int .i64 0, .int .i64 0, .int .i64 0, .int .i64 0, .int .i64 0], 5, 40⟩),
  (78, ⟨.struct #[{ name := "At", type := 3, offset := 0, embedded := false, tag := "", pkgPath := "", byteOffset := 0 }, { name := "Kind", type := 3, offset := 1, embedded := false, tag := "", pkgPath := "", byteOffset := 8 }, { name := "Key", type := 3, offset := 2, embedded := false, tag := "", pkgPath := "", byteOffset := 16 }, { name := "Val", type := 3, offset := 3, embedded := false, tag := "", pkgPath := "", byteOffset := 24 }, { name := "Stop", type := 3, offset := 4, embedded := false, tag := "", pkgPath := "", byteOffset := 32 }], .agg #[.int .i64 0, .int .i64 0, .int .i64 0, .int .i64 0, .int .i64 0], 5, 40⟩),
  (79, ⟨.func #[27, 78] #[4] false, .nilFunc, 1, 8⟩),
  (80, ⟨.func #[22, 4, 3, 3, 71, 3] #[4] false, .nilFunc, 1, 8⟩),
  (81, ⟨.slice 5, .slice none 0 0, 1, 24⟩),
  (82, ⟨.int .i64, .int .i64 0, 1, 8⟩),
  (84, ⟨.func #[24] #[81, 82] false, .nilFunc, 1, 8⟩),
  (86, ⟨.func #[22] #[81, 3] false, .nilFunc, 1, 8⟩),
  (87, ⟨.func #[81, 81] #[4] false, .nilFunc, 1, 8⟩),
  (88, ⟨.pointer 91, .pointer none, 1, 8⟩),
  (89, ⟨.slice 81, .slice none 0 0, 1, 24⟩),
  (90, ⟨.struct #[{ name := "Lists", type := 89, offset := 0, embedded := false, tag := "", pkgPath := "", byteOffset := 0 }, { name := "Marks", type := 81, offset := 1, embedded := false, tag := "", pkgPath := "", byteOffset := 24 }], .agg #[.slice none 0 0, .slice none 0 0], 2, 48⟩),
  (91, ⟨.struct #[{ name := "Lists", type := 89, offset := 0, embedded := false, tag := "", pkgPath := "", byteOffset := 0 }, { name := "Marks", type := 81, offset := 1, embedded := false, tag := "", pkgPath := "", byteOffset := 24 }], .agg #[.slice none 0 0, .slice none 0 0], 2, 48⟩),
  (92, ⟨.func #[81] #[] false, .nilFunc, 1, 8⟩),
  (93, ⟨.func #[22] #[4] false, .nilFunc, 1, 8⟩),
  (95, ⟨.func #[81] #[24, 82] false, .nilFunc, 1, 8⟩),
  (96, ⟨.func #[81] #[22, 3] false, .nilFunc, 1, 8⟩),
  (97, ⟨.func #[81] #[81] false, .nilFunc, 1, 8⟩),
  (98, ⟨.func #[81] #[4] false, .nilFunc, 1, 8⟩),
  (99, ⟨.slice 100, .slice none 0 0, 1, 24⟩),
  (100, ⟨.array 2 3, .agg #[.int .i64 0, .int .i64 0], 2, 16⟩),
  (101, ⟨.func #[81, 99] #[4] false, .nilFunc, 1, 8⟩),
  (102, ⟨.int .u64, .int .u64 0, 1, 8⟩),
  (103, ⟨.func #[22, 42] #[4] false, .nilFunc, 1, 8⟩),
  (104, ⟨.func #[41, 89] #[4] false, .nilFunc, 1, 8⟩),
  (105, ⟨.func #[24, 3, 3, 3] #[4] false, .nilFunc, 1, 8⟩),
  (106, ⟨.func #[3, 3] #[4] false, .nilFunc, 1, 8⟩),
  (107, ⟨.map 3 42, .map none, 1, 8⟩),
  (108, ⟨.struct #[{ name := "by", type := 107, offset := 0, embedded := false, tag := "", pkgPath := "annals/index", byteOffset := 0 }, { name := "len", type := 3, offset := 1, embedded := false, tag := "", pkgPath := "annals/index", byteOffset := 8 }], .agg #[.map none, .int .i64 0], 2, 16⟩),
  (109, ⟨.struct #[{ name := "by", type := 107, offset := 0, embedded := false, tag := "", pkgPath := "annals/index", byteOffset := 0 }, { name := "len", type := 3, offset := 1, embedded := false, tag := "", pkgPath := "annals/index", byteOffset := 8 }], .agg #[.map none, .int .i64 0], 2, 16⟩),
  (110, ⟨.func #[42] #[42] false, .nilFunc, 1, 8⟩),
  (111, ⟨.func #[22, 3, 3] #[22] false, .nilFunc, 1, 8⟩),
  (112, ⟨.map 3 66, .map none, 1, 8⟩),
  (113, ⟨.struct #[{ name := "by", type := 112, offset := 0, embedded := false, tag := "", pkgPath := "annals/index", byteOffset := 0 }, { name := "len", type := 3, offset := 1, embedded := false, tag := "", pkgPath := "annals/index", byteOffset := 8 }], .agg #[.map none, .int .i64 0], 2, 16⟩),
  (114, ⟨.struct #[{ name := "by", type := 112, offset := 0, embedded := false, tag := "", pkgPath := "annals/index", byteOffset := 0 }, { name := "len", type := 3, offset := 1, embedded := false, tag := "", pkgPath := "annals/index", byteOffset := 8 }], .agg #[.map none, .int .i64 0], 2, 16⟩),
  (115, ⟨.func #[66] #[66] false, .nilFunc, 1, 8⟩),
  (116, ⟨.func #[3, 3] #[69] false, .nilFunc, 1, 8⟩),
  (117, ⟨.func #[118] #[81] false, .nilFunc, 1, 8⟩),
  (118, ⟨.int .u64, .int .u64 0, 1, 8⟩),
  (120, ⟨.func #[81, 3] #[118, 3, 82] false, .nilFunc, 1, 8⟩),
  (121, ⟨.pointer 123, .pointer none, 1, 8⟩),
  (122, ⟨.struct #[{ name := "b", type := 81, offset := 0, embedded := false, tag := "", pkgPath := "annals/index", byteOffset := 0 }, { name := "at", type := 3, offset := 1, embedded := false, tag := "", pkgPath := "annals/index", byteOffset := 24 }, { name := "err", type := 82, offset := 2, embedded := false, tag := "", pkgPath := "annals/index", byteOffset := 32 }], .agg #[.slice none 0 0, .int .i64 0, .int .i64 0], 3, 40⟩),
  (123, ⟨.struct #[{ name := "b", type := 81, offset := 0, embedded := false, tag := "", pkgPath := "annals/index", byteOffset := 0 }, { name := "at", type := 3, offset := 1, embedded := false, tag := "", pkgPath := "annals/index", byteOffset := 24 }, { name := "err", type := 82, offset := 2, embedded := false, tag := "", pkgPath := "annals/index", byteOffset := 32 }], .agg #[.slice none 0 0, .int .i64 0, .int .i64 0], 3, 40⟩),
  (124, ⟨.func #[118, 118, 82] #[3] false, .nilFunc, 1, 8⟩),
  (125, ⟨.pointer 127, .pointer none, 1, 8⟩),
  (126, ⟨.struct #[{ name := "b", type := 81, offset := 0, embedded := false, tag := "", pkgPath := "annals/annalsref5", byteOffset := 0 }, { name := "at", type := 3, offset := 1, embedded := false, tag := "", pkgPath := "annals/annalsref5", byteOffset := 24 }, { name := "e", type := 3, offset := 2, embedded := false, tag := "", pkgPath := "annals/annalsref5", byteOffset := 32 }], .agg #[.slice none 0 0, .int .i64 0, .int .i64 0], 3, 40⟩),
  (127, ⟨.struct #[{ name := "b", type := 81, offset := 0, embedded := false, tag := "", pkgPath := "annals/annalsref5", byteOffset := 0 }, { name := "at", type := 3, offset := 1, embedded := false, tag := "", pkgPath := "annals/annalsref5", byteOffset := 24 }, { name := "e", type := 3, offset := 2, embedded := false, tag := "", pkgPath := "annals/annalsref5", byteOffset := 32 }], .agg #[.slice none 0 0, .int .i64 0, .int .i64 0], 3, 40⟩),
  (128, ⟨.func #[] #[118] false, .nilFunc, 1, 8⟩),
  (129, ⟨.func #[3, 118, 3] #[3] false, .nilFunc, 1, 8⟩),
  (130, ⟨.func #[42, 3] #[42] false, .nilFunc, 1, 8⟩),
  (131, ⟨.func #[81, 5] #[81] false, .nilFunc, 1, 8⟩),
  (132, ⟨.func #[42, 3, 3, 3] #[] false, .nilFunc, 1, 8⟩),
  (133, ⟨.func #[102] #[3] false, .nilFunc, 1, 8⟩),
  (134, ⟨.func #[3, 9] #[4] false, .nilFunc, 1, 8⟩),
  (135, ⟨.slice 66, .slice none 0 0, 1, 24⟩),
  (137, ⟨.func #[81, 3] #[118, 3, 3] false, .nilFunc, 1, 8⟩),
  (138, ⟨.func #[42, 3, 3] #[] false, .nilFunc, 1, 8⟩),
  (139, ⟨.int .i64, .int .i64 0, 1, 8⟩),
  (141, ⟨.func #[42, 3, 3] #[3, 139] false, .nilFunc, 1, 8⟩),
  (142, ⟨.func #[42, 3, 3] #[4] false, .nilFunc, 1, 8⟩),
  (143, ⟨.func #[42, 3, 3, 3] #[3] false, .nilFunc, 1, 8⟩),
  (145, ⟨.func #[42, 3, 3, 3] #[3, 4] false, .nilFunc, 1, 8⟩),
  (146, ⟨.func #[147] #[3] false, .nilFunc, 1, 8⟩),
  (147, ⟨.int .u32, .int .u32 0, 1, 4⟩),
  (148, ⟨.func #[118] #[3] false, .nilFunc, 1, 8⟩),
  (149, ⟨.int .u64, .int .u64 0, 1, 8⟩),
  (150, ⟨.func #[3] #[102] false, .nilFunc, 1, 8⟩),
  (151, ⟨.func #[42, 3, 152] #[3] false, .nilFunc, 1, 8⟩),
  (152, ⟨.pointer 3, .pointer none, 1, 8⟩),
  (153, ⟨.func #[42, 3, 3, 3, 152] #[3] false, .nilFunc, 1, 8⟩),
  (154, ⟨.func #[3] #[4] false, .nilFunc, 1, 8⟩),
  (155, ⟨.pointer 149, .pointer none, 1, 8⟩),
  (157, ⟨.func #[42, 3, 3, 152] #[3, 3] false, .nilFunc, 1, 8⟩),
  (158, ⟨.func #[] #[9] false, .nilFunc, 1, 8⟩),
  (159, ⟨.struct #[{ name := "_interface", type := 17, offset := 0, embedded := false, tag := "", pkgPath := "runtime", byteOffset := 0 }, { name := "concrete", type := 17, offset := 1, embedded := false, tag := "", pkgPath := "runtime", byteOffset := 8 }, { name := "asserted", type := 17, offset := 2, embedded := false, tag := "", pkgPath := "runtime", byteOffset := 16 }, { name := "missingMethod",   type := 9,   offset := 3,   embedded := false,   tag := "",   pkgPath := "runtime",   byteOffset := 24 }], .agg #[.pointer none, .pointer none, .pointer none, .string .empty], 4, 40⟩),
  (160, ⟨.struct #[{ name := "_interface", type := 17, offset := 0, embedded := false, tag := "", pkgPath := "runtime", byteOffset := 0 }, { name := "concrete", type := 17, offset := 1, embedded := false, tag := "", pkgPath := "runtime", byteOffset := 8 }, { name := "asserted", type := 17, offset := 2, embedded := false, tag := "", pkgPath := "runtime", byteOffset := 16 }, { name := "missingMethod",   type := 9,   offset := 3,   embedded := false,   tag := "",   pkgPath := "runtime",   byteOffset := 24 }], .agg #[.pointer none, .pointer none, .pointer none, .string .empty], 4, 40⟩),
  (161, ⟨.array 0 16, .agg #[], 0, 0⟩),
  (162, ⟨.struct #[{ name := "_", type := 161, offset := 0, embedded := false, tag := "", pkgPath := "runtime", byteOffset := 0 }], .agg #[], 0, 0⟩),
  (163, ⟨.struct #[{ name := "_", type := 161, offset := 0, embedded := false, tag := "", pkgPath := "runtime", byteOffset := 0 }], .agg #[], 0, 0⟩),
  (164, ⟨.int .u8, .int .u8 0, 1, 1⟩),
  (165, ⟨.int .u8, .int .u8 0, 1, 1⟩),
  (166, ⟨.func #[172, 172] #[4] false, .nilFunc, 1, 8⟩),
  (167, ⟨.pointer 5, .pointer none, 1, 8⟩),
  (168, ⟨.int .i32, .int .i32 0, 1, 4⟩),
  (169, ⟨.int .i32, .int .i32 0, 1, 4⟩),
  (170, ⟨.struct #[{ name := "Size_", type := 12, offset := 0, embedded := false, tag := "", pkgPath := "", byteOffset := 0 }, { name := "PtrBytes", type := 12, offset := 1, embedded := false, tag := "", pkgPath := "", byteOffset := 8 }, { name := "Hash", type := 147, offset := 2, embedded := false, tag := "", pkgPath := "", byteOffset := 16 }, { name := "TFlag", type := 164, offset := 3, embedded := false, tag := "", pkgPath := "", byteOffset := 20 }, { name := "Align_", type := 5, offset := 4, embedded := false, tag := "", pkgPath := "", byteOffset := 21 }, { name := "FieldAlign_", type := 5, offset := 5, embedded := false, tag := "", pkgPath := "", byteOffset := 22 }, { name := "Kind_", type := 165, offset := 6, embedded := false, tag := "", pkgPath := "", byteOffset := 23 }, { name := "Equal", type := 166, offset := 7, embedded := false, tag := "", pkgPath := "", byteOffset := 24 }, { name := "GCData", type := 167, offset := 8, embedded := false, tag := "", pkgPath := "", byteOffset := 32 }, { name := "Str", type := 168, offset := 9, embedded := false, tag := "", pkgPath := "", byteOffset := 40 }, { name := "PtrToThis", type := 169, offset := 10, embedded := false, tag := "", pkgPath := "", byteOffset := 44 }], .agg #[.int .u64 0, .int .u64 0, .int .u32 0, .int .u8 0, .int .u8 0, .int .u8 0, .int .u8 0, .nilFunc, .pointer none, .int .i32 0, .int .i32 0], 11, 48⟩),
  (171, ⟨.struct #[{ name := "Size_", type := 12, offset := 0, embedded := false, tag := "", pkgPath := "", byteOffset := 0 }, { name := "PtrBytes", type := 12, offset := 1, embedded := false, tag := "", pkgPath := "", byteOffset := 8 }, { name := "Hash", type := 147, offset := 2, embedded := false, tag := "", pkgPath := "", byteOffset := 16 }, { name := "TFlag", type := 164, offset := 3, embedded := false, tag := "", pkgPath := "", byteOffset := 20 }, { name := "Align_", type := 5, offset := 4, embedded := false, tag := "", pkgPath := "", byteOffset := 21 }, { name := "FieldAlign_", type := 5, offset := 5, embedded := false, tag := "", pkgPath := "", byteOffset := 22 }, { name := "Kind_", type := 165, offset := 6, embedded := false, tag := "", pkgPath := "", byteOffset := 23 }, { name := "Equal", type := 166, offset := 7, embedded := false, tag := "", pkgPath := "", byteOffset := 24 }, { name := "GCData", type := 167, offset := 8, embedded := false, tag := "", pkgPath := "", byteOffset := 32 }, { name := "Str", type := 168, offset := 9, embedded := false, tag := "", pkgPath := "", byteOffset := 40 }, { name := "PtrToThis", type := 169, offset := 10, embedded := false, tag := "", pkgPath := "", byteOffset := 44 }], .agg #[.int .u64 0, .int .u64 0, .int .u32 0, .int .u8 0, .int .u8 0, .int .u8 0, .int .u8 0, .nilFunc, .pointer none, .int .i32 0, .int .i32 0], 11, 48⟩)]
theorem TOK : TyOK Try.prog T := TyOK.mk (by kernel_rfl)
theorem mixed : Try.prog.follows .mixedOrders = true := by kernel_rfl
theorem ent3 : Ent Try.prog 3 := ⟨enters_of Try.func3 (by kernel_rfl) rfl⟩
theorem ent4 : Ent Try.prog 4 := ⟨enters_of Try.func4 (by kernel_rfl) rfl⟩
theorem ent5 : Ent Try.prog 5 := ⟨enters_of Try.func5 (by kernel_rfl) rfl⟩
theorem ent6 : Ent Try.prog 6 := ⟨enters_of Try.func6 (by kernel_rfl) rfl⟩
theorem ent7 : Ent Try.prog 7 := ⟨enters_of Try.func7 (by kernel_rfl) rfl⟩
theorem ent8 : Ent Try.prog 8 := ⟨enters_of Try.func8 (by kernel_rfl) rfl⟩
theorem ent9 : Ent Try.prog 9 := ⟨enters_of Try.func9 (by kernel_rfl) rfl⟩
theorem ent10 : Ent Try.prog 10 := ⟨enters_of Try.func10 (by kernel_rfl) rfl⟩
theorem ent11 : Ent Try.prog 11 := ⟨enters_of Try.func11 (by kernel_rfl) rfl⟩
theorem ent12 : Ent Try.prog 12 := ⟨enters_of Try.func12 (by kernel_rfl) rfl⟩
theorem ent13 : Ent Try.prog 13 := ⟨enters_of Try.func13 (by kernel_rfl) rfl⟩
theorem ent14 : Ent Try.prog 14 := ⟨enters_of Try.func14 (by kernel_rfl) rfl⟩
theorem ent15 : Ent Try.prog 15 := ⟨enters_of Try.func15 (by kernel_rfl) rfl⟩
theorem ent16 : Ent Try.prog 16 := ⟨enters_of Try.func16 (by kernel_rfl) rfl⟩
theorem ent17 : Ent Try.prog 17 := ⟨enters_of Try.func17 (by kernel_rfl) rfl⟩
theorem ent18 : Ent Try.prog 18 := ⟨enters_of Try.func18 (by kernel_rfl) rfl⟩
theorem ent19 : Ent Try.prog 19 := ⟨enters_of Try.func19 (by kernel_rfl) rfl⟩
theorem ent20 : Ent Try.prog 20 := ⟨enters_of Try.func20 (by kernel_rfl) rfl⟩
theorem ent21 : Ent Try.prog 21 := ⟨enters_of Try.func21 (by kernel_rfl) rfl⟩
theorem ent22 : Ent Try.prog 22 := ⟨enters_of Try.func22 (by kernel_rfl) rfl⟩
theorem ent23 : Ent Try.prog 23 := ⟨enters_of Try.func23 (by kernel_rfl) rfl⟩
theorem ent24 : Ent Try.prog 24 := ⟨enters_of Try.func24 (by kernel_rfl) rfl⟩
theorem ent25 : Ent Try.prog 25 := ⟨enters_of Try.func25 (by kernel_rfl) rfl⟩
theorem ent26 : Ent Try.prog 26 := ⟨enters_of Try.func26 (by kernel_rfl) rfl⟩
theorem ent27 : Ent Try.prog 27 := ⟨enters_of Try.func27 (by kernel_rfl) rfl⟩
theorem ent28 : Ent Try.prog 28 := ⟨enters_of Try.func28 (by kernel_rfl) rfl⟩
theorem ent29 : Ent Try.prog 29 := ⟨enters_of Try.func29 (by kernel_rfl) rfl⟩
theorem ent30 : Ent Try.prog 30 := ⟨enters_of Try.func30 (by kernel_rfl) rfl⟩
theorem ent31 : Ent Try.prog 31 := ⟨enters_of Try.func31 (by kernel_rfl) rfl⟩
theorem ent32 : Ent Try.prog 32 := ⟨enters_of Try.func32 (by kernel_rfl) rfl⟩
theorem ent33 : Ent Try.prog 33 := ⟨enters_of Try.func33 (by kernel_rfl) rfl⟩
theorem ent34 : Ent Try.prog 34 := ⟨enters_of Try.func34 (by kernel_rfl) rfl⟩
theorem ent35 : Ent Try.prog 35 := ⟨enters_of Try.func35 (by kernel_rfl) rfl⟩
theorem ent36 : Ent Try.prog 36 := ⟨enters_of Try.func36 (by kernel_rfl) rfl⟩
theorem ent37 : Ent Try.prog 37 := ⟨enters_of Try.func37 (by kernel_rfl) rfl⟩
theorem ent38 : Ent Try.prog 38 := ⟨enters_of Try.func38 (by kernel_rfl) rfl⟩
theorem ent39 : Ent Try.prog 39 := ⟨enters_of Try.func39 (by kernel_rfl) rfl⟩
theorem ent40 : Ent Try.prog 40 := ⟨enters_of Try.func40 (by kernel_rfl) rfl⟩
theorem ent41 : Ent Try.prog 41 := ⟨enters_of Try.func41 (by kernel_rfl) rfl⟩
theorem ent42 : Ent Try.prog 42 := ⟨enters_of Try.func42 (by kernel_rfl) rfl⟩
theorem ent43 : Ent Try.prog 43 := ⟨enters_of Try.func43 (by kernel_rfl) rfl⟩
theorem ent44 : Ent Try.prog 44 := ⟨enters_of Try.func44 (by kernel_rfl) rfl⟩
theorem ent45 : Ent Try.prog 45 := ⟨enters_of Try.func45 (by kernel_rfl) rfl⟩
theorem ent46 : Ent Try.prog 46 := ⟨enters_of Try.func46 (by kernel_rfl) rfl⟩
theorem ent47 : Ent Try.prog 47 := ⟨enters_of Try.func47 (by kernel_rfl) rfl⟩
theorem ent48 : Ent Try.prog 48 := ⟨enters_of Try.func48 (by kernel_rfl) rfl⟩
theorem ent49 : Ent Try.prog 49 := ⟨enters_of Try.func49 (by kernel_rfl) rfl⟩
theorem ent50 : Ent Try.prog 50 := ⟨enters_of Try.func50 (by kernel_rfl) rfl⟩
theorem ent51 : Ent Try.prog 51 := ⟨enters_of Try.func51 (by kernel_rfl) rfl⟩
theorem ent52 : Ent Try.prog 52 := ⟨enters_of Try.func52 (by kernel_rfl) rfl⟩
theorem ent53 : Ent Try.prog 53 := ⟨enters_of Try.func53 (by kernel_rfl) rfl⟩
theorem ent54 : Ent Try.prog 54 := ⟨enters_of Try.func54 (by kernel_rfl) rfl⟩
theorem ent55 : Ent Try.prog 55 := ⟨enters_of Try.func55 (by kernel_rfl) rfl⟩
theorem ent56 : Ent Try.prog 56 := ⟨enters_of Try.func56 (by kernel_rfl) rfl⟩
theorem ent57 : Ent Try.prog 57 := ⟨enters_of Try.func57 (by kernel_rfl) rfl⟩
theorem ent58 : Ent Try.prog 58 := ⟨enters_of Try.func58 (by kernel_rfl) rfl⟩
theorem ent59 : Ent Try.prog 59 := ⟨enters_of Try.func59 (by kernel_rfl) rfl⟩
theorem ent60 : Ent Try.prog 60 := ⟨enters_of Try.func60 (by kernel_rfl) rfl⟩
theorem ent61 : Ent Try.prog 61 := ⟨enters_of Try.func61 (by kernel_rfl) rfl⟩
theorem ent62 : Ent Try.prog 62 := ⟨enters_of Try.func62 (by kernel_rfl) rfl⟩
theorem ent63 : Ent Try.prog 63 := ⟨enters_of Try.func63 (by kernel_rfl) rfl⟩
theorem ent64 : Ent Try.prog 64 := ⟨enters_of Try.func64 (by kernel_rfl) rfl⟩
theorem ent65 : Ent Try.prog 65 := ⟨enters_of Try.func65 (by kernel_rfl) rfl⟩
theorem ent66 : Ent Try.prog 66 := ⟨enters_of Try.func66 (by kernel_rfl) rfl⟩
theorem ent67 : Ent Try.prog 67 := ⟨enters_of Try.func67 (by kernel_rfl) rfl⟩
theorem ent68 : Ent Try.prog 68 := ⟨enters_of Try.func68 (by kernel_rfl) rfl⟩
theorem ent69 : Ent Try.prog 69 := ⟨enters_of Try.func69 (by kernel_rfl) rfl⟩
theorem ent70 : Ent Try.prog 70 := ⟨enters_of Try.func70 (by kernel_rfl) rfl⟩
theorem ent71 : Ent Try.prog 71 := ⟨enters_of Try.func71 (by kernel_rfl) rfl⟩
theorem ent72 : Ent Try.prog 72 := ⟨enters_of Try.func72 (by kernel_rfl) rfl⟩
theorem ent73 : Ent Try.prog 73 := ⟨enters_of Try.func73 (by kernel_rfl) rfl⟩
theorem ent74 : Ent Try.prog 74 := ⟨enters_of Try.func74 (by kernel_rfl) rfl⟩
theorem ent75 : Ent Try.prog 75 := ⟨enters_of Try.func75 (by kernel_rfl) rfl⟩
theorem ent76 : Ent Try.prog 76 := ⟨enters_of Try.func76 (by kernel_rfl) rfl⟩
theorem ent77 : Ent Try.prog 77 := ⟨enters_of Try.func77 (by kernel_rfl) rfl⟩
theorem ent78 : Ent Try.prog 78 := ⟨enters_of Try.func78 (by kernel_rfl) rfl⟩
theorem ent79 : Ent Try.prog 79 := ⟨enters_of Try.func79 (by kernel_rfl) rfl⟩
theorem ent80 : Ent Try.prog 80 := ⟨enters_of Try.func80 (by kernel_rfl) rfl⟩
theorem ent81 : Ent Try.prog 81 := ⟨enters_of Try.func81 (by kernel_rfl) rfl⟩
theorem ent82 : Ent Try.prog 82 := ⟨enters_of Try.func82 (by kernel_rfl) rfl⟩
theorem ent83 : Ent Try.prog 83 := ⟨enters_of Try.func83 (by kernel_rfl) rfl⟩
theorem ent84 : Ent Try.prog 84 := ⟨enters_of Try.func84 (by kernel_rfl) rfl⟩
theorem ent85 : Ent Try.prog 85 := ⟨enters_of Try.func85 (by kernel_rfl) rfl⟩
theorem ent86 : Ent Try.prog 86 := ⟨enters_of Try.func86 (by kernel_rfl) rfl⟩
theorem ent87 : Ent Try.prog 87 := ⟨enters_of Try.func87 (by kernel_rfl) rfl⟩
theorem ent88 : Ent Try.prog 88 := ⟨enters_of Try.func88 (by kernel_rfl) rfl⟩
theorem ent89 : Ent Try.prog 89 := ⟨enters_of Try.func89 (by kernel_rfl) rfl⟩
theorem ent90 : Ent Try.prog 90 := ⟨enters_of Try.func90 (by kernel_rfl) rfl⟩
theorem ent91 : Ent Try.prog 91 := ⟨enters_of Try.func91 (by kernel_rfl) rfl⟩
theorem ent92 : Ent Try.prog 92 := ⟨enters_of Try.func92 (by kernel_rfl) rfl⟩
theorem ent93 : Ent Try.prog 93 := ⟨enters_of Try.func93 (by kernel_rfl) rfl⟩
theorem ent94 : Ent Try.prog 94 := ⟨enters_of Try.func94 (by kernel_rfl) rfl⟩
theorem ent95 : Ent Try.prog 95 := ⟨enters_of Try.func95 (by kernel_rfl) rfl⟩
end Go.Proofs.Ytaofhbjlbdpjhaa
