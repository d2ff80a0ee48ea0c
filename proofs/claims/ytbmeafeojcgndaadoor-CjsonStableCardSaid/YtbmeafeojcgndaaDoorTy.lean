/- The types and the functions of the translation, as the walk asks for them. (Laid by a program: wip/tools/mkty.py.) -/
import Derived.Test.YtbmeafeojcgndaaDoorChecked
import Derived.KernelRfl
import Derived.Test.YtbmeafeojcgndaaDoorSlText
set_option linter.unusedVariables false
set_option linter.unusedSimpArgs false
namespace Go.Proofs.YtbmeafeojcgndaaDoor
open Go Go.Sl
set_option maxRecDepth 100000
def T : List (Nat × TI) := [
  (0, ⟨.tuple #[], .tuple #[], 1, 0⟩),
  (1, ⟨.func #[] #[] false, .nilFunc, 1, 8⟩),
  (2, ⟨.int .i64, .int .i64 0, 1, 8⟩),
  (3, ⟨.int .i64, .int .i64 0, 1, 8⟩),
  (4, ⟨.bool, .bool false, 1, 1⟩),
  (5, ⟨.int .u8, .int .u8 0, 1, 1⟩),
  (6, ⟨.int .u8, .int .u8 0, 1, 1⟩),
  (7, ⟨.struct #[{ name := "x", type := 2, offset := 0, embedded := false, tag := "", pkgPath := "runtime", byteOffset := 0 }, { name := "y", type := 3, offset := 1, embedded := false, tag := "", pkgPath := "runtime", byteOffset := 8 }, { name := "signed", type := 4, offset := 2, embedded := false, tag := "", pkgPath := "runtime", byteOffset := 16 }, { name := "code", type := 6, offset := 3, embedded := false, tag := "", pkgPath := "runtime", byteOffset := 17 }], .agg #[.int .i64 0, .int .i64 0, .bool false, .int .u8 0], 4, 24⟩),
  (8, ⟨.struct #[{ name := "x", type := 2, offset := 0, embedded := false, tag := "", pkgPath := "runtime", byteOffset := 0 }, { name := "y", type := 3, offset := 1, embedded := false, tag := "", pkgPath := "runtime", byteOffset := 8 }, { name := "signed", type := 4, offset := 2, embedded := false, tag := "", pkgPath := "runtime", byteOffset := 16 }, { name := "code", type := 6, offset := 3, embedded := false, tag := "", pkgPath := "runtime", byteOffset := 17 }], .agg #[.int .i64 0, .int .i64 0, .bool false, .int .u8 0], 4, 24⟩),
  (9, ⟨.string, .string .empty, 1, 16⟩),
  (10, ⟨.string, .string .empty, 1, 16⟩),
  (11, ⟨.string, .string .empty, 1, 16⟩),
  (12, ⟨.int .u64, .int .u64 0, 1, 8⟩),
  (13, ⟨.struct #[{ name := "msg", type := 9, offset := 0, embedded := false, tag := "", pkgPath := "runtime", byteOffset := 0 }, { name := "addr", type := 12, offset := 1, embedded := false, tag := "", pkgPath := "runtime", byteOffset := 16 }], .agg #[.string .empty, .int .u64 0], 2, 24⟩),
  (14, ⟨.struct #[{ name := "msg", type := 9, offset := 0, embedded := false, tag := "", pkgPath := "runtime", byteOffset := 0 }, { name := "addr", type := 12, offset := 1, embedded := false, tag := "", pkgPath := "runtime", byteOffset := 16 }], .agg #[.string .empty, .int .u64 0], 2, 24⟩),
  (15, ⟨.pointer 137, .pointer none, 1, 8⟩),
  (16, ⟨.pointer 140, .pointer none, 1, 8⟩),
  (17, ⟨.pointer 148, .pointer none, 1, 8⟩),
  (18, ⟨.struct #[{ name := "typ",   type := 17,   offset := 0,   embedded := false,   tag := "",   pkgPath := "internal/runtime/maps",   byteOffset := 0 }], .agg #[.pointer none], 1, 8⟩),
  (19, ⟨.struct #[{ name := "typ",   type := 17,   offset := 0,   embedded := false,   tag := "",   pkgPath := "internal/runtime/maps",   byteOffset := 0 }], .agg #[.pointer none], 1, 8⟩),
  (21, ⟨.int .i32, .int .i32 0, 1, 4⟩),
  (22, ⟨.slice 5, .slice none 0 0, 1, 24⟩),
  (23, ⟨.slice 3, .slice none 0 0, 1, 24⟩),
  (24, ⟨.pointer 26, .pointer none, 1, 8⟩),
  (25, ⟨.struct #[{ name := "out",   type := 22,   offset := 0,   embedded := false,   tag := "",   pkgPath := "annals/annalslaw13",   byteOffset := 0 }, { name := "pad",   type := 23,   offset := 1,   embedded := false,   tag := "",   pkgPath := "annals/annalslaw13",   byteOffset := 24 }, { name := "turn",   type := 3,   offset := 2,   embedded := false,   tag := "",   pkgPath := "annals/annalslaw13",   byteOffset := 48 }], .agg #[.slice none 0 0, .slice none 0 0, .int .i64 0], 3, 56⟩),
  (26, ⟨.struct #[{ name := "out",   type := 22,   offset := 0,   embedded := false,   tag := "",   pkgPath := "annals/annalslaw13",   byteOffset := 0 }, { name := "pad",   type := 23,   offset := 1,   embedded := false,   tag := "",   pkgPath := "annals/annalslaw13",   byteOffset := 24 }, { name := "turn",   type := 3,   offset := 2,   embedded := false,   tag := "",   pkgPath := "annals/annalslaw13",   byteOffset := 48 }], .agg #[.slice none 0 0, .slice none 0 0, .int .i64 0], 3, 56⟩),
  (27, ⟨.func #[5] #[4] false, .nilFunc, 1, 8⟩),
  (28, ⟨.slice 9, .slice none 0 0, 1, 24⟩),
  (29, ⟨.slice 31, .slice none 0 0, 1, 24⟩),
  (30, ⟨.struct #[{ name := "Kind", type := 3, offset := 0, embedded := false, tag := "", pkgPath := "", byteOffset := 0 }, { name := "Int", type := 3, offset := 1, embedded := false, tag := "", pkgPath := "", byteOffset := 8 }, { name := "Text", type := 9, offset := 2, embedded := false, tag := "", pkgPath := "", byteOffset := 16 }, { name := "Names", type := 28, offset := 3, embedded := false, tag := "", pkgPath := "", byteOffset := 32 }, { name := "Items", type := 29, offset := 4, embedded := false, tag := "", pkgPath := "", byteOffset := 56 }], .agg #[.int .i64 0, .int .i64 0, .string .empty, .slice none 0 0, .slice none 0 0], 5, 80⟩),
  (31, ⟨.struct #[{ name := "Kind", type := 3, offset := 0, embedded := false, tag := "", pkgPath := "", byteOffset := 0 }, { name := "Int", type := 3, offset := 1, embedded := false, tag := "", pkgPath := "", byteOffset := 8 }, { name := "Text", type := 9, offset := 2, embedded := false, tag := "", pkgPath := "", byteOffset := 16 }, { name := "Names", type := 28, offset := 3, embedded := false, tag := "", pkgPath := "", byteOffset := 32 }, { name := "Items", type := 29, offset := 4, embedded := false, tag := "", pkgPath := "", byteOffset := 56 }], .agg #[.int .i64 0, .int .i64 0, .string .empty, .slice none 0 0, .slice none 0 0], 5, 80⟩),
  (32, ⟨.int .i64, .int .i64 0, 1, 8⟩),
  (34, ⟨.func #[22] #[31, 32, 3] false, .nilFunc, 1, 8⟩),
  (35, ⟨.func #[32] #[3] false, .nilFunc, 1, 8⟩),
  (36, ⟨.func #[] #[4] false, .nilFunc, 1, 8⟩),
  (37, ⟨.func #[31, 31] #[4] false, .nilFunc, 1, 8⟩),
  (38, ⟨.func #[22, 23] #[4] false, .nilFunc, 1, 8⟩),
  (39, ⟨.func #[22, 3] #[22] false, .nilFunc, 1, 8⟩),
  (40, ⟨.func #[22, 3, 4] #[22] false, .nilFunc, 1, 8⟩),
  (42, ⟨.func #[31] #[22, 32] false, .nilFunc, 1, 8⟩),
  (43, ⟨.func #[23, 4] #[4] false, .nilFunc, 1, 8⟩),
  (44, ⟨.func #[22, 22] #[4] false, .nilFunc, 1, 8⟩),
  (45, ⟨.func #[23] #[4] false, .nilFunc, 1, 8⟩),
  (47, ⟨.func #[22] #[22, 32, 3] false, .nilFunc, 1, 8⟩),
  (48, ⟨.func #[22] #[4] false, .nilFunc, 1, 8⟩),
  (49, ⟨.func #[3] #[9] false, .nilFunc, 1, 8⟩),
  (50, ⟨.func #[9, 3] #[4] false, .nilFunc, 1, 8⟩),
  (51, ⟨.func #[3, 3] #[4] false, .nilFunc, 1, 8⟩),
  (52, ⟨.struct #[{ name := "why", type := 32, offset := 0, embedded := false, tag := "", pkgPath := "annals/cjson", byteOffset := 0 }, { name := "at", type := 3, offset := 1, embedded := false, tag := "", pkgPath := "annals/cjson", byteOffset := 8 }], .agg #[.int .i64 0, .int .i64 0], 2, 16⟩),
  (53, ⟨.struct #[{ name := "why", type := 32, offset := 0, embedded := false, tag := "", pkgPath := "annals/cjson", byteOffset := 0 }, { name := "at", type := 3, offset := 1, embedded := false, tag := "", pkgPath := "annals/cjson", byteOffset := 8 }], .agg #[.int .i64 0, .int .i64 0], 2, 16⟩),
  (55, ⟨.pointer 57, .pointer none, 1, 8⟩),
  (56, ⟨.struct #[{ name := "b", type := 22, offset := 0, embedded := false, tag := "", pkgPath := "annals/cjson", byteOffset := 0 }, { name := "at", type := 3, offset := 1, embedded := false, tag := "", pkgPath := "annals/cjson", byteOffset := 24 }, { name := "depth", type := 3, offset := 2, embedded := false, tag := "", pkgPath := "annals/cjson", byteOffset := 32 }], .agg #[.slice none 0 0, .int .i64 0, .int .i64 0], 3, 40⟩),
  (57, ⟨.struct #[{ name := "b", type := 22, offset := 0, embedded := false, tag := "", pkgPath := "annals/cjson", byteOffset := 0 }, { name := "at", type := 3, offset := 1, embedded := false, tag := "", pkgPath := "annals/cjson", byteOffset := 24 }, { name := "depth", type := 3, offset := 2, embedded := false, tag := "", pkgPath := "annals/cjson", byteOffset := 32 }], .agg #[.slice none 0 0, .int .i64 0, .int .i64 0], 3, 40⟩),
  (58, ⟨.func #[] #[31] false, .nilFunc, 1, 8⟩),
  (59, ⟨.func #[32, 3] #[] false, .nilFunc, 1, 8⟩),
  (61, ⟨.func #[] #[31, 22] false, .nilFunc, 1, 8⟩),
  (62, ⟨.func #[31] #[31] false, .nilFunc, 1, 8⟩),
  (63, ⟨.func #[31, 3] #[32] false, .nilFunc, 1, 8⟩),
  (64, ⟨.func #[22, 31] #[22] false, .nilFunc, 1, 8⟩),
  (65, ⟨.func #[] #[5] false, .nilFunc, 1, 8⟩),
  (66, ⟨.func #[9] #[] false, .nilFunc, 1, 8⟩),
  (67, ⟨.func #[] #[9] false, .nilFunc, 1, 8⟩),
  (68, ⟨.func #[] #[3] false, .nilFunc, 1, 8⟩),
  (69, ⟨.func #[28, 9] #[3] false, .nilFunc, 1, 8⟩),
  (70, ⟨.func #[28, 3, 9] #[28] false, .nilFunc, 1, 8⟩),
  (71, ⟨.func #[29, 3, 31] #[29] false, .nilFunc, 1, 8⟩),
  (73, ⟨.func #[22] #[31, 3, 3] false, .nilFunc, 1, 8⟩),
  (74, ⟨.func #[31] #[4] false, .nilFunc, 1, 8⟩),
  (75, ⟨.func #[9] #[4] false, .nilFunc, 1, 8⟩),
  (76, ⟨.func #[28] #[32] false, .nilFunc, 1, 8⟩),
  (77, ⟨.func #[22, 4] #[22] false, .nilFunc, 1, 8⟩),
  (78, ⟨.func #[22, 2, 3] #[22] false, .nilFunc, 1, 8⟩),
  (79, ⟨.func #[22, 9] #[22] false, .nilFunc, 1, 8⟩),
  (80, ⟨.func #[28] #[23] false, .nilFunc, 1, 8⟩),
  (81, ⟨.func #[2, 3] #[9] false, .nilFunc, 1, 8⟩),
  (82, ⟨.func #[22, 21] #[22] false, .nilFunc, 1, 8⟩),
  (83, ⟨.func #[] #[21] false, .nilFunc, 1, 8⟩),
  (85, ⟨.func #[22] #[21, 3] false, .nilFunc, 1, 8⟩),
  (86, ⟨.map 9 3, .map none, 1, 8⟩),
  (87, ⟨.func #[] #[22] false, .nilFunc, 1, 8⟩),
  (89, ⟨.func #[22, 3, 4] #[3, 32] false, .nilFunc, 1, 8⟩),
  (90, ⟨.pointer 93, .pointer none, 1, 8⟩),
  (91, ⟨.slice 121, .slice none 0 0, 1, 24⟩),
  (92, ⟨.struct #[{ name := "b", type := 9, offset := 0, embedded := false, tag := "", pkgPath := "annals/annalsref13", byteOffset := 0 }, { name := "at",   type := 3,   offset := 1,   embedded := false,   tag := "",   pkgPath := "annals/annalsref13",   byteOffset := 16 }, { name := "state",   type := 3,   offset := 2,   embedded := false,   tag := "",   pkgPath := "annals/annalsref13",   byteOffset := 24 }, { name := "stack",   type := 91,   offset := 3,   embedded := false,   tag := "",   pkgPath := "annals/annalsref13",   byteOffset := 32 }, { name := "value",   type := 31,   offset := 4,   embedded := false,   tag := "",   pkgPath := "annals/annalsref13",   byteOffset := 56 }, { name := "err",   type := 3,   offset := 9,   embedded := false,   tag := "",   pkgPath := "annals/annalsref13",   byteOffset := 136 }, { name := "place",   type := 3,   offset := 10,   embedded := false,   tag := "",   pkgPath := "annals/annalsref13",   byteOffset := 144 }], .agg #[.string .empty, .int .i64 0, .int .i64 0, .slice none 0 0, .int .i64 0, .int .i64 0, .string .empty, .slice none 0 0, .slice none 0 0, .int .i64 0, .int .i64 0], 11, 152⟩),
  (93, ⟨.struct #[{ name := "b", type := 9, offset := 0, embedded := false, tag := "", pkgPath := "annals/annalsref13", byteOffset := 0 }, { name := "at",   type := 3,   offset := 1,   embedded := false,   tag := "",   pkgPath := "annals/annalsref13",   byteOffset := 16 }, { name := "state",   type := 3,   offset := 2,   embedded := false,   tag := "",   pkgPath := "annals/annalsref13",   byteOffset := 24 }, { name := "stack",   type := 91,   offset := 3,   embedded := false,   tag := "",   pkgPath := "annals/annalsref13",   byteOffset := 32 }, { name := "value",   type := 31,   offset := 4,   embedded := false,   tag := "",   pkgPath := "annals/annalsref13",   byteOffset := 56 }, { name := "err",   type := 3,   offset := 9,   embedded := false,   tag := "",   pkgPath := "annals/annalsref13",   byteOffset := 136 }, { name := "place",   type := 3,   offset := 10,   embedded := false,   tag := "",   pkgPath := "annals/annalsref13",   byteOffset := 144 }], .agg #[.string .empty, .int .i64 0, .int .i64 0, .slice none 0 0, .int .i64 0, .int .i64 0, .string .empty, .slice none 0 0, .slice none 0 0, .int .i64 0, .int .i64 0], 11, 152⟩),
  (94, ⟨.func #[9] #[21, 3] false, .nilFunc, 1, 8⟩),
  (95, ⟨.int .u64, .int .u64 0, 1, 8⟩),
  (96, ⟨.func #[23, 97] #[] false, .nilFunc, 1, 8⟩),
  (97, ⟨.func #[3, 3] #[3] false, .nilFunc, 1, 8⟩),
  (98, ⟨.array 24 5, .agg #[.int .u8 0, .int .u8 0, .int .u8 0, .int .u8 0, .int .u8 0, .int .u8 0, .int .u8 0, .int .u8 0, .int .u8 0, .int .u8 0, .int .u8 0, .int .u8 0, .int .u8 0, .int .u8 0, .int .u8 0, .int .u8 0, .int .u8 0, .int .u8 0, .int .u8 0, .int .u8 0, .int .u8 0, .int .u8 0, .int .u8 0, .int .u8 0], 24, 24⟩),
  (99, ⟨.int .u64, .int .u64 0, 1, 8⟩),
  (100, ⟨.func #[99] #[3] false, .nilFunc, 1, 8⟩),
  (101, ⟨.func #[22, 99] #[] false, .nilFunc, 1, 8⟩),
  (103, ⟨.func #[22, 99, 3, 4, 4] #[22, 9] false, .nilFunc, 1, 8⟩),
  (104, ⟨.int .u32, .int .u32 0, 1, 4⟩),
  (105, ⟨.func #[3] #[21] false, .nilFunc, 1, 8⟩),
  (106, ⟨.func #[3, 3] #[] false, .nilFunc, 1, 8⟩),
  (107, ⟨.func #[5] #[] false, .nilFunc, 1, 8⟩),
  (108, ⟨.func #[22, 99, 3] #[22] false, .nilFunc, 1, 8⟩),
  (109, ⟨.func #[23, 3, 97] #[] false, .nilFunc, 1, 8⟩),
  (110, ⟨.func #[3] #[3] false, .nilFunc, 1, 8⟩),
  (111, ⟨.func #[4] #[3] false, .nilFunc, 1, 8⟩),
  (112, ⟨.array 20 99, .agg #[.int .u64 0, .int .u64 0, .int .u64 0, .int .u64 0, .int .u64 0, .int .u64 0, .int .u64 0, .int .u64 0, .int .u64 0, .int .u64 0, .int .u64 0, .int .u64 0, .int .u64 0, .int .u64 0, .int .u64 0, .int .u64 0, .int .u64 0, .int .u64 0, .int .u64 0, .int .u64 0], 20, 160⟩),
  (113, ⟨.array 65 5, .agg #[.int .u8 0, .int .u8 0, .int .u8 0, .int .u8 0, .int .u8 0, .int .u8 0, .int .u8 0, .int .u8 0, .int .u8 0, .int .u8 0, .int .u8 0, .int .u8 0, .int .u8 0, .int .u8 0, .int .u8 0, .int .u8 0, .int .u8 0, .int .u8 0, .int .u8 0, .int .u8 0, .int .u8 0, .int .u8 0, .int .u8 0, .int .u8 0, .int .u8 0, .int .u8 0, .int .u8 0, .int .u8 0, .int .u8 0, .int .u8 0, .int .u8 0, .int .u8 0, .int .u8 0, .int .u8 0, .int .u8 0, .int .u8 0, .int .u8 0, .int .u8 0, .int .u8 0, .int .u8 0, .int .u8 0, .int .u8 0, .int .u8 0, .int .u8 0, .int .u8 0, .int .u8 0, .int .u8 0, .int .u8 0, .int .u8 0, .int .u8 0, .int .u8 0, .int .u8 0, .int .u8 0, .int .u8 0, .int .u8 0, .int .u8 0, .int .u8 0, .int .u8 0, .int .u8 0, .int .u8 0, .int .u8 0, .int .u8 0, .int .u8 0, .int .u8 0, .int .u8 0], 65, 65⟩),
  (114, ⟨.func #[3] #[4] false, .nilFunc, 1, 8⟩),
  (115, ⟨.func #[95] #[3] false, .nilFunc, 1, 8⟩),
  (116, ⟨.array 256 5, .agg #[.int .u8 0, .int .u8 0, .int .u8 0, .int .u8 0, .int .u8 0, .int .u8 0, .int .u8 0, .int .u8 0, .int .u8 0, .int .u8 0, .int .u8 0, .int .u8 0, .int .u8 0, .int .u8 0, .int .u8 0, .int .u8 0, .int .u8 0, .int .u8 0, .int .u8 0, .int .u8 0, .int .u8 0, .int .u8 0, .int .u8 0, .int .u8 0, .int .u8 0, .int .u8 0, .int .u8 0, .int .u8 0, .int .u8 0, .int .u8 0, .int .u8 0, .int .u8 0, .int .u8 0, .int .u8 0, .int .u8 0, .int .u8 0, .int .u8 0, .int .u8 0, .int .u8 0, .int .u8 0, .int .u8 0, .int .u8 0, .int .u8 0, .int .u8 0, .int .u8 0, .int .u8 0, .int .u8 0, .int .u8 0, .int .u8 0, .int .u8 0, .int .u8 0, .int .u8 0, .int .u8 0, .int .u8 0, .int .u8 0, .int .u8 0, .int .u8 0, .int .u8 0, .int .u8 0, .int .u8 0, .int .u8 0, .int .u8 0, .int .u8 0, .int .u8 0, .int .u8 0, .int .u8 0, .int .u8 0, .int .u8 0, .int .u8 0, .int .u8 0, .int .u8 0, .int .u8 0, .int .u8 0, .int .u8 0, .int .u8 0, .int .u8 0, .int .u8 0, .int .u8 0, .int .u8 0, .int .u8 0, .int .u8 0, .int .u8 0, .int .u8 0, .int .u8 0, .int .u8 0, .int .u8 0, .int .u8 0, .int .u8 0, .int .u8 0, .int .u8 0, .int .u8 0, .int .u8 0, .int .u8 0, .int .u8 0, .int .u8 0, .int .u8 0, .int .u8 0, .int .u8 0, .int .u8 0, .int .u8 0, .int .u8 0, .int .u8 0, .int .u8 0, .int .u8 0, .int .u8 0, .int .u8 0, .int .u8 0, .int .u8 0, .int .u8 0, .int .u8 0, .int .u8 0, .int .u8 0, .int .u8 0, .int .u8 0, .int .u8 0, .int .u8 0, .int .u8 0, .int .u8 0, .int .u8 0, .int .u8 0, .int .u8 0, .int .u8 0, .int .u8 0, .int .u8 0, .int .u8 0, .int .u8 0, .int .u8 0, .int .u8 0, .int .u8 0, .int .u8 0, .int .u8 0, .int .u8 0, .int .u8 0, .int .u8 0, .int .u8 0, .int .u8 0, .int .u8 0, .int .u8 0, .int .u8 0, .int .u8 0, .int .u8 0, .int .u8 0, .int .u8 0, .int .u8 0, .int .u8 0, .int .u8 0, .int .u8 0, .int .u8 0, .int .u8 0, .int .u8 0, .int .u8 0, .int .u8 0, .int .u8 0, .int .u8 0, .int .u8 0, .int .u8 0, .int .u8 0, .int .u8 0, .int .u8 0, .int .u8 0, .int .u8 0, .int .u8 0, .int .u8 0, .int .u8 0, .int .u8 0, .int .u8 0, .int .u8 0, .int .u8 0, .int .u8 0, .int .u8 0, .int .u8 0, .int .u8 0, .int .u8 0, .int .u8 0, .int .u8 0, .int .u8 0, .int .u8 0, .int .u8 0, .int .u8 0, .int .u8 0, .int .u8 0, .int .u8 0, .int .u8 0, .int .u8 0, .int .u8 0, .int .u8 0, .int .u8 0, .int .u8 0, .int .u8 0, .int .u8 0, .int .u8 0, .int .u8 0, .int .u8 0, .int .u8 0, .int .u8 0, .int .u8 0, .int .u8 0, .int .u8 0, .int .u8 0, .int .u8 0, .int .u8 0, .int .u8 0, .int .u8 0, .int .u8 0, .int .u8 0, .int .u8 0, .int .u8 0, .int .u8 0, .int .u8 0, .int .u8 0, .int .u8 0, .int .u8 0, .int .u8 0, .int .u8 0, .int .u8 0, .int .u8 0, .int .u8 0, .int .u8 0, .int .u8 0, .int .u8 0, .int .u8 0, .int .u8 0, .int .u8 0, .int .u8 0, .int .u8 0, .int .u8 0, .int .u8 0, .int .u8 0, .int .u8 0, .int .u8 0, .int .u8 0, .int .u8 0, .int .u8 0, .int .u8 0, .int .u8 0, .int .u8 0, .int .u8 0, .int .u8 0, .int .u8 0, .int .u8 0, .int .u8 0, .int .u8 0, .int .u8 0, .int .u8 0, .int .u8 0, .int .u8 0, .int .u8 0, .int .u8 0, .int .u8 0, .int .u8 0, .int .u8 0, .int .u8 0, .int .u8 0, .int .u8 0, .int .u8 0, .int .u8 0], 256, 256⟩),
  (117, ⟨.struct #[{ name := "lo", type := 5, offset := 0, embedded := false, tag := "", pkgPath := "unicode/utf8", byteOffset := 0 }, { name := "hi", type := 5, offset := 1, embedded := false, tag := "", pkgPath := "unicode/utf8", byteOffset := 1 }], .agg #[.int .u8 0, .int .u8 0], 2, 2⟩),
  (118, ⟨.struct #[{ name := "lo", type := 5, offset := 0, embedded := false, tag := "", pkgPath := "unicode/utf8", byteOffset := 0 }, { name := "hi", type := 5, offset := 1, embedded := false, tag := "", pkgPath := "unicode/utf8", byteOffset := 1 }], .agg #[.int .u8 0, .int .u8 0], 2, 2⟩),
  (119, ⟨.array 16 118, .agg #[.int .u8 0, .int .u8 0, .int .u8 0, .int .u8 0, .int .u8 0, .int .u8 0, .int .u8 0, .int .u8 0, .int .u8 0, .int .u8 0, .int .u8 0, .int .u8 0, .int .u8 0, .int .u8 0, .int .u8 0, .int .u8 0, .int .u8 0, .int .u8 0, .int .u8 0, .int .u8 0, .int .u8 0, .int .u8 0, .int .u8 0, .int .u8 0, .int .u8 0, .int .u8 0, .int .u8 0, .int .u8 0, .int .u8 0, .int .u8 0, .int .u8 0, .int .u8 0], 32, 32⟩),
  (120, ⟨.struct #[{ name := "object",   type := 4,   offset := 0,   embedded := false,   tag := "",   pkgPath := "annals/annalsref13",   byteOffset := 0 }, { name := "names",   type := 28,   offset := 1,   embedded := false,   tag := "",   pkgPath := "annals/annalsref13",   byteOffset := 8 }, { name := "items",   type := 29,   offset := 2,   embedded := false,   tag := "",   pkgPath := "annals/annalsref13",   byteOffset := 32 }, { name := "name",   type := 9,   offset := 3,   embedded := false,   tag := "",   pkgPath := "annals/annalsref13",   byteOffset := 56 }, { name := "at",   type := 3,   offset := 4,   embedded := false,   tag := "",   pkgPath := "annals/annalsref13",   byteOffset := 72 }], .agg #[.bool false, .slice none 0 0, .slice none 0 0, .string .empty, .int .i64 0], 5, 80⟩),
  (121, ⟨.struct #[{ name := "object",   type := 4,   offset := 0,   embedded := false,   tag := "",   pkgPath := "annals/annalsref13",   byteOffset := 0 }, { name := "names",   type := 28,   offset := 1,   embedded := false,   tag := "",   pkgPath := "annals/annalsref13",   byteOffset := 8 }, { name := "items",   type := 29,   offset := 2,   embedded := false,   tag := "",   pkgPath := "annals/annalsref13",   byteOffset := 32 }, { name := "name",   type := 9,   offset := 3,   embedded := false,   tag := "",   pkgPath := "annals/annalsref13",   byteOffset := 56 }, { name := "at",   type := 3,   offset := 4,   embedded := false,   tag := "",   pkgPath := "annals/annalsref13",   byteOffset := 72 }], .agg #[.bool false, .slice none 0 0, .slice none 0 0, .string .empty, .int .i64 0], 5, 80⟩),
  (122, ⟨.func #[31] #[] false, .nilFunc, 1, 8⟩),
  (123, ⟨.func #[4] #[] false, .nilFunc, 1, 8⟩),
  (124, ⟨.func #[9, 31] #[] false, .nilFunc, 1, 8⟩),
  (125, ⟨.func #[5, 5, 5] #[4] false, .nilFunc, 1, 8⟩),
  (126, ⟨.func #[23, 3, 3, 97] #[] false, .nilFunc, 1, 8⟩),
  (127, ⟨.func #[23, 3, 3, 3, 97] #[] false, .nilFunc, 1, 8⟩),
  (128, ⟨.func #[104] #[3] false, .nilFunc, 1, 8⟩),
  (129, ⟨.func #[9, 3] #[3] false, .nilFunc, 1, 8⟩),
  (130, ⟨.func #[9] #[3] false, .nilFunc, 1, 8⟩),
  (132, ⟨.func #[4, 9, 3] #[3, 3] false, .nilFunc, 1, 8⟩),
  (133, ⟨.array 32 5, .agg #[.int .u8 0, .int .u8 0, .int .u8 0, .int .u8 0, .int .u8 0, .int .u8 0, .int .u8 0, .int .u8 0, .int .u8 0, .int .u8 0, .int .u8 0, .int .u8 0, .int .u8 0, .int .u8 0, .int .u8 0, .int .u8 0, .int .u8 0, .int .u8 0, .int .u8 0, .int .u8 0, .int .u8 0, .int .u8 0, .int .u8 0, .int .u8 0, .int .u8 0, .int .u8 0, .int .u8 0, .int .u8 0, .int .u8 0, .int .u8 0, .int .u8 0, .int .u8 0], 32, 32⟩),
  (134, ⟨.array 64 5, .agg #[.int .u8 0, .int .u8 0, .int .u8 0, .int .u8 0, .int .u8 0, .int .u8 0, .int .u8 0, .int .u8 0, .int .u8 0, .int .u8 0, .int .u8 0, .int .u8 0, .int .u8 0, .int .u8 0, .int .u8 0, .int .u8 0, .int .u8 0, .int .u8 0, .int .u8 0, .int .u8 0, .int .u8 0, .int .u8 0, .int .u8 0, .int .u8 0, .int .u8 0, .int .u8 0, .int .u8 0, .int .u8 0, .int .u8 0, .int .u8 0, .int .u8 0, .int .u8 0, .int .u8 0, .int .u8 0, .int .u8 0, .int .u8 0, .int .u8 0, .int .u8 0, .int .u8 0, .int .u8 0, .int .u8 0, .int .u8 0, .int .u8 0, .int .u8 0, .int .u8 0, .int .u8 0, .int .u8 0, .int .u8 0, .int .u8 0, .int .u8 0, .int .u8 0, .int .u8 0, .int .u8 0, .int .u8 0, .int .u8 0, .int .u8 0, .int .u8 0, .int .u8 0, .int .u8 0, .int .u8 0, .int .u8 0, .int .u8 0, .int .u8 0, .int .u8 0], 64, 64⟩),
  (135, ⟨.func #[3] #[5] false, .nilFunc, 1, 8⟩),
  (136, ⟨.struct #[{ name := "_interface", type := 17, offset := 0, embedded := false, tag := "", pkgPath := "runtime", byteOffset := 0 }, { name := "concrete", type := 17, offset := 1, embedded := false, tag := "", pkgPath := "runtime", byteOffset := 8 }, { name := "asserted", type := 17, offset := 2, embedded := false, tag := "", pkgPath := "runtime", byteOffset := 16 }, { name := "missingMethod",   type := 9,   offset := 3,   embedded := false,   tag := "",   pkgPath := "runtime",   byteOffset := 24 }], .agg #[.pointer none, .pointer none, .pointer none, .string .empty], 4, 40⟩),
  (137, ⟨.struct #[{ name := "_interface", type := 17, offset := 0, embedded := false, tag := "", pkgPath := "runtime", byteOffset := 0 }, { name := "concrete", type := 17, offset := 1, embedded := false, tag := "", pkgPath := "runtime", byteOffset := 8 }, { name := "asserted", type := 17, offset := 2, embedded := false, tag := "", pkgPath := "runtime", byteOffset := 16 }, { name := "missingMethod",   type := 9,   offset := 3,   embedded := false,   tag := "",   pkgPath := "runtime",   byteOffset := 24 }], .agg #[.pointer none, .pointer none, .pointer none, .string .empty], 4, 40⟩),
  (138, ⟨.array 0 16, .agg #[], 0, 0⟩),
  (139, ⟨.struct #[{ name := "_", type := 138, offset := 0, embedded := false, tag := "", pkgPath := "runtime", byteOffset := 0 }], .agg #[], 0, 0⟩),
  (140, ⟨.struct #[{ name := "_", type := 138, offset := 0, embedded := false, tag := "", pkgPath := "runtime", byteOffset := 0 }], .agg #[], 0, 0⟩),
  (141, ⟨.int .u8, .int .u8 0, 1, 1⟩),
  (142, ⟨.int .u8, .int .u8 0, 1, 1⟩),
  (143, ⟨.func #[149, 149] #[4] false, .nilFunc, 1, 8⟩),
  (144, ⟨.pointer 5, .pointer none, 1, 8⟩),
  (145, ⟨.int .i32, .int .i32 0, 1, 4⟩),
  (146, ⟨.int .i32, .int .i32 0, 1, 4⟩),
  (147, ⟨.struct #[{ name := "Size_", type := 12, offset := 0, embedded := false, tag := "", pkgPath := "", byteOffset := 0 }, { name := "PtrBytes", type := 12, offset := 1, embedded := false, tag := "", pkgPath := "", byteOffset := 8 }, { name := "Hash", type := 104, offset := 2, embedded := false, tag := "", pkgPath := "", byteOffset := 16 }, { name := "TFlag", type := 141, offset := 3, embedded := false, tag := "", pkgPath := "", byteOffset := 20 }, { name := "Align_", type := 5, offset := 4, embedded := false, tag := "", pkgPath := "", byteOffset := 21 }, { name := "FieldAlign_", type := 5, offset := 5, embedded := false, tag := "", pkgPath := "", byteOffset := 22 }, { name := "Kind_", type := 142, offset := 6, embedded := false, tag := "", pkgPath := "", byteOffset := 23 }, { name := "Equal", type := 143, offset := 7, embedded := false, tag := "", pkgPath := "", byteOffset := 24 }, { name := "GCData", type := 144, offset := 8, embedded := false, tag := "", pkgPath := "", byteOffset := 32 }, { name := "Str", type := 145, offset := 9, embedded := false, tag := "", pkgPath := "", byteOffset := 40 }, { name := "PtrToThis", type := 146, offset := 10, embedded := false, tag := "", pkgPath := "", byteOffset := 44 }], .agg #[.int .u64 0, .int .u64 0, .int .u32 0, .int .u8 0, .int .u8 0, .int .u8 0, .int .u8 0, .nilFunc, .pointer none, .int .i32 0, .int .i32 0], 11, 48⟩),
  (148, ⟨.struct #[{ name := "Size_", type := 12, offset := 0, embedded := false, tag := "", pkgPath := "", byteOffset := 0 }, { name := "PtrBytes", type := 12, offset := 1, embedded := false, tag := "", pkgPath := "", byteOffset := 8 }, { name := "Hash", type := 104, offset := 2, embedded := false, tag := "", pkgPath := "", byteOffset := 16 }, { name := "TFlag", type := 141, offset := 3, embedded := false, tag := "", pkgPath := "", byteOffset := 20 }, { name := "Align_", type := 5, offset := 4, embedded := false, tag := "", pkgPath := "", byteOffset := 21 }, { name := "FieldAlign_", type := 5, offset := 5, embedded := false, tag := "", pkgPath := "", byteOffset := 22 }, { name := "Kind_", type := 142, offset := 6, embedded := false, tag := "", pkgPath := "", byteOffset := 23 }, { name := "Equal", type := 143, offset := 7, embedded := false, tag := "", pkgPath := "", byteOffset := 24 }, { name := "GCData", type := 144, offset := 8, embedded := false, tag := "", pkgPath := "", byteOffset := 32 }, { name := "Str", type := 145, offset := 9, embedded := false, tag := "", pkgPath := "", byteOffset := 40 }, { name := "PtrToThis", type := 146, offset := 10, embedded := false, tag := "", pkgPath := "", byteOffset := 44 }], .agg #[.int .u64 0, .int .u64 0, .int .u32 0, .int .u8 0, .int .u8 0, .int .u8 0, .int .u8 0, .nilFunc, .pointer none, .int .i32 0, .int .i32 0], 11, 48⟩)]
theorem TOK : TyOK Tryd.prog T := TyOK.mk (by kernel_rfl)
theorem mixed : Tryd.prog.follows .mixedOrders = true := by kernel_rfl
theorem ent3 : Ent Tryd.prog 3 := ⟨enters_of Tryd.func3 (by kernel_rfl) rfl⟩
theorem ent4 : Ent Tryd.prog 4 := ⟨enters_of Tryd.func4 (by kernel_rfl) rfl⟩
theorem ent5 : Ent Tryd.prog 5 := ⟨enters_of Tryd.func5 (by kernel_rfl) rfl⟩
theorem ent6 : Ent Tryd.prog 6 := ⟨enters_of Tryd.func6 (by kernel_rfl) rfl⟩
theorem ent7 : Ent Tryd.prog 7 := ⟨enters_of Tryd.func7 (by kernel_rfl) rfl⟩
theorem ent8 : Ent Tryd.prog 8 := ⟨enters_of Tryd.func8 (by kernel_rfl) rfl⟩
theorem ent9 : Ent Tryd.prog 9 := ⟨enters_of Tryd.func9 (by kernel_rfl) rfl⟩
theorem ent10 : Ent Tryd.prog 10 := ⟨enters_of Tryd.func10 (by kernel_rfl) rfl⟩
theorem ent11 : Ent Tryd.prog 11 := ⟨enters_of Tryd.func11 (by kernel_rfl) rfl⟩
theorem ent12 : Ent Tryd.prog 12 := ⟨enters_of Tryd.func12 (by kernel_rfl) rfl⟩
theorem ent13 : Ent Tryd.prog 13 := ⟨enters_of Tryd.func13 (by kernel_rfl) rfl⟩
theorem ent14 : Ent Tryd.prog 14 := ⟨enters_of Tryd.func14 (by kernel_rfl) rfl⟩
theorem ent15 : Ent Tryd.prog 15 := ⟨enters_of Tryd.func15 (by kernel_rfl) rfl⟩
theorem ent16 : Ent Tryd.prog 16 := ⟨enters_of Tryd.func16 (by kernel_rfl) rfl⟩
theorem ent17 : Ent Tryd.prog 17 := ⟨enters_of Tryd.func17 (by kernel_rfl) rfl⟩
theorem ent18 : Ent Tryd.prog 18 := ⟨enters_of Tryd.func18 (by kernel_rfl) rfl⟩
theorem ent19 : Ent Tryd.prog 19 := ⟨enters_of Tryd.func19 (by kernel_rfl) rfl⟩
theorem ent20 : Ent Tryd.prog 20 := ⟨enters_of Tryd.func20 (by kernel_rfl) rfl⟩
theorem ent21 : Ent Tryd.prog 21 := ⟨enters_of Tryd.func21 (by kernel_rfl) rfl⟩
theorem ent22 : Ent Tryd.prog 22 := ⟨enters_of Tryd.func22 (by kernel_rfl) rfl⟩
theorem ent23 : Ent Tryd.prog 23 := ⟨enters_of Tryd.func23 (by kernel_rfl) rfl⟩
theorem ent24 : Ent Tryd.prog 24 := ⟨enters_of Tryd.func24 (by kernel_rfl) rfl⟩
theorem ent25 : Ent Tryd.prog 25 := ⟨enters_of Tryd.func25 (by kernel_rfl) rfl⟩
theorem ent26 : Ent Tryd.prog 26 := ⟨enters_of Tryd.func26 (by kernel_rfl) rfl⟩
theorem ent27 : Ent Tryd.prog 27 := ⟨enters_of Tryd.func27 (by kernel_rfl) rfl⟩
theorem ent28 : Ent Tryd.prog 28 := ⟨enters_of Tryd.func28 (by kernel_rfl) rfl⟩
theorem ent29 : Ent Tryd.prog 29 := ⟨enters_of Tryd.func29 (by kernel_rfl) rfl⟩
theorem ent30 : Ent Tryd.prog 30 := ⟨enters_of Tryd.func30 (by kernel_rfl) rfl⟩
theorem ent31 : Ent Tryd.prog 31 := ⟨enters_of Tryd.func31 (by kernel_rfl) rfl⟩
theorem ent32 : Ent Tryd.prog 32 := ⟨enters_of Tryd.func32 (by kernel_rfl) rfl⟩
theorem ent33 : Ent Tryd.prog 33 := ⟨enters_of Tryd.func33 (by kernel_rfl) rfl⟩
theorem ent34 : Ent Tryd.prog 34 := ⟨enters_of Tryd.func34 (by kernel_rfl) rfl⟩
theorem ent35 : Ent Tryd.prog 35 := ⟨enters_of Tryd.func35 (by kernel_rfl) rfl⟩
theorem ent36 : Ent Tryd.prog 36 := ⟨enters_of Tryd.func36 (by kernel_rfl) rfl⟩
theorem ent37 : Ent Tryd.prog 37 := ⟨enters_of Tryd.func37 (by kernel_rfl) rfl⟩
theorem ent38 : Ent Tryd.prog 38 := ⟨enters_of Tryd.func38 (by kernel_rfl) rfl⟩
theorem ent39 : Ent Tryd.prog 39 := ⟨enters_of Tryd.func39 (by kernel_rfl) rfl⟩
theorem ent40 : Ent Tryd.prog 40 := ⟨enters_of Tryd.func40 (by kernel_rfl) rfl⟩
theorem ent41 : Ent Tryd.prog 41 := ⟨enters_of Tryd.func41 (by kernel_rfl) rfl⟩
theorem ent42 : Ent Tryd.prog 42 := ⟨enters_of Tryd.func42 (by kernel_rfl) rfl⟩
theorem ent43 : Ent Tryd.prog 43 := ⟨enters_of Tryd.func43 (by kernel_rfl) rfl⟩
theorem ent44 : Ent Tryd.prog 44 := ⟨enters_of Tryd.func44 (by kernel_rfl) rfl⟩
theorem ent45 : Ent Tryd.prog 45 := ⟨enters_of Tryd.func45 (by kernel_rfl) rfl⟩
theorem ent46 : Ent Tryd.prog 46 := ⟨enters_of Tryd.func46 (by kernel_rfl) rfl⟩
theorem ent47 : Ent Tryd.prog 47 := ⟨enters_of Tryd.func47 (by kernel_rfl) rfl⟩
theorem ent48 : Ent Tryd.prog 48 := ⟨enters_of Tryd.func48 (by kernel_rfl) rfl⟩
theorem ent49 : Ent Tryd.prog 49 := ⟨enters_of Tryd.func49 (by kernel_rfl) rfl⟩
theorem ent50 : Ent Tryd.prog 50 := ⟨enters_of Tryd.func50 (by kernel_rfl) rfl⟩
theorem ent51 : Ent Tryd.prog 51 := ⟨enters_of Tryd.func51 (by kernel_rfl) rfl⟩
theorem ent52 : Ent Tryd.prog 52 := ⟨enters_of Tryd.func52 (by kernel_rfl) rfl⟩
theorem ent53 : Ent Tryd.prog 53 := ⟨enters_of Tryd.func53 (by kernel_rfl) rfl⟩
theorem ent54 : Ent Tryd.prog 54 := ⟨enters_of Tryd.func54 (by kernel_rfl) rfl⟩
theorem ent55 : Ent Tryd.prog 55 := ⟨enters_of Tryd.func55 (by kernel_rfl) rfl⟩
theorem ent56 : Ent Tryd.prog 56 := ⟨enters_of Tryd.func56 (by kernel_rfl) rfl⟩
theorem ent57 : Ent Tryd.prog 57 := ⟨enters_of Tryd.func57 (by kernel_rfl) rfl⟩
theorem ent58 : Ent Tryd.prog 58 := ⟨enters_of Tryd.func58 (by kernel_rfl) rfl⟩
theorem ent59 : Ent Tryd.prog 59 := ⟨enters_of Tryd.func59 (by kernel_rfl) rfl⟩
theorem ent60 : Ent Tryd.prog 60 := ⟨enters_of Tryd.func60 (by kernel_rfl) rfl⟩
theorem ent61 : Ent Tryd.prog 61 := ⟨enters_of Tryd.func61 (by kernel_rfl) rfl⟩
theorem ent62 : Ent Tryd.prog 62 := ⟨enters_of Tryd.func62 (by kernel_rfl) rfl⟩
theorem ent63 : Ent Tryd.prog 63 := ⟨enters_of Tryd.func63 (by kernel_rfl) rfl⟩
theorem ent64 : Ent Tryd.prog 64 := ⟨enters_of Tryd.func64 (by kernel_rfl) rfl⟩
theorem ent65 : Ent Tryd.prog 65 := ⟨enters_of Tryd.func65 (by kernel_rfl) rfl⟩
theorem ent66 : Ent Tryd.prog 66 := ⟨enters_of Tryd.func66 (by kernel_rfl) rfl⟩
theorem ent67 : Ent Tryd.prog 67 := ⟨enters_of Tryd.func67 (by kernel_rfl) rfl⟩
theorem ent68 : Ent Tryd.prog 68 := ⟨enters_of Tryd.func68 (by kernel_rfl) rfl⟩
theorem ent69 : Ent Tryd.prog 69 := ⟨enters_of Tryd.func69 (by kernel_rfl) rfl⟩
theorem ent70 : Ent Tryd.prog 70 := ⟨enters_of Tryd.func70 (by kernel_rfl) rfl⟩
theorem ent71 : Ent Tryd.prog 71 := ⟨enters_of Tryd.func71 (by kernel_rfl) rfl⟩
theorem ent72 : Ent Tryd.prog 72 := ⟨enters_of Tryd.func72 (by kernel_rfl) rfl⟩
theorem ent73 : Ent Tryd.prog 73 := ⟨enters_of Tryd.func73 (by kernel_rfl) rfl⟩
theorem ent74 : Ent Tryd.prog 74 := ⟨enters_of Tryd.func74 (by kernel_rfl) rfl⟩
theorem ent75 : Ent Tryd.prog 75 := ⟨enters_of Tryd.func75 (by kernel_rfl) rfl⟩
theorem ent76 : Ent Tryd.prog 76 := ⟨enters_of Tryd.func76 (by kernel_rfl) rfl⟩
theorem ent77 : Ent Tryd.prog 77 := ⟨enters_of Tryd.func77 (by kernel_rfl) rfl⟩
theorem ent78 : Ent Tryd.prog 78 := ⟨enters_of Tryd.func78 (by kernel_rfl) rfl⟩
theorem ent79 : Ent Tryd.prog 79 := ⟨enters_of Tryd.func79 (by kernel_rfl) rfl⟩
theorem ent80 : Ent Tryd.prog 80 := ⟨enters_of Tryd.func80 (by kernel_rfl) rfl⟩
theorem ent81 : Ent Tryd.prog 81 := ⟨enters_of Tryd.func81 (by kernel_rfl) rfl⟩
theorem ent82 : Ent Tryd.prog 82 := ⟨enters_of Tryd.func82 (by kernel_rfl) rfl⟩
theorem ent83 : Ent Tryd.prog 83 := ⟨enters_of Tryd.func83 (by kernel_rfl) rfl⟩
theorem ent84 : Ent Tryd.prog 84 := ⟨enters_of Tryd.func84 (by kernel_rfl) rfl⟩
theorem ent85 : Ent Tryd.prog 85 := ⟨enters_of Tryd.func85 (by kernel_rfl) rfl⟩
theorem ent86 : Ent Tryd.prog 86 := ⟨enters_of Tryd.func86 (by kernel_rfl) rfl⟩
theorem ent87 : Ent Tryd.prog 87 := ⟨enters_of Tryd.func87 (by kernel_rfl) rfl⟩
theorem ent88 : Ent Tryd.prog 88 := ⟨enters_of Tryd.func88 (by kernel_rfl) rfl⟩
theorem ent89 : Ent Tryd.prog 89 := ⟨enters_of Tryd.func89 (by kernel_rfl) rfl⟩
theorem ent90 : Ent Tryd.prog 90 := ⟨enters_of Tryd.func90 (by kernel_rfl) rfl⟩
theorem ent91 : Ent Tryd.prog 91 := ⟨enters_of Tryd.func91 (by kernel_rfl) rfl⟩
theorem ent92 : Ent Tryd.prog 92 := ⟨enters_of Tryd.func92 (by kernel_rfl) rfl⟩
theorem ent93 : Ent Tryd.prog 93 := ⟨enters_of Tryd.func93 (by kernel_rfl) rfl⟩
theorem ent94 : Ent Tryd.prog 94 := ⟨enters_of Tryd.func94 (by kernel_rfl) rfl⟩
theorem ent95 : Ent Tryd.prog 95 := ⟨enters_of Tryd.func95 (by kernel_rfl) rfl⟩
theorem ent96 : Ent Tryd.prog 96 := ⟨enters_of Tryd.func96 (by kernel_rfl) rfl⟩
theorem ent97 : Ent Tryd.prog 97 := ⟨enters_of Tryd.func97 (by kernel_rfl) rfl⟩
theorem ent98 : Ent Tryd.prog 98 := ⟨enters_of Tryd.func98 (by kernel_rfl) rfl⟩
theorem ent99 : Ent Tryd.prog 99 := ⟨enters_of Tryd.func99 (by kernel_rfl) rfl⟩
theorem ent100 : Ent Tryd.prog 100 := ⟨enters_of Tryd.func100 (by kernel_rfl) rfl⟩
theorem ent101 : Ent Tryd.prog 101 := ⟨enters_of Tryd.func101 (by kernel_rfl) rfl⟩
theorem ent102 : Ent Tryd.prog 102 := ⟨enters_of Tryd.func102 (by kernel_rfl) rfl⟩
theorem ent103 : Ent Tryd.prog 103 := ⟨enters_of Tryd.func103 (by kernel_rfl) rfl⟩
theorem ent104 : Ent Tryd.prog 104 := ⟨enters_of Tryd.func104 (by kernel_rfl) rfl⟩
theorem ent105 : Ent Tryd.prog 105 := ⟨enters_of Tryd.func105 (by kernel_rfl) rfl⟩
theorem ent106 : Ent Tryd.prog 106 := ⟨enters_of Tryd.func106 (by kernel_rfl) rfl⟩
theorem ent107 : Ent Tryd.prog 107 := ⟨enters_of Tryd.func107 (by kernel_rfl) rfl⟩
theorem ent108 : Ent Tryd.prog 108 := ⟨enters_of Tryd.func108 (by kernel_rfl) rfl⟩
theorem ent109 : Ent Tryd.prog 109 := ⟨enters_of Tryd.func109 (by kernel_rfl) rfl⟩
theorem ent110 : Ent Tryd.prog 110 := ⟨enters_of Tryd.func110 (by kernel_rfl) rfl⟩
theorem ent111 : Ent Tryd.prog 111 := ⟨enters_of Tryd.func111 (by kernel_rfl) rfl⟩
theorem ent136 : Ent Tryd.prog 136 := ⟨enters_of Tryd.func136 (by kernel_rfl) rfl⟩
end Go.Proofs.YtbmeafeojcgndaaDoor
