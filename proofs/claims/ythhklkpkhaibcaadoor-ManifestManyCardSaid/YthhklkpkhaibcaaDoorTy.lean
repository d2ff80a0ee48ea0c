/- The types and the functions of the translation, as the walk asks for them. (Laid by a program: wip/tools/mkty.py.) -/
import Derived.Test.YthhklkpkhaibcaaDoorChecked
import Derived.KernelRfl
import Derived.Test.YthhklkpkhaibcaaDoorSlText
set_option linter.unusedVariables false
set_option linter.unusedSimpArgs false
namespace Go.Proofs.YthhklkpkhaibcaaDoor
open Go Go.Sl
set_option maxRecDepth 100000
def T : List (Nat × TI) := [
  (0, ⟨.tuple #[], .tuple #[], 1, 0⟩),
  (1, ⟨.func #[] #[] false, .nilFunc, 1, 8⟩),
  (2, ⟨.int .i64, .int .i64 0, 1, 8⟩),
  (3, ⟨.int .i64, .int .i64 0, 1, 8⟩),
  (4, ⟨.bool, .bool false, 1, 1⟩),
  (5, ⟨.int .u8, .int .u8 0, 1, 1⟩),
  (6, ⟨.int .u8, .int .u8 0, 1, 1⟩),
  (7, ⟨.struct #[{ name := "x", type := 2, offset := 0, embedded := false, tag := "", pkgPath := "runtime", byteOffset := 0 }, { name := "y", type := 3, offset := 1, embedded := false, tag := "", pkgPath := "runtime", byteOffset := 8 }, { name := "signed", type := 4, offset := 2, embedded := false, tag := "", pkgPath := "runtime", byteOffset := 16 }, { name := "code", type := 6, offset := 3, embedded := false, tag := "", pkgPath := "runtime", byteOffset := 17 }], .agg #[.int .i64 0, .int .i64 0, .bool false, .int .u8 0], 4, 24⟩),
  (8, ⟨.struct #[{ name := "x", type := 2, offset := 0, embedded := false, tag := "", pkgPath := "runtime", byteOffset := 0 }, { name := "y", type := 3, offset := 1, embedded := false, tag := "", pkgPath := "runtime", byteOffset := 8 }, { name := "signed", type := 4, offset := 2, embedded := false, tag := "", pkgPath := "runtime", byteOffset := 16 }, { name := "code", type := 6, offset := 3, embedded := false, tag := "", pkgPath := "runtime", byteOffset := 17 }], .agg #[.int .i64 0, .int .i64 0, .bool false, .int .u8 0], 4, 24⟩),
  (9, ⟨.string, .string .empty, 1, 16⟩),
  (10, ⟨.string, .string .empty, 1, 16⟩),
  (11, ⟨.string, .string .empty, 1, 16⟩),
  (12, ⟨.int .u64, .int .u64 0, 1, 8⟩),
  (13, ⟨.struct #[{ name := "msg", type := 9, offset := 0, embedded := false, tag := "", pkgPath := "runtime", byteOffset := 0 }, { name := "addr", type := 12, offset := 1, embedded := false, tag := "", pkgPath := "runtime", byteOffset := 16 }], .agg #[.string .empty, .int .u64 0], 2, 24⟩),
  (14, ⟨.struct #[{ name := "msg", type := 9, offset := 0, embedded := false, tag := "", pkgPath := "runtime", byteOffset := 0 }, { name := "addr", type := 12, offset := 1, embedded := false, tag := "", pkgPath := "runtime", byteOffset := 16 }], .agg #[.string .empty, .int .u64 0], 2, 24⟩),
  (15, ⟨.pointer 132, .pointer none, 1, 8⟩),
  (16, ⟨.pointer 135, .pointer none, 1, 8⟩),
  (17, ⟨.pointer 144, .pointer none, 1, 8⟩),
  (18, ⟨.struct #[{ name := "typ",   type := 17,   offset := 0,   embedded := false,   tag := "",   pkgPath := "internal/runtime/maps",   byteOffset := 0 }], .agg #[.pointer none], 1, 8⟩),
  (19, ⟨.struct #[{ name := "typ",   type := 17,   offset := 0,   embedded := false,   tag := "",   pkgPath := "internal/runtime/maps",   byteOffset := 0 }], .agg #[.pointer none], 1, 8⟩),
  (21, ⟨.int .i32, .int .i32 0, 1, 4⟩),
  (23, ⟨.func #[9] #[3, 4] false, .nilFunc, 1, 8⟩),
  (24, ⟨.func #[3] #[9] false, .nilFunc, 1, 8⟩),
  (25, ⟨.func #[3, 9] #[4] false, .nilFunc, 1, 8⟩),
  (26, ⟨.slice 9, .slice none 0 0, 1, 24⟩),
  (28, ⟨.func #[3, 3] #[26, 4] false, .nilFunc, 1, 8⟩),
  (29, ⟨.func #[3, 3, 3] #[4] false, .nilFunc, 1, 8⟩),
  (30, ⟨.slice 60, .slice none 0 0, 1, 24⟩),
  (31, ⟨.struct #[{ name := "Gen", type := 3, offset := 0, embedded := false, tag := "", pkgPath := "", byteOffset := 0 }, { name := "V", type := 3, offset := 1, embedded := false, tag := "", pkgPath := "", byteOffset := 8 }, { name := "Next", type := 3, offset := 2, embedded := false, tag := "", pkgPath := "", byteOffset := 16 }, { name := "Top", type := 3, offset := 3, embedded := false, tag := "", pkgPath := "", byteOffset := 24 }, { name := "Segs", type := 30, offset := 4, embedded := false, tag := "", pkgPath := "", byteOffset := 32 }], .agg #[.int .i64 0, .int .i64 0, .int .i64 0, .int .i64 0, .slice none 0 0], 5, 56⟩),
  (32, ⟨.struct #[{ name := "Gen", type := 3, offset := 0, embedded := false, tag := "", pkgPath := "", byteOffset := 0 }, { name := "V", type := 3, offset := 1, embedded := false, tag := "", pkgPath := "", byteOffset := 8 }, { name := "Next", type := 3, offset := 2, embedded := false, tag := "", pkgPath := "", byteOffset := 16 }, { name := "Top", type := 3, offset := 3, embedded := false, tag := "", pkgPath := "", byteOffset := 24 }, { name := "Segs", type := 30, offset := 4, embedded := false, tag := "", pkgPath := "", byteOffset := 32 }], .agg #[.int .i64 0, .int .i64 0, .int .i64 0, .int .i64 0, .slice none 0 0], 5, 56⟩),
  (33, ⟨.slice 42, .slice none 0 0, 1, 24⟩),
  (34, ⟨.slice 83, .slice none 0 0, 1, 24⟩),
  (35, ⟨.func #[32] #[32] false, .nilFunc, 1, 8⟩),
  (36, ⟨.int .i64, .int .i64 0, 1, 8⟩),
  (37, ⟨.func #[32] #[36] false, .nilFunc, 1, 8⟩),
  (38, ⟨.func #[] #[32] false, .nilFunc, 1, 8⟩),
  (39, ⟨.func #[33] #[33] false, .nilFunc, 1, 8⟩),
  (40, ⟨.slice 5, .slice none 0 0, 1, 24⟩),
  (41, ⟨.struct #[{ name := "Name", type := 9, offset := 0, embedded := false, tag := "", pkgPath := "", byteOffset := 0 }, { name := "Data", type := 40, offset := 1, embedded := false, tag := "", pkgPath := "", byteOffset := 16 }], .agg #[.string .empty, .slice none 0 0], 2, 40⟩),
  (42, ⟨.struct #[{ name := "Name", type := 9, offset := 0, embedded := false, tag := "", pkgPath := "", byteOffset := 0 }, { name := "Data", type := 40, offset := 1, embedded := false, tag := "", pkgPath := "", byteOffset := 16 }], .agg #[.string .empty, .slice none 0 0], 2, 40⟩),
  (43, ⟨.pointer 69, .pointer none, 1, 8⟩),
  (45, ⟨.func #[3, 33] #[43, 36] false, .nilFunc, 1, 8⟩),
  (46, ⟨.func #[3] #[] false, .nilFunc, 1, 8⟩),
  (48, ⟨.func #[43, 32] #[26, 36] false, .nilFunc, 1, 8⟩),
  (49, ⟨.func #[3, 34] #[33] true, .nilFunc, 1, 8⟩),
  (50, ⟨.func #[] #[33] false, .nilFunc, 1, 8⟩),
  (51, ⟨.func #[32, 3] #[4] false, .nilFunc, 1, 8⟩),
  (53, ⟨.func #[33, 9] #[40, 4] false, .nilFunc, 1, 8⟩),
  (54, ⟨.func #[40, 40] #[4] false, .nilFunc, 1, 8⟩),
  (55, ⟨.func #[] #[4] false, .nilFunc, 1, 8⟩),
  (56, ⟨.func #[33, 33] #[4] false, .nilFunc, 1, 8⟩),
  (57, ⟨.func #[32, 33, 3, 3, 34] #[4] false, .nilFunc, 1, 8⟩),
  (58, ⟨.func #[3] #[33] false, .nilFunc, 1, 8⟩),
  (59, ⟨.struct #[{ name := "Num", type := 3, offset := 0, embedded := false, tag := "", pkgPath := "", byteOffset := 0 }, { name := "Size", type := 3, offset := 1, embedded := false, tag := "", pkgPath := "", byteOffset := 8 }, { name := "Count", type := 3, offset := 2, embedded := false, tag := "", pkgPath := "", byteOffset := 16 }], .agg #[.int .i64 0, .int .i64 0, .int .i64 0], 3, 24⟩),
  (60, ⟨.struct #[{ name := "Num", type := 3, offset := 0, embedded := false, tag := "", pkgPath := "", byteOffset := 0 }, { name := "Size", type := 3, offset := 1, embedded := false, tag := "", pkgPath := "", byteOffset := 8 }, { name := "Count", type := 3, offset := 2, embedded := false, tag := "", pkgPath := "", byteOffset := 16 }], .agg #[.int .i64 0, .int .i64 0, .int .i64 0], 3, 24⟩),
  (61, ⟨.func #[40] #[40] false, .nilFunc, 1, 8⟩),
  (62, ⟨.func #[3] #[43, 36] false, .nilFunc, 1, 8⟩),
  (63, ⟨.func #[9] #[4] false, .nilFunc, 1, 8⟩),
  (64, ⟨.pointer 71, .pointer none, 1, 8⟩),
  (65, ⟨.map 9 64, .map none, 1, 8⟩),
  (66, ⟨.map 9 64, .map none, 1, 8⟩),
  (67, ⟨.slice 80, .slice none 0 0, 1, 24⟩),
  (68, ⟨.struct #[{ name := "quota", type := 3, offset := 0, embedded := false, tag := "", pkgPath := "annals/disk", byteOffset := 0 }, { name := "now", type := 66, offset := 1, embedded := false, tag := "", pkgPath := "annals/disk", byteOffset := 8 }, { name := "lasting", type := 66, offset := 2, embedded := false, tag := "", pkgPath := "annals/disk", byteOffset := 16 }, { name := "changes", type := 67, offset := 3, embedded := false, tag := "", pkgPath := "annals/disk", byteOffset := 24 }, { name := "armed", type := 4, offset := 4, embedded := false, tag := "", pkgPath := "annals/disk", byteOffset := 48 }, { name := "left", type := 3, offset := 5, embedded := false, tag := "", pkgPath := "annals/disk", byteOffset := 56 }, { name := "down", type := 4, offset := 6, embedded := false, tag := "", pkgPath := "annals/disk", byteOffset := 64 }], .agg #[.int .i64 0, .map none, .map none, .slice none 0 0, .bool false, .int .i64 0, .bool false], 7, 72⟩),
  (69, ⟨.struct #[{ name := "quota", type := 3, offset := 0, embedded := false, tag := "", pkgPath := "annals/disk", byteOffset := 0 }, { name := "now", type := 66, offset := 1, embedded := false, tag := "", pkgPath := "annals/disk", byteOffset := 8 }, { name := "lasting", type := 66, offset := 2, embedded := false, tag := "", pkgPath := "annals/disk", byteOffset := 16 }, { name := "changes", type := 67, offset := 3, embedded := false, tag := "", pkgPath := "annals/disk", byteOffset := 24 }, { name := "armed", type := 4, offset := 4, embedded := false, tag := "", pkgPath := "annals/disk", byteOffset := 48 }, { name := "left", type := 3, offset := 5, embedded := false, tag := "", pkgPath := "annals/disk", byteOffset := 56 }, { name := "down", type := 4, offset := 6, embedded := false, tag := "", pkgPath := "annals/disk", byteOffset := 64 }], .agg #[.int .i64 0, .map none, .map none, .slice none 0 0, .bool false, .int .i64 0, .bool false], 7, 72⟩),
  (70, ⟨.struct #[{ name := "data", type := 40, offset := 0, embedded := false, tag := "", pkgPath := "annals/disk", byteOffset := 0 }, { name := "synced", type := 3, offset := 1, embedded := false, tag := "", pkgPath := "annals/disk", byteOffset := 24 }], .agg #[.slice none 0 0, .int .i64 0], 2, 32⟩),
  (71, ⟨.struct #[{ name := "data", type := 40, offset := 0, embedded := false, tag := "", pkgPath := "annals/disk", byteOffset := 0 }, { name := "synced", type := 3, offset := 1, embedded := false, tag := "", pkgPath := "annals/disk", byteOffset := 24 }], .agg #[.slice none 0 0, .int .i64 0], 2, 32⟩),
  (72, ⟨.func #[66] #[66] false, .nilFunc, 1, 8⟩),
  (73, ⟨.map 3 74, .map none, 1, 8⟩),
  (74, ⟨.struct #[], .agg #[], 0, 0⟩),
  (75, ⟨.func #[] #[26] false, .nilFunc, 1, 8⟩),
  (77, ⟨.func #[9] #[36] false, .nilFunc, 1, 8⟩),
  (78, ⟨.func #[] #[36] false, .nilFunc, 1, 8⟩),
  (79, ⟨.struct #[{ name := "from", type := 9, offset := 0, embedded := false, tag := "", pkgPath := "annals/disk", byteOffset := 0 }, { name := "to", type := 9, offset := 1, embedded := false, tag := "", pkgPath := "annals/disk", byteOffset := 16 }, { name := "made", type := 64, offset := 2, embedded := false, tag := "", pkgPath := "annals/disk", byteOffset := 32 }], .agg #[.string .empty, .string .empty, .pointer none], 3, 40⟩),
  (80, ⟨.struct #[{ name := "from", type := 9, offset := 0, embedded := false, tag := "", pkgPath := "annals/disk", byteOffset := 0 }, { name := "to", type := 9, offset := 1, embedded := false, tag := "", pkgPath := "annals/disk", byteOffset := 16 }, { name := "made", type := 64, offset := 2, embedded := false, tag := "", pkgPath := "annals/disk", byteOffset := 32 }], .agg #[.string .empty, .string .empty, .pointer none], 3, 40⟩),
  (81, ⟨.func #[80] #[] false, .nilFunc, 1, 8⟩),
  (82, ⟨.struct #[{ name := "Keep", type := 3, offset := 0, embedded := false, tag := "", pkgPath := "", byteOffset := 0 }, { name := "Zero", type := 3, offset := 1, embedded := false, tag := "", pkgPath := "", byteOffset := 8 }], .agg #[.int .i64 0, .int .i64 0], 2, 16⟩),
  (83, ⟨.struct #[{ name := "Keep", type := 3, offset := 0, embedded := false, tag := "", pkgPath := "", byteOffset := 0 }, { name := "Zero", type := 3, offset := 1, embedded := false, tag := "", pkgPath := "", byteOffset := 8 }], .agg #[.int .i64 0, .int .i64 0], 2, 16⟩),
  (84, ⟨.func #[20] #[20] false, .nilFunc, 1, 8⟩),
  (86, ⟨.func #[9] #[64, 36] false, .nilFunc, 1, 8⟩),
  (87, ⟨.func #[80] #[36] false, .nilFunc, 1, 8⟩),
  (88, ⟨.func #[90] #[26] false, .nilFunc, 1, 8⟩),
  (89, ⟨.func #[63] #[] false, .nilFunc, 1, 8⟩),
  (90, ⟨.func #[63] #[] false, .nilFunc, 1, 8⟩),
  (91, ⟨.func #[66] #[90] false, .nilFunc, 1, 8⟩),
  (92, ⟨.func #[2, 3] #[9] false, .nilFunc, 1, 8⟩),
  (93, ⟨.func #[26] #[] false, .nilFunc, 1, 8⟩),
  (94, ⟨.array 24 5, .agg #[.int .u8 0, .int .u8 0, .int .u8 0, .int .u8 0, .int .u8 0, .int .u8 0, .int .u8 0, .int .u8 0, .int .u8 0, .int .u8 0, .int .u8 0, .int .u8 0, .int .u8 0, .int .u8 0, .int .u8 0, .int .u8 0, .int .u8 0, .int .u8 0, .int .u8 0, .int .u8 0, .int .u8 0, .int .u8 0, .int .u8 0, .int .u8 0], 24, 24⟩),
  (95, ⟨.int .u64, .int .u64 0, 1, 8⟩),
  (96, ⟨.func #[95] #[3] false, .nilFunc, 1, 8⟩),
  (97, ⟨.func #[40, 95] #[] false, .nilFunc, 1, 8⟩),
  (99, ⟨.func #[40, 95, 3, 4, 4] #[40, 9] false, .nilFunc, 1, 8⟩),
  (100, ⟨.func #[26, 90] #[26] false, .nilFunc, 1, 8⟩),
  (101, ⟨.func #[26, 3, 3, 3] #[] false, .nilFunc, 1, 8⟩),
  (102, ⟨.func #[103] #[3] false, .nilFunc, 1, 8⟩),
  (103, ⟨.int .u64, .int .u64 0, 1, 8⟩),
  (104, ⟨.func #[3] #[3] false, .nilFunc, 1, 8⟩),
  (105, ⟨.func #[4] #[3] false, .nilFunc, 1, 8⟩),
  (106, ⟨.array 20 95, .agg #[.int .u64 0, .int .u64 0, .int .u64 0, .int .u64 0, .int .u64 0, .int .u64 0, .int .u64 0, .int .u64 0, .int .u64 0, .int .u64 0, .int .u64 0, .int .u64 0, .int .u64 0, .int .u64 0, .int .u64 0, .int .u64 0, .int .u64 0, .int .u64 0, .int .u64 0, .int .u64 0], 20, 160⟩),
  (107, ⟨.int .u32, .int .u32 0, 1, 4⟩),
  (108, ⟨.array 65 5, .agg #[.int .u8 0, .int .u8 0, .int .u8 0, .int .u8 0, .int .u8 0, .int .u8 0, .int .u8 0, .int .u8 0, .int .u8 0, .int .u8 0, .int .u8 0, .int .u8 0, .int .u8 0, .int .u8 0, .int .u8 0, .int .u8 0, .int .u8 0, .int .u8 0, .int .u8 0, .int .u8 0, .int .u8 0, .int .u8 0, .int .u8 0, .int .u8 0, .int .u8 0, .int .u8 0, .int .u8 0, .int .u8 0, .int .u8 0, .int .u8 0, .int .u8 0, .int .u8 0, .int .u8 0, .int .u8 0, .int .u8 0, .int .u8 0, .int .u8 0, .int .u8 0, .int .u8 0, .int .u8 0, .int .u8 0, .int .u8 0, .int .u8 0, .int .u8 0, .int .u8 0, .int .u8 0, .int .u8 0, .int .u8 0, .int .u8 0, .int .u8 0, .int .u8 0, .int .u8 0, .int .u8 0, .int .u8 0, .int .u8 0, .int .u8 0, .int .u8 0, .int .u8 0, .int .u8 0, .int .u8 0, .int .u8 0, .int .u8 0, .int .u8 0, .int .u8 0, .int .u8 0], 65, 65⟩),
  (109, ⟨.func #[3] #[4] false, .nilFunc, 1, 8⟩),
  (110, ⟨.func #[26, 3, 3] #[] false, .nilFunc, 1, 8⟩),
  (111, ⟨.int .i64, .int .i64 0, 1, 8⟩),
  (113, ⟨.func #[26, 3, 3] #[3, 111] false, .nilFunc, 1, 8⟩),
  (114, ⟨.func #[26, 3, 3] #[4] false, .nilFunc, 1, 8⟩),
  (115, ⟨.func #[9, 9] #[4] false, .nilFunc, 1, 8⟩),
  (116, ⟨.func #[26, 3, 3, 3] #[3] false, .nilFunc, 1, 8⟩),
  (117, ⟨.func #[26, 3, 3, 3] #[3, 4] false, .nilFunc, 1, 8⟩),
  (118, ⟨.func #[107] #[3] false, .nilFunc, 1, 8⟩),
  (119, ⟨.int .u64, .int .u64 0, 1, 8⟩),
  (120, ⟨.func #[3] #[103] false, .nilFunc, 1, 8⟩),
  (121, ⟨.func #[] #[95] false, .nilFunc, 1, 8⟩),
  (122, ⟨.func #[26, 3, 123] #[3] false, .nilFunc, 1, 8⟩),
  (123, ⟨.pointer 3, .pointer none, 1, 8⟩),
  (124, ⟨.func #[26, 3, 3, 3, 123] #[3] false, .nilFunc, 1, 8⟩),
  (125, ⟨.array 32 5, .agg #[.int .u8 0, .int .u8 0, .int .u8 0, .int .u8 0, .int .u8 0, .int .u8 0, .int .u8 0, .int .u8 0, .int .u8 0, .int .u8 0, .int .u8 0, .int .u8 0, .int .u8 0, .int .u8 0, .int .u8 0, .int .u8 0, .int .u8 0, .int .u8 0, .int .u8 0, .int .u8 0, .int .u8 0, .int .u8 0, .int .u8 0, .int .u8 0, .int .u8 0, .int .u8 0, .int .u8 0, .int .u8 0, .int .u8 0, .int .u8 0, .int .u8 0, .int .u8 0], 32, 32⟩),
  (126, ⟨.array 64 5, .agg #[.int .u8 0, .int .u8 0, .int .u8 0, .int .u8 0, .int .u8 0, .int .u8 0, .int .u8 0, .int .u8 0, .int .u8 0, .int .u8 0, .int .u8 0, .int .u8 0, .int .u8 0, .int .u8 0, .int .u8 0, .int .u8 0, .int .u8 0, .int .u8 0, .int .u8 0, .int .u8 0, .int .u8 0, .int .u8 0, .int .u8 0, .int .u8 0, .int .u8 0, .int .u8 0, .int .u8 0, .int .u8 0, .int .u8 0, .int .u8 0, .int .u8 0, .int .u8 0, .int .u8 0, .int .u8 0, .int .u8 0, .int .u8 0, .int .u8 0, .int .u8 0, .int .u8 0, .int .u8 0, .int .u8 0, .int .u8 0, .int .u8 0, .int .u8 0, .int .u8 0, .int .u8 0, .int .u8 0, .int .u8 0, .int .u8 0, .int .u8 0, .int .u8 0, .int .u8 0, .int .u8 0, .int .u8 0, .int .u8 0, .int .u8 0, .int .u8 0, .int .u8 0, .int .u8 0, .int .u8 0, .int .u8 0, .int .u8 0, .int .u8 0, .int .u8 0], 64, 64⟩),
  (127, ⟨.pointer 119, .pointer none, 1, 8⟩),
  (129, ⟨.func #[26, 3, 3, 123] #[3, 3] false, .nilFunc, 1, 8⟩),
  (130, ⟨.func #[] #[9] false, .nilFunc, 1, 8⟩),
  (131, ⟨.struct #[{ name := "_interface", type := 17, offset := 0, embedded := false, tag := "", pkgPath := "runtime", byteOffset := 0 }, { name := "concrete", type := 17, offset := 1, embedded := false, tag := "", pkgPath := "runtime", byteOffset := 8 }, { name := "asserted", type := 17, offset := 2, embedded := false, tag := "", pkgPath := "runtime", byteOffset := 16 }, { name := "missingMethod",   type := 9,   offset := 3,   embedded := false,   tag := "",   pkgPath := "runtime",   byteOffset := 24 }], .agg #[.pointer none, .pointer none, .pointer none, .string .empty], 4, 40⟩),
  (132, ⟨.struct #[{ name := "_interface", type := 17, offset := 0, embedded := false, tag := "", pkgPath := "runtime", byteOffset := 0 }, { name := "concrete", type := 17, offset := 1, embedded := false, tag := "", pkgPath := "runtime", byteOffset := 8 }, { name := "asserted", type := 17, offset := 2, embedded := false, tag := "", pkgPath := "runtime", byteOffset := 16 }, { name := "missingMethod",   type := 9,   offset := 3,   embedded := false,   tag := "",   pkgPath := "runtime",   byteOffset := 24 }], .agg #[.pointer none, .pointer none, .pointer none, .string .empty], 4, 40⟩),
  (133, ⟨.array 0 16, .agg #[], 0, 0⟩),
  (134, ⟨.struct #[{ name := "_", type := 133, offset := 0, embedded := false, tag := "", pkgPath := "runtime", byteOffset := 0 }], .agg #[], 0, 0⟩),
  (135, ⟨.struct #[{ name := "_", type := 133, offset := 0, embedded := false, tag := "", pkgPath := "runtime", byteOffset := 0 }], .agg #[], 0, 0⟩),
  (136, ⟨.func #[] #[3] false, .nilFunc, 1, 8⟩),
  (137, ⟨.int .u8, .int .u8 0, 1, 1⟩),
  (138, ⟨.int .u8, .int .u8 0, 1, 1⟩),
  (139, ⟨.func #[145, 145] #[4] false, .nilFunc, 1, 8⟩),
  (140, ⟨.pointer 5, .pointer none, 1, 8⟩),
  (141, ⟨.int .i32, .int .i32 0, 1, 4⟩),
  (142, ⟨.int .i32, .int .i32 0, 1, 4⟩),
  (143, ⟨.struct #[{ name := "Size_", type := 12, offset := 0, embedded := false, tag := "", pkgPath := "", byteOffset := 0 }, { name := "PtrBytes", type := 12, offset := 1, embedded := false, tag := "", pkgPath := "", byteOffset := 8 }, { name := "Hash", type := 107, offset := 2, embedded := false, tag := "", pkgPath := "", byteOffset := 16 }, { name := "TFlag", type := 137, offset := 3, embedded := false, tag := "", pkgPath := "", byteOffset := 20 }, { name := "Align_", type := 5, offset := 4, embedded := false, tag := "", pkgPath := "", byteOffset := 21 }, { name := "FieldAlign_", type := 5, offset := 5, embedded := false, tag := "", pkgPath := "", byteOffset := 22 }, { name := "Kind_", type := 138, offset := 6, embedded := false, tag := "", pkgPath := "", byteOffset := 23 }, { name := "Equal", type := 139, offset := 7, embedded := false, tag := "", pkgPath := "", byteOffset := 24 }, { name := "GCData", type := 140, offset := 8, embedded := false, tag := "", pkgPath := "", byteOffset := 32 }, { name := "Str", type := 141, offset := 9, embedded := false, tag := "", pkgPath := "", byteOffset := 40 }, { name := "PtrToThis", type := 142, offset := 10, embedded := false, tag := "", pkgPath := "", byteOffset := 44 }], .agg #[.int .u64 0, .int .u64 0, .int .u32 0, .int .u8 0, .int .u8 0, .int .u8 0, .int .u8 0, .nilFunc, .pointer none, .int .i32 0, .int .i32 0], 11, 48⟩),
  (144, ⟨.struct #[{ name := "Size_", type := 12, offset := 0, embedded := false, tag := "", pkgPath := "", byteOffset := 0 }, { name := "PtrBytes", type := 12, offset := 1, embedded := false, tag := "", pkgPath := "", byteOffset := 8 }, { name := "Hash", type := 107, offset := 2, embedded := false, tag := "", pkgPath := "", byteOffset := 16 }, { name := "TFlag", type := 137, offset := 3, embedded := false, tag := "", pkgPath := "", byteOffset := 20 }, { name := "Align_", type := 5, offset := 4, embedded := false, tag := "", pkgPath := "", byteOffset := 21 }, { name := "FieldAlign_", type := 5, offset := 5, embedded := false, tag := "", pkgPath := "", byteOffset := 22 }, { name := "Kind_", type := 138, offset := 6, embedded := false, tag := "", pkgPath := "", byteOffset := 23 }, { name := "Equal", type := 139, offset := 7, embedded := false, tag := "", pkgPath := "", byteOffset := 24 }, { name := "GCData", type := 140, offset := 8, embedded := false, tag := "", pkgPath := "", byteOffset := 32 }, { name := "Str", type := 141, offset := 9, embedded := false, tag := "", pkgPath := "", byteOffset := 40 }, { name := "PtrToThis", type := 142, offset := 10, embedded := false, tag := "", pkgPath := "", byteOffset := 44 }], .agg #[.int .u64 0, .int .u64 0, .int .u32 0, .int .u8 0, .int .u8 0, .int .u8 0, .int .u8 0, .nilFunc, .pointer none, .int .i32 0, .int .i32 0], 11, 48⟩)]
theorem TOK : TyOK Tryd.prog T := TyOK.mk (by kernel_rfl)
theorem mixed : Tryd.prog.follows .mixedOrders = true := by kernel_rfl
theorem ent3 : Ent Tryd.prog 3 := ⟨enters_of Tryd.func3 (by kernel_rfl) rfl⟩
theorem ent4 : Ent Tryd.prog 4 := ⟨enters_of Tryd.func4 (by kernel_rfl) rfl⟩
theorem ent5 : Ent Tryd.prog 5 := ⟨enters_of Tryd.func5 (by kernel_rfl) rfl⟩
theorem ent6 : Ent Tryd.prog 6 := ⟨enters_of Tryd.func6 (by kernel_rfl) rfl⟩
theorem ent7 : Ent Tryd.prog 7 := ⟨enters_of Tryd.func7 (by kernel_rfl) rfl⟩
theorem ent8 : Ent Tryd.prog 8 := ⟨enters_of Tryd.func8 (by kernel_rfl) rfl⟩
theorem ent9 : Ent Tryd.prog 9 := ⟨enters_of Tryd.func9 (by kernel_rfl) rfl⟩
theorem ent10 : Ent Tryd.prog 10 := ⟨enters_of Tryd.func10 (by kernel_rfl) rfl⟩
theorem ent11 : Ent Tryd.prog 11 := ⟨enters_of Tryd.func11 (by kernel_rfl) rfl⟩
theorem ent12 : Ent Tryd.prog 12 := ⟨enters_of Tryd.func12 (by kernel_rfl) rfl⟩
theorem ent13 : Ent Tryd.prog 13 := ⟨enters_of Tryd.func13 (by kernel_rfl) rfl⟩
theorem ent14 : Ent Tryd.prog 14 := ⟨enters_of Tryd.func14 (by kernel_rfl) rfl⟩
theorem ent15 : Ent Tryd.prog 15 := ⟨enters_of Tryd.func15 (by kernel_rfl) rfl⟩
theorem ent16 : Ent Tryd.prog 16 := ⟨enters_of Tryd.func16 (by kernel_rfl) rfl⟩
theorem ent17 : Ent Tryd.prog 17 := ⟨enters_of Tryd.func17 (by kernel_rfl) rfl⟩
theorem ent18 : Ent Tryd.prog 18 := ⟨enters_of Tryd.func18 (by kernel_rfl) rfl⟩
theorem ent19 : Ent Tryd.prog 19 := ⟨enters_of Tryd.func19 (by kernel_rfl) rfl⟩
theorem ent20 : Ent Tryd.prog 20 := ⟨enters_of Tryd.func20 (by kernel_rfl) rfl⟩
theorem ent21 : Ent Tryd.prog 21 := ⟨enters_of Tryd.func21 (by kernel_rfl) rfl⟩
theorem ent22 : Ent Tryd.prog 22 := ⟨enters_of Tryd.func22 (by kernel_rfl) rfl⟩
theorem ent23 : Ent Tryd.prog 23 := ⟨enters_of Tryd.func23 (by kernel_rfl) rfl⟩
theorem ent24 : Ent Tryd.prog 24 := ⟨enters_of Tryd.func24 (by kernel_rfl) rfl⟩
theorem ent25 : Ent Tryd.prog 25 := ⟨enters_of Tryd.func25 (by kernel_rfl) rfl⟩
theorem ent26 : Ent Tryd.prog 26 := ⟨enters_of Tryd.func26 (by kernel_rfl) rfl⟩
theorem ent27 : Ent Tryd.prog 27 := ⟨enters_of Tryd.func27 (by kernel_rfl) rfl⟩
theorem ent28 : Ent Tryd.prog 28 := ⟨enters_of Tryd.func28 (by kernel_rfl) rfl⟩
theorem ent29 : Ent Tryd.prog 29 := ⟨enters_of Tryd.func29 (by kernel_rfl) rfl⟩
theorem ent30 : Ent Tryd.prog 30 := ⟨enters_of Tryd.func30 (by kernel_rfl) rfl⟩
theorem ent31 : Ent Tryd.prog 31 := ⟨enters_of Tryd.func31 (by kernel_rfl) rfl⟩
theorem ent32 : Ent Tryd.prog 32 := ⟨enters_of Tryd.func32 (by kernel_rfl) rfl⟩
theorem ent33 : Ent Tryd.prog 33 := ⟨enters_of Tryd.func33 (by kernel_rfl) rfl⟩
theorem ent34 : Ent Tryd.prog 34 := ⟨enters_of Tryd.func34 (by kernel_rfl) rfl⟩
theorem ent35 : Ent Tryd.prog 35 := ⟨enters_of Tryd.func35 (by kernel_rfl) rfl⟩
theorem ent36 : Ent Tryd.prog 36 := ⟨enters_of Tryd.func36 (by kernel_rfl) rfl⟩
theorem ent37 : Ent Tryd.prog 37 := ⟨enters_of Tryd.func37 (by kernel_rfl) rfl⟩
theorem ent39 : Ent Tryd.prog 39 := ⟨enters_of Tryd.func39 (by kernel_rfl) rfl⟩
theorem ent40 : Ent Tryd.prog 40 := ⟨enters_of Tryd.func40 (by kernel_rfl) rfl⟩
theorem ent41 : Ent Tryd.prog 41 := ⟨enters_of Tryd.func41 (by kernel_rfl) rfl⟩
theorem ent42 : Ent Tryd.prog 42 := ⟨enters_of Tryd.func42 (by kernel_rfl) rfl⟩
theorem ent43 : Ent Tryd.prog 43 := ⟨enters_of Tryd.func43 (by kernel_rfl) rfl⟩
theorem ent44 : Ent Tryd.prog 44 := ⟨enters_of Tryd.func44 (by kernel_rfl) rfl⟩
theorem ent45 : Ent Tryd.prog 45 := ⟨enters_of Tryd.func45 (by kernel_rfl) rfl⟩
theorem ent46 : Ent Tryd.prog 46 := ⟨enters_of Tryd.func46 (by kernel_rfl) rfl⟩
theorem ent47 : Ent Tryd.prog 47 := ⟨enters_of Tryd.func47 (by kernel_rfl) rfl⟩
theorem ent48 : Ent Tryd.prog 48 := ⟨enters_of Tryd.func48 (by kernel_rfl) rfl⟩
theorem ent49 : Ent Tryd.prog 49 := ⟨enters_of Tryd.func49 (by kernel_rfl) rfl⟩
theorem ent50 : Ent Tryd.prog 50 := ⟨enters_of Tryd.func50 (by kernel_rfl) rfl⟩
theorem ent51 : Ent Tryd.prog 51 := ⟨enters_of Tryd.func51 (by kernel_rfl) rfl⟩
theorem ent52 : Ent Tryd.prog 52 := ⟨enters_of Tryd.func52 (by kernel_rfl) rfl⟩
theorem ent53 : Ent Tryd.prog 53 := ⟨enters_of Tryd.func53 (by kernel_rfl) rfl⟩
theorem ent54 : Ent Tryd.prog 54 := ⟨enters_of Tryd.func54 (by kernel_rfl) rfl⟩
theorem ent55 : Ent Tryd.prog 55 := ⟨enters_of Tryd.func55 (by kernel_rfl) rfl⟩
theorem ent56 : Ent Tryd.prog 56 := ⟨enters_of Tryd.func56 (by kernel_rfl) rfl⟩
theorem ent57 : Ent Tryd.prog 57 := ⟨enters_of Tryd.func57 (by kernel_rfl) rfl⟩
theorem ent58 : Ent Tryd.prog 58 := ⟨enters_of Tryd.func58 (by kernel_rfl) rfl⟩
theorem ent59 : Ent Tryd.prog 59 := ⟨enters_of Tryd.func59 (by kernel_rfl) rfl⟩
theorem ent60 : Ent Tryd.prog 60 := ⟨enters_of Tryd.func60 (by kernel_rfl) rfl⟩
theorem ent61 : Ent Tryd.prog 61 := ⟨enters_of Tryd.func61 (by kernel_rfl) rfl⟩
theorem ent62 : Ent Tryd.prog 62 := ⟨enters_of Tryd.func62 (by kernel_rfl) rfl⟩
theorem ent63 : Ent Tryd.prog 63 := ⟨enters_of Tryd.func63 (by kernel_rfl) rfl⟩
theorem ent64 : Ent Tryd.prog 64 := ⟨enters_of Tryd.func64 (by kernel_rfl) rfl⟩
theorem ent65 : Ent Tryd.prog 65 := ⟨enters_of Tryd.func65 (by kernel_rfl) rfl⟩
theorem ent66 : Ent Tryd.prog 66 := ⟨enters_of Tryd.func66 (by kernel_rfl) rfl⟩
theorem ent67 : Ent Tryd.prog 67 := ⟨enters_of Tryd.func67 (by kernel_rfl) rfl⟩
theorem ent68 : Ent Tryd.prog 68 := ⟨enters_of Tryd.func68 (by kernel_rfl) rfl⟩
theorem ent69 : Ent Tryd.prog 69 := ⟨enters_of Tryd.func69 (by kernel_rfl) rfl⟩
theorem ent70 : Ent Tryd.prog 70 := ⟨enters_of Tryd.func70 (by kernel_rfl) rfl⟩
theorem ent71 : Ent Tryd.prog 71 := ⟨enters_of Tryd.func71 (by kernel_rfl) rfl⟩
theorem ent72 : Ent Tryd.prog 72 := ⟨enters_of Tryd.func72 (by kernel_rfl) rfl⟩
theorem ent73 : Ent Tryd.prog 73 := ⟨enters_of Tryd.func73 (by kernel_rfl) rfl⟩
theorem ent74 : Ent Tryd.prog 74 := ⟨enters_of Tryd.func74 (by kernel_rfl) rfl⟩
theorem ent75 : Ent Tryd.prog 75 := ⟨enters_of Tryd.func75 (by kernel_rfl) rfl⟩
theorem ent76 : Ent Tryd.prog 76 := ⟨enters_of Tryd.func76 (by kernel_rfl) rfl⟩
theorem ent77 : Ent Tryd.prog 77 := ⟨enters_of Tryd.func77 (by kernel_rfl) rfl⟩
theorem ent78 : Ent Tryd.prog 78 := ⟨enters_of Tryd.func78 (by kernel_rfl) rfl⟩
theorem ent101 : Ent Tryd.prog 101 := ⟨enters_of Tryd.func101 (by kernel_rfl) rfl⟩
end Go.Proofs.YthhklkpkhaibcaaDoor
