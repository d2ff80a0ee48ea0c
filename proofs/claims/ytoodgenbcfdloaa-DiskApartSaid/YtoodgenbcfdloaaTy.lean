/- The types and the functions of the translation, as the walk asks for them. (Laid by a program: wip/tools/mkty.py.) -/
import Derived.Test.YtoodgenbcfdloaaChecked
import Derived.KernelRfl
import Derived.Test.YtoodgenbcfdloaaSlText
set_option linter.unusedVariables false
set_option linter.unusedSimpArgs false
namespace Go.Proofs.Ytoodgenbcfdloaa
open Go Go.Sl
set_option maxRecDepth 100000
def T : List (Nat × TI) := [
  (0, ⟨.tuple #[], .tuple #[], 1, 0⟩),
  (1, ⟨.func #[] #[] false, .nilFunc, 1, 8⟩),
  (2, ⟨.int .i64, .int .i64 0, 1, 8⟩),
  (3, ⟨.int .i64, .int .i64 0, 1, 8⟩),
  (4, ⟨.bool, .bool false, 1, 1⟩),
  (5, ⟨.int .u8, .int .u8 0, 1, 1⟩),
  (6, ⟨.int .u8, .int .u8 0, 1, 1⟩),
  (7, ⟨.struct #[{ name := "x", type := 2, offset := 0, embedded := false, tag := "", pkgPath := "runtime", byteOffset := 0 }, { name := "y", type := 3, offset := 1, embedded := false, tag := "", pkgPath := "runtime", byteOffset := 8 }, { name := "signed", type := 4, offset := 2, embedded := false, tag := "", pkgPath := "runtime", byteOffset := 16 }, { name := "code", type := 6, offset := 3, embedded := false, tag := "", pkgPath := "runtime", byteOffset := 17 }], .agg #[.int .i64 0, .int .i64 0, .bool false, .int .u8 0], 4, 24⟩),
  (8, ⟨.struct #[{ name := "x", type := 2, offset := 0, embedded := false, tag := "", pkgPath := "runtime", byteOffset := 0 }, { name := "y", type := 3, offset := 1, embedded := false, tag := "", pkgPath := "runtime", byteOffset := 8 }, { name := "signed", type := 4, offset := 2, embedded := false, tag := "", pkgPath := "runtime", byteOffset := 16 }, { name := "code", type := 6, offset := 3, embedded := false, tag := "", pkgPath := "runtime", byteOffset := 17 }], .agg #[.int .i64 0, .int .i64 0, .bool false, .int .u8 0], 4, 24⟩),
  (9, ⟨.string, .string .empty, 1, 16⟩),
  (10, ⟨.string, .string .empty, 1, 16⟩),
  (11, ⟨.string, .string .empty, 1, 16⟩),
  (12, ⟨.int .u64, .int .u64 0, 1, 8⟩),
  (13, ⟨.struct #[{ name := "msg", type := 9, offset := 0, embedded := false, tag := "", pkgPath := "runtime", byteOffset := 0 }, { name := "addr", type := 12, offset := 1, embedded := false, tag := "", pkgPath := "runtime", byteOffset := 16 }], .agg #[.string .empty, .int .u64 0], 2, 24⟩),
  (14, ⟨.struct #[{ name := "msg", type := 9, offset := 0, embedded := false, tag := "", pkgPath := "runtime", byteOffset := 0 }, { name := "addr", type := 12, offset := 1, embedded := false, tag := "", pkgPath := "runtime", byteOffset := 16 }], .agg #[.string .empty, .int .u64 0], 2, 24⟩),
  (15, ⟨.pointer 190, .pointer none, 1, 8⟩),
  (16, ⟨.pointer 193, .pointer none, 1, 8⟩),
  (17, ⟨.pointer 201, .pointer none, 1, 8⟩),
  (18, ⟨.struct #[{ name := "typ",   type := 17,   offset := 0,   embedded := false,   tag := "",   pkgPath := "internal/runtime/maps",   byteOffset := 0 }], .agg #[.pointer none], 1, 8⟩),
  (19, ⟨.struct #[{ name := "typ",   type := 17,   offset := 0,   embedded := false,   tag := "",   pkgPath := "internal/runtime/maps",   byteOffset := 0 }], .agg #[.pointer none], 1, 8⟩),
  (21, ⟨.int .i32, .int .i32 0, 1, 4⟩),
  (22, ⟨.slice 30, .slice none 0 0, 1, 24⟩),
  (23, ⟨.slice 5, .slice none 0 0, 1, 24⟩),
  (24, ⟨.slice 32, .slice none 0 0, 1, 24⟩),
  (25, ⟨.slice 57, .slice none 0 0, 1, 24⟩),
  (26, ⟨.pointer 105, .pointer none, 1, 8⟩),
  (27, ⟨.func #[3] #[26] false, .nilFunc, 1, 8⟩),
  (28, ⟨.func #[22] #[22] false, .nilFunc, 1, 8⟩),
  (29, ⟨.struct #[{ name := "Name", type := 9, offset := 0, embedded := false, tag := "", pkgPath := "", byteOffset := 0 }, { name := "Data", type := 23, offset := 1, embedded := false, tag := "", pkgPath := "", byteOffset := 16 }], .agg #[.string .empty, .slice none 0 0], 2, 40⟩),
  (30, ⟨.struct #[{ name := "Name", type := 9, offset := 0, embedded := false, tag := "", pkgPath := "", byteOffset := 0 }, { name := "Data", type := 23, offset := 1, embedded := false, tag := "", pkgPath := "", byteOffset := 16 }], .agg #[.string .empty, .slice none 0 0], 2, 40⟩),
  (31, ⟨.struct #[{ name := "Keep", type := 3, offset := 0, embedded := false, tag := "", pkgPath := "", byteOffset := 0 }, { name := "Zero", type := 3, offset := 1, embedded := false, tag := "", pkgPath := "", byteOffset := 8 }], .agg #[.int .i64 0, .int .i64 0], 2, 16⟩),
  (32, ⟨.struct #[{ name := "Keep", type := 3, offset := 0, embedded := false, tag := "", pkgPath := "", byteOffset := 0 }, { name := "Zero", type := 3, offset := 1, embedded := false, tag := "", pkgPath := "", byteOffset := 8 }], .agg #[.int .i64 0, .int .i64 0], 2, 16⟩),
  (33, ⟨.func #[23] #[23] false, .nilFunc, 1, 8⟩),
  (34, ⟨.slice 26, .slice none 0 0, 1, 24⟩),
  (35, ⟨.slice 22, .slice none 0 0, 1, 24⟩),
  (36, ⟨.int .i64, .int .i64 0, 1, 8⟩),
  (38, ⟨.func #[3, 22] #[26, 36] false, .nilFunc, 1, 8⟩),
  (39, ⟨.slice 111, .slice none 0 0, 1, 24⟩),
  (40, ⟨.slice 113, .slice none 0 0, 1, 24⟩),
  (41, ⟨.slice 121, .slice none 0 0, 1, 24⟩),
  (42, ⟨.struct #[{ name := "Things", type := 39, offset := 0, embedded := false, tag := "", pkgPath := "", byteOffset := 0 }, { name := "Names", type := 40, offset := 1, embedded := false, tag := "", pkgPath := "", byteOffset := 24 }, { name := "Lasting", type := 40, offset := 2, embedded := false, tag := "", pkgPath := "", byteOffset := 48 }, { name := "Changes", type := 41, offset := 3, embedded := false, tag := "", pkgPath := "", byteOffset := 72 }], .agg #[.slice none 0 0, .slice none 0 0, .slice none 0 0, .slice none 0 0], 4, 96⟩),
  (43, ⟨.struct #[{ name := "Things", type := 39, offset := 0, embedded := false, tag := "", pkgPath := "", byteOffset := 0 }, { name := "Names", type := 40, offset := 1, embedded := false, tag := "", pkgPath := "", byteOffset := 24 }, { name := "Lasting", type := 40, offset := 2, embedded := false, tag := "", pkgPath := "", byteOffset := 48 }, { name := "Changes", type := 41, offset := 3, embedded := false, tag := "", pkgPath := "", byteOffset := 72 }], .agg #[.slice none 0 0, .slice none 0 0, .slice none 0 0, .slice none 0 0], 4, 96⟩),
  (44, ⟨.struct #[{ name := "Quota", type := 3, offset := 0, embedded := false, tag := "", pkgPath := "", byteOffset := 0 }, { name := "S", type := 43, offset := 1, embedded := false, tag := "", pkgPath := "", byteOffset := 8 }, { name := "Left", type := 3, offset := 5, embedded := false, tag := "", pkgPath := "", byteOffset := 104 }, { name := "Down", type := 4, offset := 6, embedded := false, tag := "", pkgPath := "", byteOffset := 112 }], .agg #[.int .i64 0, .slice none 0 0, .slice none 0 0, .slice none 0 0, .slice none 0 0, .int .i64 0, .bool false], 7, 120⟩),
  (45, ⟨.struct #[{ name := "Quota", type := 3, offset := 0, embedded := false, tag := "", pkgPath := "", byteOffset := 0 }, { name := "S", type := 43, offset := 1, embedded := false, tag := "", pkgPath := "", byteOffset := 8 }, { name := "Left", type := 3, offset := 5, embedded := false, tag := "", pkgPath := "", byteOffset := 104 }, { name := "Down", type := 4, offset := 6, embedded := false, tag := "", pkgPath := "", byteOffset := 112 }], .agg #[.int .i64 0, .slice none 0 0, .slice none 0 0, .slice none 0 0, .slice none 0 0, .int .i64 0, .bool false], 7, 120⟩),
  (47, ⟨.func #[3, 22] #[45, 3] false, .nilFunc, 1, 8⟩),
  (48, ⟨.func #[36] #[3] false, .nilFunc, 1, 8⟩),
  (49, ⟨.func #[22, 22] #[4] false, .nilFunc, 1, 8⟩),
  (50, ⟨.func #[45] #[22] false, .nilFunc, 1, 8⟩),
  (51, ⟨.func #[3, 24] #[22] true, .nilFunc, 1, 8⟩),
  (52, ⟨.func #[45, 3, 24] #[22] false, .nilFunc, 1, 8⟩),
  (53, ⟨.func #[9, 23] #[36] false, .nilFunc, 1, 8⟩),
  (55, ⟨.func #[9] #[23, 36] false, .nilFunc, 1, 8⟩),
  (56, ⟨.func #[23, 23] #[4] false, .nilFunc, 1, 8⟩),
  (57, ⟨.array 2 3, .agg #[.int .i64 0, .int .i64 0], 2, 16⟩),
  (58, ⟨.func #[3, 3] #[3] false, .nilFunc, 1, 8⟩),
  (59, ⟨.func #[] #[22] false, .nilFunc, 1, 8⟩),
  (60, ⟨.func #[22, 3, 24, 3] #[4] false, .nilFunc, 1, 8⟩),
  (61, ⟨.func #[3, 22, 23, 24, 25] #[4] false, .nilFunc, 1, 8⟩),
  (62, ⟨.slice 66, .slice none 0 0, 1, 24⟩),
  (63, ⟨.func #[3] #[3] false, .nilFunc, 1, 8⟩),
  (64, ⟨.func #[] #[3] false, .nilFunc, 1, 8⟩),
  (65, ⟨.struct #[{ name := "Kind", type := 3, offset := 0, embedded := false, tag := "", pkgPath := "", byteOffset := 0 }, { name := "Two", type := 4, offset := 1, embedded := false, tag := "", pkgPath := "", byteOffset := 8 }, { name := "A", type := 9, offset := 2, embedded := false, tag := "", pkgPath := "", byteOffset := 16 }, { name := "B", type := 9, offset := 3, embedded := false, tag := "", pkgPath := "", byteOffset := 32 }, { name := "N", type := 3, offset := 4, embedded := false, tag := "", pkgPath := "", byteOffset := 48 }, { name := "Data", type := 23, offset := 5, embedded := false, tag := "", pkgPath := "", byteOffset := 56 }, { name := "Cuts", type := 24, offset := 6, embedded := false, tag := "", pkgPath := "", byteOffset := 80 }, { name := "Files", type := 22, offset := 7, embedded := false, tag := "", pkgPath := "", byteOffset := 104 }], .agg #[.int .i64 0, .bool false, .string .empty, .string .empty, .int .i64 0, .slice none 0 0, .slice none 0 0, .slice none 0 0], 8, 128⟩),
  (66, ⟨.struct #[{ name := "Kind", type := 3, offset := 0, embedded := false, tag := "", pkgPath := "", byteOffset := 0 }, { name := "Two", type := 4, offset := 1, embedded := false, tag := "", pkgPath := "", byteOffset := 8 }, { name := "A", type := 9, offset := 2, embedded := false, tag := "", pkgPath := "", byteOffset := 16 }, { name := "B", type := 9, offset := 3, embedded := false, tag := "", pkgPath := "", byteOffset := 32 }, { name := "N", type := 3, offset := 4, embedded := false, tag := "", pkgPath := "", byteOffset := 48 }, { name := "Data", type := 23, offset := 5, embedded := false, tag := "", pkgPath := "", byteOffset := 56 }, { name := "Cuts", type := 24, offset := 6, embedded := false, tag := "", pkgPath := "", byteOffset := 80 }, { name := "Files", type := 22, offset := 7, embedded := false, tag := "", pkgPath := "", byteOffset := 104 }], .agg #[.int .i64 0, .bool false, .string .empty, .string .empty, .int .i64 0, .slice none 0 0, .slice none 0 0, .slice none 0 0], 8, 128⟩),
  (67, ⟨.func #[66] #[4] false, .nilFunc, 1, 8⟩),
  (68, ⟨.func #[26, 66] #[3] false, .nilFunc, 1, 8⟩),
  (69, ⟨.func #[22] #[3] false, .nilFunc, 1, 8⟩),
  (70, ⟨.func #[3, 62] #[4] false, .nilFunc, 1, 8⟩),
  (71, ⟨.func #[9] #[36] false, .nilFunc, 1, 8⟩),
  (72, ⟨.slice 9, .slice none 0 0, 1, 24⟩),
  (73, ⟨.func #[] #[72] false, .nilFunc, 1, 8⟩),
  (74, ⟨.func #[3, 62, 3, 24] #[4] false, .nilFunc, 1, 8⟩),
  (75, ⟨.slice 23, .slice none 0 0, 1, 24⟩),
  (76, ⟨.slice 72, .slice none 0 0, 1, 24⟩),
  (77, ⟨.pointer 79, .pointer none, 1, 8⟩),
  (78, ⟨.struct #[{ name := "L", type := 75, offset := 0, embedded := false, tag := "", pkgPath := "", byteOffset := 0 }, { name := "M", type := 23, offset := 1, embedded := false, tag := "", pkgPath := "", byteOffset := 24 }, { name := "F", type := 35, offset := 2, embedded := false, tag := "", pkgPath := "", byteOffset := 48 }, { name := "N", type := 76, offset := 3, embedded := false, tag := "", pkgPath := "", byteOffset := 72 }, { name := "S", type := 72, offset := 4, embedded := false, tag := "", pkgPath := "", byteOffset := 96 }, { name := "T", type := 72, offset := 5, embedded := false, tag := "", pkgPath := "", byteOffset := 120 }, { name := "H", type := 75, offset := 6, embedded := false, tag := "", pkgPath := "", byteOffset := 144 }, { name := "I", type := 35, offset := 7, embedded := false, tag := "", pkgPath := "", byteOffset := 168 }, { name := "J", type := 76, offset := 8, embedded := false, tag := "", pkgPath := "", byteOffset := 192 }], .agg #[.slice none 0 0, .slice none 0 0, .slice none 0 0, .slice none 0 0, .slice none 0 0, .slice none 0 0, .slice none 0 0, .slice none 0 0, .slice none 0 0], 9, 216⟩),
  (79, ⟨.struct #[{ name := "L", type := 75, offset := 0, embedded := false, tag := "", pkgPath := "", byteOffset := 0 }, { name := "M", type := 23, offset := 1, embedded := false, tag := "", pkgPath := "", byteOffset := 24 }, { name := "F", type := 35, offset := 2, embedded := false, tag := "", pkgPath := "", byteOffset := 48 }, { name := "N", type := 76, offset := 3, embedded := false, tag := "", pkgPath := "", byteOffset := 72 }, { name := "S", type := 72, offset := 4, embedded := false, tag := "", pkgPath := "", byteOffset := 96 }, { name := "T", type := 72, offset := 5, embedded := false, tag := "", pkgPath := "", byteOffset := 120 }, { name := "H", type := 75, offset := 6, embedded := false, tag := "", pkgPath := "", byteOffset := 144 }, { name := "I", type := 35, offset := 7, embedded := false, tag := "", pkgPath := "", byteOffset := 168 }, { name := "J", type := 76, offset := 8, embedded := false, tag := "", pkgPath := "", byteOffset := 192 }], .agg #[.slice none 0 0, .slice none 0 0, .slice none 0 0, .slice none 0 0, .slice none 0 0, .slice none 0 0, .slice none 0 0, .slice none 0 0, .slice none 0 0], 9, 216⟩),
  (80, ⟨.func #[72, 72] #[4] false, .nilFunc, 1, 8⟩),
  (81, ⟨.func #[22] #[] false, .nilFunc, 1, 8⟩),
  (82, ⟨.func #[23] #[] false, .nilFunc, 1, 8⟩),
  (83, ⟨.func #[72] #[] false, .nilFunc, 1, 8⟩),
  (84, ⟨.func #[] #[4] false, .nilFunc, 1, 8⟩),
  (85, ⟨.func #[26, 9, 3, 24] #[4] false, .nilFunc, 1, 8⟩),
  (86, ⟨.func #[75] #[4] false, .nilFunc, 1, 8⟩),
  (87, ⟨.func #[3] #[] false, .nilFunc, 1, 8⟩),
  (88, ⟨.func #[] #[36] false, .nilFunc, 1, 8⟩),
  (89, ⟨.func #[3, 62, 3, 3, 24] #[4] false, .nilFunc, 1, 8⟩),
  (90, ⟨.slice 130, .slice none 0 0, 1, 24⟩),
  (91, ⟨.func #[22] #[90] false, .nilFunc, 1, 8⟩),
  (92, ⟨.func #[90, 66] #[90] false, .nilFunc, 1, 8⟩),
  (93, ⟨.func #[22, 90] #[4] false, .nilFunc, 1, 8⟩),
  (94, ⟨.func #[3] #[24] false, .nilFunc, 1, 8⟩),
  (95, ⟨.func #[22] #[4] false, .nilFunc, 1, 8⟩),
  (96, ⟨.func #[3, 3, 62, 3, 3] #[4] false, .nilFunc, 1, 8⟩),
  (97, ⟨.func #[3, 3, 62] #[4] false, .nilFunc, 1, 8⟩),
  (98, ⟨.func #[3] #[26, 36] false, .nilFunc, 1, 8⟩),
  (99, ⟨.func #[9] #[4] false, .nilFunc, 1, 8⟩),
  (100, ⟨.pointer 107, .pointer none, 1, 8⟩),
  (101, ⟨.map 9 100, .map none, 1, 8⟩),
  (102, ⟨.map 9 100, .map none, 1, 8⟩),
  (103, ⟨.slice 116, .slice none 0 0, 1, 24⟩),
  (104, ⟨.struct #[{ name := "quota", type := 3, offset := 0, embedded := false, tag := "", pkgPath := "annals/disk", byteOffset := 0 }, { name := "now", type := 102, offset := 1, embedded := false, tag := "", pkgPath := "annals/disk", byteOffset := 8 }, { name := "lasting",   type := 102,   offset := 2,   embedded := false,   tag := "",   pkgPath := "annals/disk",   byteOffset := 16 }, { name := "changes",   type := 103,   offset := 3,   embedded := false,   tag := "",   pkgPath := "annals/disk",   byteOffset := 24 }, { name := "armed", type := 4, offset := 4, embedded := false, tag := "", pkgPath := "annals/disk", byteOffset := 48 }, { name := "left", type := 3, offset := 5, embedded := false, tag := "", pkgPath := "annals/disk", byteOffset := 56 }, { name := "down", type := 4, offset := 6, embedded := false, tag := "", pkgPath := "annals/disk", byteOffset := 64 }], .agg #[.int .i64 0, .map none, .map none, .slice none 0 0, .bool false, .int .i64 0, .bool false], 7, 72⟩),
  (105, ⟨.struct #[{ name := "quota", type := 3, offset := 0, embedded := false, tag := "", pkgPath := "annals/disk", byteOffset := 0 }, { name := "now", type := 102, offset := 1, embedded := false, tag := "", pkgPath := "annals/disk", byteOffset := 8 }, { name := "lasting",   type := 102,   offset := 2,   embedded := false,   tag := "",   pkgPath := "annals/disk",   byteOffset := 16 }, { name := "changes",   type := 103,   offset := 3,   embedded := false,   tag := "",   pkgPath := "annals/disk",   byteOffset := 24 }, { name := "armed", type := 4, offset := 4, embedded := false, tag := "", pkgPath := "annals/disk", byteOffset := 48 }, { name := "left", type := 3, offset := 5, embedded := false, tag := "", pkgPath := "annals/disk", byteOffset := 56 }, { name := "down", type := 4, offset := 6, embedded := false, tag := "", pkgPath := "annals/disk", byteOffset := 64 }], .agg #[.int .i64 0, .map none, .map none, .slice none 0 0, .bool false, .int .i64 0, .bool false], 7, 72⟩),
  (106, ⟨.struct #[{ name := "data", type := 23, offset := 0, embedded := false, tag := "", pkgPath := "annals/disk", byteOffset := 0 }, { name := "synced", type := 3, offset := 1, embedded := false, tag := "", pkgPath := "annals/disk", byteOffset := 24 }], .agg #[.slice none 0 0, .int .i64 0], 2, 32⟩),
  (107, ⟨.struct #[{ name := "data", type := 23, offset := 0, embedded := false, tag := "", pkgPath := "annals/disk", byteOffset := 0 }, { name := "synced", type := 3, offset := 1, embedded := false, tag := "", pkgPath := "annals/disk", byteOffset := 24 }], .agg #[.slice none 0 0, .int .i64 0], 2, 32⟩),
  (108, ⟨.func #[102] #[102] false, .nilFunc, 1, 8⟩),
  (109, ⟨.func #[22] #[43] false, .nilFunc, 1, 8⟩),
  (110, ⟨.struct #[{ name := "Data", type := 23, offset := 0, embedded := false, tag := "", pkgPath := "", byteOffset := 0 }, { name := "Synced", type := 3, offset := 1, embedded := false, tag := "", pkgPath := "", byteOffset := 24 }, { name := "There", type := 4, offset := 2, embedded := false, tag := "", pkgPath := "", byteOffset := 32 }], .agg #[.slice none 0 0, .int .i64 0, .bool false], 3, 40⟩),
  (111, ⟨.struct #[{ name := "Data", type := 23, offset := 0, embedded := false, tag := "", pkgPath := "", byteOffset := 0 }, { name := "Synced", type := 3, offset := 1, embedded := false, tag := "", pkgPath := "", byteOffset := 24 }, { name := "There", type := 4, offset := 2, embedded := false, tag := "", pkgPath := "", byteOffset := 32 }], .agg #[.slice none 0 0, .int .i64 0, .bool false], 3, 40⟩),
  (112, ⟨.struct #[{ name := "Name", type := 9, offset := 0, embedded := false, tag := "", pkgPath := "", byteOffset := 0 }, { name := "F", type := 3, offset := 1, embedded := false, tag := "", pkgPath := "", byteOffset := 16 }], .agg #[.string .empty, .int .i64 0], 2, 24⟩),
  (113, ⟨.struct #[{ name := "Name", type := 9, offset := 0, embedded := false, tag := "", pkgPath := "", byteOffset := 0 }, { name := "F", type := 3, offset := 1, embedded := false, tag := "", pkgPath := "", byteOffset := 16 }], .agg #[.string .empty, .int .i64 0], 2, 24⟩),
  (114, ⟨.func #[23, 3, 3] #[23] false, .nilFunc, 1, 8⟩),
  (115, ⟨.struct #[{ name := "from", type := 9, offset := 0, embedded := false, tag := "", pkgPath := "annals/disk", byteOffset := 0 }, { name := "to", type := 9, offset := 1, embedded := false, tag := "", pkgPath := "annals/disk", byteOffset := 16 }, { name := "made", type := 100, offset := 2, embedded := false, tag := "", pkgPath := "annals/disk", byteOffset := 32 }], .agg #[.string .empty, .string .empty, .pointer none], 3, 40⟩),
  (116, ⟨.struct #[{ name := "from", type := 9, offset := 0, embedded := false, tag := "", pkgPath := "annals/disk", byteOffset := 0 }, { name := "to", type := 9, offset := 1, embedded := false, tag := "", pkgPath := "annals/disk", byteOffset := 16 }, { name := "made", type := 100, offset := 2, embedded := false, tag := "", pkgPath := "annals/disk", byteOffset := 32 }], .agg #[.string .empty, .string .empty, .pointer none], 3, 40⟩),
  (117, ⟨.func #[116] #[] false, .nilFunc, 1, 8⟩),
  (118, ⟨.func #[3, 3, 3] #[3] false, .nilFunc, 1, 8⟩),
  (119, ⟨.func #[40, 121] #[40] false, .nilFunc, 1, 8⟩),
  (120, ⟨.struct #[{ name := "Kind", type := 3, offset := 0, embedded := false, tag := "", pkgPath := "", byteOffset := 0 }, { name := "A", type := 9, offset := 1, embedded := false, tag := "", pkgPath := "", byteOffset := 8 }, { name := "B", type := 9, offset := 2, embedded := false, tag := "", pkgPath := "", byteOffset := 24 }, { name := "F", type := 3, offset := 3, embedded := false, tag := "", pkgPath := "", byteOffset := 40 }], .agg #[.int .i64 0, .string .empty, .string .empty, .int .i64 0], 4, 48⟩),
  (121, ⟨.struct #[{ name := "Kind", type := 3, offset := 0, embedded := false, tag := "", pkgPath := "", byteOffset := 0 }, { name := "A", type := 9, offset := 1, embedded := false, tag := "", pkgPath := "", byteOffset := 8 }, { name := "B", type := 9, offset := 2, embedded := false, tag := "", pkgPath := "", byteOffset := 24 }, { name := "F", type := 3, offset := 3, embedded := false, tag := "", pkgPath := "", byteOffset := 40 }], .agg #[.int .i64 0, .string .empty, .string .empty, .int .i64 0], 4, 48⟩),
  (122, ⟨.func #[111, 32] #[23] false, .nilFunc, 1, 8⟩),
  (124, ⟨.func #[9] #[100, 36] false, .nilFunc, 1, 8⟩),
  (125, ⟨.func #[9, 3] #[36] false, .nilFunc, 1, 8⟩),
  (126, ⟨.func #[9, 9] #[36] false, .nilFunc, 1, 8⟩),
  (127, ⟨.func #[116] #[36] false, .nilFunc, 1, 8⟩),
  (128, ⟨.func #[3] #[9] false, .nilFunc, 1, 8⟩),
  (129, ⟨.struct #[{ name := "Name", type := 9, offset := 0, embedded := false, tag := "", pkgPath := "", byteOffset := 0 }, { name := "Data", type := 23, offset := 1, embedded := false, tag := "", pkgPath := "", byteOffset := 16 }, { name := "Next", type := 23, offset := 2, embedded := false, tag := "", pkgPath := "", byteOffset := 40 }, { name := "HasNext", type := 4, offset := 3, embedded := false, tag := "", pkgPath := "", byteOffset := 64 }, { name := "Sure", type := 23, offset := 4, embedded := false, tag := "", pkgPath := "", byteOffset := 72 }, { name := "HasSure", type := 4, offset := 5, embedded := false, tag := "", pkgPath := "", byteOffset := 96 }], .agg #[.string .empty, .slice none 0 0, .slice none 0 0, .bool false, .slice none 0 0, .bool false], 6, 104⟩),
  (130, ⟨.struct #[{ name := "Name", type := 9, offset := 0, embedded := false, tag := "", pkgPath := "", byteOffset := 0 }, { name := "Data", type := 23, offset := 1, embedded := false, tag := "", pkgPath := "", byteOffset := 16 }, { name := "Next", type := 23, offset := 2, embedded := false, tag := "", pkgPath := "", byteOffset := 40 }, { name := "HasNext", type := 4, offset := 3, embedded := false, tag := "", pkgPath := "", byteOffset := 64 }, { name := "Sure", type := 23, offset := 4, embedded := false, tag := "", pkgPath := "", byteOffset := 72 }, { name := "HasSure", type := 4, offset := 5, embedded := false, tag := "", pkgPath := "", byteOffset := 96 }], .agg #[.string .empty, .slice none 0 0, .slice none 0 0, .bool false, .slice none 0 0, .bool false], 6, 104⟩),
  (131, ⟨.func #[90, 9] #[3] false, .nilFunc, 1, 8⟩),
  (132, ⟨.func #[90, 9] #[90] false, .nilFunc, 1, 8⟩),
  (133, ⟨.struct #[{ name := "D", type := 26, offset := 0, embedded := false, tag := "", pkgPath := "", byteOffset := 0 }, { name := "W", type := 45, offset := 1, embedded := false, tag := "", pkgPath := "", byteOffset := 8 }], .agg #[.pointer none, .int .i64 0, .slice none 0 0, .slice none 0 0, .slice none 0 0, .slice none 0 0, .int .i64 0, .bool false], 8, 128⟩),
  (134, ⟨.struct #[{ name := "D", type := 26, offset := 0, embedded := false, tag := "", pkgPath := "", byteOffset := 0 }, { name := "W", type := 45, offset := 1, embedded := false, tag := "", pkgPath := "", byteOffset := 8 }], .agg #[.pointer none, .int .i64 0, .slice none 0 0, .slice none 0 0, .slice none 0 0, .slice none 0 0, .int .i64 0, .bool false], 8, 128⟩),
  (136, ⟨.func #[3] #[134, 4] false, .nilFunc, 1, 8⟩),
  (137, ⟨.func #[134, 66] #[134, 4] false, .nilFunc, 1, 8⟩),
  (138, ⟨.func #[20] #[20] false, .nilFunc, 1, 8⟩),
  (139, ⟨.func #[40, 9, 3] #[40] false, .nilFunc, 1, 8⟩),
  (140, ⟨.func #[142] #[72] false, .nilFunc, 1, 8⟩),
  (141, ⟨.func #[99] #[] false, .nilFunc, 1, 8⟩),
  (142, ⟨.func #[99] #[] false, .nilFunc, 1, 8⟩),
  (143, ⟨.func #[102] #[142] false, .nilFunc, 1, 8⟩),
  (144, ⟨.func #[40, 9] #[3] false, .nilFunc, 1, 8⟩),
  (145, ⟨.func #[40, 9] #[40] false, .nilFunc, 1, 8⟩),
  (146, ⟨.func #[134, 3, 22, 4] #[134, 4] false, .nilFunc, 1, 8⟩),
  (147, ⟨.func #[45, 149] #[45, 3] false, .nilFunc, 1, 8⟩),
  (148, ⟨.struct #[{ name := "Kind", type := 3, offset := 0, embedded := false, tag := "", pkgPath := "", byteOffset := 0 }, { name := "A", type := 9, offset := 1, embedded := false, tag := "", pkgPath := "", byteOffset := 8 }, { name := "B", type := 9, offset := 2, embedded := false, tag := "", pkgPath := "", byteOffset := 24 }, { name := "N", type := 3, offset := 3, embedded := false, tag := "", pkgPath := "", byteOffset := 40 }, { name := "Data", type := 23, offset := 4, embedded := false, tag := "", pkgPath := "", byteOffset := 48 }], .agg #[.int .i64 0, .string .empty, .string .empty, .int .i64 0, .slice none 0 0], 5, 72⟩),
  (149, ⟨.struct #[{ name := "Kind", type := 3, offset := 0, embedded := false, tag := "", pkgPath := "", byteOffset := 0 }, { name := "A", type := 9, offset := 1, embedded := false, tag := "", pkgPath := "", byteOffset := 8 }, { name := "B", type := 9, offset := 2, embedded := false, tag := "", pkgPath := "", byteOffset := 24 }, { name := "N", type := 3, offset := 3, embedded := false, tag := "", pkgPath := "", byteOffset := 40 }, { name := "Data", type := 23, offset := 4, embedded := false, tag := "", pkgPath := "", byteOffset := 48 }], .agg #[.int .i64 0, .string .empty, .string .empty, .int .i64 0, .slice none 0 0], 5, 72⟩),
  (150, ⟨.func #[45, 3] #[45] false, .nilFunc, 1, 8⟩),
  (151, ⟨.func #[26, 45, 66] #[4] false, .nilFunc, 1, 8⟩),
  (152, ⟨.func #[45, 149] #[3] false, .nilFunc, 1, 8⟩),
  (153, ⟨.func #[43, 149] #[43] false, .nilFunc, 1, 8⟩),
  (155, ⟨.func #[45, 9] #[23, 3] false, .nilFunc, 1, 8⟩),
  (156, ⟨.func #[45] #[72] false, .nilFunc, 1, 8⟩),
  (157, ⟨.func #[45] #[3] false, .nilFunc, 1, 8⟩),
  (158, ⟨.func #[72, 142] #[72] false, .nilFunc, 1, 8⟩),
  (159, ⟨.func #[72, 3, 3, 3] #[] false, .nilFunc, 1, 8⟩),
  (160, ⟨.func #[161] #[3] false, .nilFunc, 1, 8⟩),
  (161, ⟨.int .u64, .int .u64 0, 1, 8⟩),
  (162, ⟨.func #[43] #[3] false, .nilFunc, 1, 8⟩),
  (163, ⟨.func #[43, 121] #[43] false, .nilFunc, 1, 8⟩),
  (164, ⟨.func #[39, 3, 111] #[39] false, .nilFunc, 1, 8⟩),
  (165, ⟨.func #[43] #[43] false, .nilFunc, 1, 8⟩),
  (166, ⟨.func #[72, 3, 3] #[] false, .nilFunc, 1, 8⟩),
  (167, ⟨.int .i64, .int .i64 0, 1, 8⟩),
  (169, ⟨.func #[72, 3, 3] #[3, 167] false, .nilFunc, 1, 8⟩),
  (170, ⟨.func #[72, 3, 3] #[4] false, .nilFunc, 1, 8⟩),
  (171, ⟨.func #[9, 9] #[4] false, .nilFunc, 1, 8⟩),
  (172, ⟨.func #[72, 3, 3, 3] #[3] false, .nilFunc, 1, 8⟩),
  (174, ⟨.func #[72, 3, 3, 3] #[3, 4] false, .nilFunc, 1, 8⟩),
  (175, ⟨.func #[176] #[3] false, .nilFunc, 1, 8⟩),
  (176, ⟨.int .u32, .int .u32 0, 1, 4⟩),
  (177, ⟨.func #[178] #[3] false, .nilFunc, 1, 8⟩),
  (178, ⟨.int .u64, .int .u64 0, 1, 8⟩),
  (179, ⟨.int .u64, .int .u64 0, 1, 8⟩),
  (180, ⟨.func #[3] #[161] false, .nilFunc, 1, 8⟩),
  (181, ⟨.func #[] #[178] false, .nilFunc, 1, 8⟩),
  (182, ⟨.func #[72, 3, 183] #[3] false, .nilFunc, 1, 8⟩),
  (183, ⟨.pointer 3, .pointer none, 1, 8⟩),
  (184, ⟨.func #[72, 3, 3, 3, 183] #[3] false, .nilFunc, 1, 8⟩),
  (185, ⟨.pointer 179, .pointer none, 1, 8⟩),
  (187, ⟨.func #[72, 3, 3, 183] #[3, 3] false, .nilFunc, 1, 8⟩),
  (188, ⟨.func #[] #[9] false, .nilFunc, 1, 8⟩),
  (189, ⟨.struct #[{ name := "_interface", type := 17, offset := 0, embedded := false, tag := "", pkgPath := "runtime", byteOffset := 0 }, { name := "concrete", type := 17, offset := 1, embedded := false, tag := "", pkgPath := "runtime", byteOffset := 8 }, { name := "asserted", type := 17, offset := 2, embedded := false, tag := "", pkgPath := "runtime", byteOffset := 16 }, { name := "missingMethod",   type := 9,   offset := 3,   embedded := false,   tag := "",   pkgPath := "runtime",   byteOffset := 24 }], .agg #[.pointer none, .pointer none, .pointer none, .string .empty], 4, 40⟩),
  (190, ⟨.struct #[{ name := "_interface", type := 17, offset := 0, embedded := false, tag := "", pkgPath := "runtime", byteOffset := 0 }, { name := "concrete", type := 17, offset := 1, embedded := false, tag := "", pkgPath := "runtime", byteOffset := 8 }, { name := "asserted", type := 17, offset := 2, embedded := false, tag := "", pkgPath := "runtime", byteOffset := 16 }, { name := "missingMethod",   type := 9,   offset := 3,   embedded := false,   tag := "",   pkgPath := "runtime",   byteOffset := 24 }], .agg #[.pointer none, .pointer none, .pointer none, .string .empty], 4, 40⟩),
  (191, ⟨.array 0 16, .agg #[], 0, 0⟩),
  (192, ⟨.struct #[{ name := "_", type := 191, offset := 0, embedded := false, tag := "", pkgPath := "runtime", byteOffset := 0 }], .agg #[], 0, 0⟩),
  (193, ⟨.struct #[{ name := "_", type := 191, offset := 0, embedded := false, tag := "", pkgPath := "runtime", byteOffset := 0 }], .agg #[], 0, 0⟩),
  (194, ⟨.int .u8, .int .u8 0, 1, 1⟩),
  (195, ⟨.int .u8, .int .u8 0, 1, 1⟩),
  (196, ⟨.func #[202, 202] #[4] false, .nilFunc, 1, 8⟩),
  (197, ⟨.pointer 5, .pointer none, 1, 8⟩),
  (198, ⟨.int .i32, .int .i32 0, 1, 4⟩),
  (199, ⟨.int .i32, .int .i32 0, 1, 4⟩),
  (200, ⟨.struct #[{ name := "Size_", type := 12, offset := 0, embedded := false, tag := "", pkgPath := "", byteOffset := 0 }, { name := "PtrBytes", type := 12, offset := 1, embedded := false, tag := "", pkgPath := "", byteOffset := 8 }, { name := "Hash", type := 176, offset := 2, embedded := false, tag := "", pkgPath := "", byteOffset := 16 }, { name := "TFlag", type := 194, offset := 3, embedded := false, tag := "", pkgPath := "", byteOffset := 20 }, { name := "Align_", type := 5, offset := 4, embedded := false, tag := "", pkgPath := "", byteOffset := 21 }, { name := "FieldAlign_", type := 5, offset := 5, embedded := false, tag := "", pkgPath := "", byteOffset := 22 }, { name := "Kind_", type := 195, offset := 6, embedded := false, tag := "", pkgPath := "", byteOffset := 23 }, { name := "Equal", type := 196, offset := 7, embedded := false, tag := "", pkgPath := "", byteOffset := 24 }, { name := "GCData", type := 197, offset := 8, embedded := false, tag := "", pkgPath := "", byteOffset := 32 }, { name := "Str", type := 198, offset := 9, embedded := false, tag := "", pkgPath := "", byteOffset := 40 }, { name := "PtrToThis", type := 199, offset := 10, embedded := false, tag := "", pkgPath := "", byteOffset := 44 }], .agg #[.int .u64 0, .int .u64 0, .int .u32 0, .int .u8 0, .int .u8 0, .int .u8 0, .int .u8 0, .nilFunc, .pointer none, .int .i32 0, .int .i32 0], 11, 48⟩),
  (201, ⟨.struct #[{ name := "Size_", type := 12, offset := 0, embedded := false, tag := "", pkgPath := "", byteOffset := 0 }, { name := "PtrBytes", type := 12, offset := 1, embedded := false, tag := "", pkgPath := "", byteOffset := 8 }, { name := "Hash", type := 176, offset := 2, embedded := false, tag := "", pkgPath := "", byteOffset := 16 }, { name := "TFlag", type := 194, offset := 3, embedded := false, tag := "", pkgPath := "", byteOffset := 20 }, { name := "Align_", type := 5, offset := 4, embedded := false, tag := "", pkgPath := "", byteOffset := 21 }, { name := "FieldAlign_", type := 5, offset := 5, embedded := false, tag := "", pkgPath := "", byteOffset := 22 }, { name := "Kind_", type := 195, offset := 6, embedded := false, tag := "", pkgPath := "", byteOffset := 23 }, { name := "Equal", type := 196, offset := 7, embedded := false, tag := "", pkgPath := "", byteOffset := 24 }, { name := "GCData", type := 197, offset := 8, embedded := false, tag := "", pkgPath := "", byteOffset := 32 }, { name := "Str", type := 198, offset := 9, embedded := false, tag := "", pkgPath := "", byteOffset := 40 }, { name := "PtrToThis", type := 199, offset := 10, embedded := false, tag := "", pkgPath := "", byteOffset := 44 }], .agg #[.int .u64 0, .int .u64 0, .int .u32 0, .int .u8 0, .int .u8 0, .int .u8 0, .int .u8 0, .nilFunc, .pointer none, .int .i32 0, .int .i32 0], 11, 48⟩)]
theorem TOK : TyOK Try.prog T := TyOK.mk (by kernel_rfl)
theorem mixed : Try.prog.follows .mixedOrders = true := by kernel_rfl
theorem ent3 : Ent Try.prog 3 := ⟨enters_of Try.func3 (by kernel_rfl) rfl⟩
theorem ent4 : Ent Try.prog 4 := ⟨enters_of Try.func4 (by kernel_rfl) rfl⟩
theorem ent5 : Ent Try.prog 5 := ⟨enters_of Try.func5 (by kernel_rfl) rfl⟩
theorem ent6 : Ent Try.prog 6 := ⟨enters_of Try.func6 (by kernel_rfl) rfl⟩
theorem ent7 : Ent Try.prog 7 := ⟨enters_of Try.func7 (by kernel_rfl) rfl⟩
theorem ent8 : Ent Try.prog 8 := ⟨enters_of Try.func8 (by kernel_rfl) rfl⟩
theorem ent9 : Ent Try.prog 9 := ⟨enters_of Try.func9 (by kernel_rfl) rfl⟩
theorem ent10 : Ent Try.prog 10 := ⟨enters_of Try.func10 (by kernel_rfl) rfl⟩
theorem ent11 : Ent Try.prog 11 := ⟨enters_of Try.func11 (by kernel_rfl) rfl⟩
theorem ent12 : Ent Try.prog 12 := ⟨enters_of Try.func12 (by kernel_rfl) rfl⟩
theorem ent13 : Ent Try.prog 13 := ⟨enters_of Try.func13 (by kernel_rfl) rfl⟩
theorem ent14 : Ent Try.prog 14 := ⟨enters_of Try.func14 (by kernel_rfl) rfl⟩
theorem ent15 : Ent Try.prog 15 := ⟨enters_of Try.func15 (by kernel_rfl) rfl⟩
theorem ent16 : Ent Try.prog 16 := ⟨enters_of Try.func16 (by kernel_rfl) rfl⟩
theorem ent17 : Ent Try.prog 17 := ⟨enters_of Try.func17 (by kernel_rfl) rfl⟩
theorem ent18 : Ent Try.prog 18 := ⟨enters_of Try.func18 (by kernel_rfl) rfl⟩
theorem ent19 : Ent Try.prog 19 := ⟨enters_of Try.func19 (by kernel_rfl) rfl⟩
theorem ent20 : Ent Try.prog 20 := ⟨enters_of Try.func20 (by kernel_rfl) rfl⟩
theorem ent21 : Ent Try.prog 21 := ⟨enters_of Try.func21 (by kernel_rfl) rfl⟩
theorem ent22 : Ent Try.prog 22 := ⟨enters_of Try.func22 (by kernel_rfl) rfl⟩
theorem ent23 : Ent Try.prog 23 := ⟨enters_of Try.func23 (by kernel_rfl) rfl⟩
theorem ent24 : Ent Try.prog 24 := ⟨enters_of Try.func24 (by kernel_rfl) rfl⟩
theorem ent25 : Ent Try.prog 25 := ⟨enters_of Try.func25 (by kernel_rfl) rfl⟩
theorem ent26 : Ent Try.prog 26 := ⟨enters_of Try.func26 (by kernel_rfl) rfl⟩
theorem ent27 : Ent Try.prog 27 := ⟨enters_of Try.func27 (by kernel_rfl) rfl⟩
theorem ent28 : Ent Try.prog 28 := ⟨enters_of Try.func28 (by kernel_rfl) rfl⟩
theorem ent29 : Ent Try.prog 29 := ⟨enters_of Try.func29 (by kernel_rfl) rfl⟩
theorem ent30 : Ent Try.prog 30 := ⟨enters_of Try.func30 (by kernel_rfl) rfl⟩
theorem ent31 : Ent Try.prog 31 := ⟨enters_of Try.func31 (by kernel_rfl) rfl⟩
theorem ent32 : Ent Try.prog 32 := ⟨enters_of Try.func32 (by kernel_rfl) rfl⟩
theorem ent33 : Ent Try.prog 33 := ⟨enters_of Try.func33 (by kernel_rfl) rfl⟩
theorem ent34 : Ent Try.prog 34 := ⟨enters_of Try.func34 (by kernel_rfl) rfl⟩
theorem ent35 : Ent Try.prog 35 := ⟨enters_of Try.func35 (by kernel_rfl) rfl⟩
theorem ent36 : Ent Try.prog 36 := ⟨enters_of Try.func36 (by kernel_rfl) rfl⟩
theorem ent37 : Ent Try.prog 37 := ⟨enters_of Try.func37 (by kernel_rfl) rfl⟩
theorem ent38 : Ent Try.prog 38 := ⟨enters_of Try.func38 (by kernel_rfl) rfl⟩
theorem ent39 : Ent Try.prog 39 := ⟨enters_of Try.func39 (by kernel_rfl) rfl⟩
theorem ent40 : Ent Try.prog 40 := ⟨enters_of Try.func40 (by kernel_rfl) rfl⟩
theorem ent41 : Ent Try.prog 41 := ⟨enters_of Try.func41 (by kernel_rfl) rfl⟩
theorem ent42 : Ent Try.prog 42 := ⟨enters_of Try.func42 (by kernel_rfl) rfl⟩
theorem ent43 : Ent Try.prog 43 := ⟨enters_of Try.func43 (by kernel_rfl) rfl⟩
theorem ent44 : Ent Try.prog 44 := ⟨enters_of Try.func44 (by kernel_rfl) rfl⟩
theorem ent45 : Ent Try.prog 45 := ⟨enters_of Try.func45 (by kernel_rfl) rfl⟩
theorem ent46 : Ent Try.prog 46 := ⟨enters_of Try.func46 (by kernel_rfl) rfl⟩
theorem ent47 : Ent Try.prog 47 := ⟨enters_of Try.func47 (by kernel_rfl) rfl⟩
theorem ent48 : Ent Try.prog 48 := ⟨enters_of Try.func48 (by kernel_rfl) rfl⟩
theorem ent49 : Ent Try.prog 49 := ⟨enters_of Try.func49 (by kernel_rfl) rfl⟩
theorem ent50 : Ent Try.prog 50 := ⟨enters_of Try.func50 (by kernel_rfl) rfl⟩
theorem ent51 : Ent Try.prog 51 := ⟨enters_of Try.func51 (by kernel_rfl) rfl⟩
theorem ent52 : Ent Try.prog 52 := ⟨enters_of Try.func52 (by kernel_rfl) rfl⟩
theorem ent53 : Ent Try.prog 53 := ⟨enters_of Try.func53 (by kernel_rfl) rfl⟩
theorem ent54 : Ent Try.prog 54 := ⟨enters_of Try.func54 (by kernel_rfl) rfl⟩
theorem ent55 : Ent Try.prog 55 := ⟨enters_of Try.func55 (by kernel_rfl) rfl⟩
theorem ent56 : Ent Try.prog 56 := ⟨enters_of Try.func56 (by kernel_rfl) rfl⟩
theorem ent57 : Ent Try.prog 57 := ⟨enters_of Try.func57 (by kernel_rfl) rfl⟩
theorem ent58 : Ent Try.prog 58 := ⟨enters_of Try.func58 (by kernel_rfl) rfl⟩
theorem ent59 : Ent Try.prog 59 := ⟨enters_of Try.func59 (by kernel_rfl) rfl⟩
theorem ent60 : Ent Try.prog 60 := ⟨enters_of Try.func60 (by kernel_rfl) rfl⟩
theorem ent61 : Ent Try.prog 61 := ⟨enters_of Try.func61 (by kernel_rfl) rfl⟩
theorem ent62 : Ent Try.prog 62 := ⟨enters_of Try.func62 (by kernel_rfl) rfl⟩
theorem ent63 : Ent Try.prog 63 := ⟨enters_of Try.func63 (by kernel_rfl) rfl⟩
theorem ent64 : Ent Try.prog 64 := ⟨enters_of Try.func64 (by kernel_rfl) rfl⟩
theorem ent65 : Ent Try.prog 65 := ⟨enters_of Try.func65 (by kernel_rfl) rfl⟩
theorem ent66 : Ent Try.prog 66 := ⟨enters_of Try.func66 (by kernel_rfl) rfl⟩
theorem ent67 : Ent Try.prog 67 := ⟨enters_of Try.func67 (by kernel_rfl) rfl⟩
theorem ent68 : Ent Try.prog 68 := ⟨enters_of Try.func68 (by kernel_rfl) rfl⟩
theorem ent69 : Ent Try.prog 69 := ⟨enters_of Try.func69 (by kernel_rfl) rfl⟩
theorem ent70 : Ent Try.prog 70 := ⟨enters_of Try.func70 (by kernel_rfl) rfl⟩
theorem ent71 : Ent Try.prog 71 := ⟨enters_of Try.func71 (by kernel_rfl) rfl⟩
theorem ent72 : Ent Try.prog 72 := ⟨enters_of Try.func72 (by kernel_rfl) rfl⟩
theorem ent73 : Ent Try.prog 73 := ⟨enters_of Try.func73 (by kernel_rfl) rfl⟩
theorem ent74 : Ent Try.prog 74 := ⟨enters_of Try.func74 (by kernel_rfl) rfl⟩
theorem ent75 : Ent Try.prog 75 := ⟨enters_of Try.func75 (by kernel_rfl) rfl⟩
theorem ent76 : Ent Try.prog 76 := ⟨enters_of Try.func76 (by kernel_rfl) rfl⟩
theorem ent77 : Ent Try.prog 77 := ⟨enters_of Try.func77 (by kernel_rfl) rfl⟩
theorem ent78 : Ent Try.prog 78 := ⟨enters_of Try.func78 (by kernel_rfl) rfl⟩
theorem ent79 : Ent Try.prog 79 := ⟨enters_of Try.func79 (by kernel_rfl) rfl⟩
theorem ent81 : Ent Try.prog 81 := ⟨enters_of Try.func81 (by kernel_rfl) rfl⟩
theorem ent82 : Ent Try.prog 82 := ⟨enters_of Try.func82 (by kernel_rfl) rfl⟩
theorem ent83 : Ent Try.prog 83 := ⟨enters_of Try.func83 (by kernel_rfl) rfl⟩
theorem ent84 : Ent Try.prog 84 := ⟨enters_of Try.func84 (by kernel_rfl) rfl⟩
theorem ent85 : Ent Try.prog 85 := ⟨enters_of Try.func85 (by kernel_rfl) rfl⟩
theorem ent86 : Ent Try.prog 86 := ⟨enters_of Try.func86 (by kernel_rfl) rfl⟩
theorem ent87 : Ent Try.prog 87 := ⟨enters_of Try.func87 (by kernel_rfl) rfl⟩
theorem ent88 : Ent Try.prog 88 := ⟨enters_of Try.func88 (by kernel_rfl) rfl⟩
theorem ent89 : Ent Try.prog 89 := ⟨enters_of Try.func89 (by kernel_rfl) rfl⟩
theorem ent90 : Ent Try.prog 90 := ⟨enters_of Try.func90 (by kernel_rfl) rfl⟩
theorem ent91 : Ent Try.prog 91 := ⟨enters_of Try.func91 (by kernel_rfl) rfl⟩
theorem ent92 : Ent Try.prog 92 := ⟨enters_of Try.func92 (by kernel_rfl) rfl⟩
theorem ent93 : Ent Try.prog 93 := ⟨enters_of Try.func93 (by kernel_rfl) rfl⟩
theorem ent94 : Ent Try.prog 94 := ⟨enters_of Try.func94 (by kernel_rfl) rfl⟩
theorem ent95 : Ent Try.prog 95 := ⟨enters_of Try.func95 (by kernel_rfl) rfl⟩
theorem ent96 : Ent Try.prog 96 := ⟨enters_of Try.func96 (by kernel_rfl) rfl⟩
theorem ent97 : Ent Try.prog 97 := ⟨enters_of Try.func97 (by kernel_rfl) rfl⟩
theorem ent98 : Ent Try.prog 98 := ⟨enters_of Try.func98 (by kernel_rfl) rfl⟩
theorem ent99 : Ent Try.prog 99 := ⟨enters_of Try.func99 (by kernel_rfl) rfl⟩
theorem ent100 : Ent Try.prog 100 := ⟨enters_of Try.func100 (by kernel_rfl) rfl⟩
theorem ent101 : Ent Try.prog 101 := ⟨enters_of Try.func101 (by kernel_rfl) rfl⟩
theorem ent102 : Ent Try.prog 102 := ⟨enters_of Try.func102 (by kernel_rfl) rfl⟩
theorem ent103 : Ent Try.prog 103 := ⟨enters_of Try.func103 (by kernel_rfl) rfl⟩
theorem ent104 : Ent Try.prog 104 := ⟨enters_of Try.func104 (by kernel_rfl) rfl⟩
theorem ent105 : Ent Try.prog 105 := ⟨enters_of Try.func105 (by kernel_rfl) rfl⟩
theorem ent106 : Ent Try.prog 106 := ⟨enters_of Try.func106 (by kernel_rfl) rfl⟩
theorem ent107 : Ent Try.prog 107 := ⟨enters_of Try.func107 (by kernel_rfl) rfl⟩
theorem ent108 : Ent Try.prog 108 := ⟨enters_of Try.func108 (by kernel_rfl) rfl⟩
theorem ent109 : Ent Try.prog 109 := ⟨enters_of Try.func109 (by kernel_rfl) rfl⟩
theorem ent110 : Ent Try.prog 110 := ⟨enters_of Try.func110 (by kernel_rfl) rfl⟩
theorem ent111 : Ent Try.prog 111 := ⟨enters_of Try.func111 (by kernel_rfl) rfl⟩
theorem ent112 : Ent Try.prog 112 := ⟨enters_of Try.func112 (by kernel_rfl) rfl⟩
theorem ent113 : Ent Try.prog 113 := ⟨enters_of Try.func113 (by kernel_rfl) rfl⟩
theorem ent114 : Ent Try.prog 114 := ⟨enters_of Try.func114 (by kernel_rfl) rfl⟩
theorem ent115 : Ent Try.prog 115 := ⟨enters_of Try.func115 (by kernel_rfl) rfl⟩
theorem ent116 : Ent Try.prog 116 := ⟨enters_of Try.func116 (by kernel_rfl) rfl⟩
theorem ent117 : Ent Try.prog 117 := ⟨enters_of Try.func117 (by kernel_rfl) rfl⟩
theorem ent118 : Ent Try.prog 118 := ⟨enters_of Try.func118 (by kernel_rfl) rfl⟩
theorem ent119 : Ent Try.prog 119 := ⟨enters_of Try.func119 (by kernel_rfl) rfl⟩
theorem ent120 : Ent Try.prog 120 := ⟨enters_of Try.func120 (by kernel_rfl) rfl⟩
theorem ent121 : Ent Try.prog 121 := ⟨enters_of Try.func121 (by kernel_rfl) rfl⟩
theorem ent122 : Ent Try.prog 122 := ⟨enters_of Try.func122 (by kernel_rfl) rfl⟩
end Go.Proofs.Ytoodgenbcfdloaa
