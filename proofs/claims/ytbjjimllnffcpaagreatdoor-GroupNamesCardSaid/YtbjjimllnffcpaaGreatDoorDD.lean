import Derived.Test.YtbjjimllnffcpaaGreatDoorAm22
import Derived.Test.YtbjjimllnffcpaaGreatDoorProg
import Derived.Test.YtbjjimllnffcpaaGreatDoorVV
set_option maxRecDepth 100000
set_option linter.unusedVariables false
set_option linter.unusedSimpArgs false
namespace Go.Proofs.YtbjjimllnffcpaaGreatDoor.Dy
open Go Go.Am
def tys : Tys := [(3, ⟨.scalar, false, 1, [.int .i64 0], [.int .i64], false, 0⟩), (9, ⟨.str, false, 1, [.string ⟨#[]⟩], [.str], false, 0⟩), (5, ⟨.scalar, false, 1, [.int .u8 0], [.int .u8], false, 0⟩), (66, ⟨.scalar, false, 1, [.int .u64 0], [.int .u64], false, 0⟩), (73, ⟨.struct [(0, 9), (1, 3), (2, 3), (3, 3)], true, 4, [.string ⟨#[]⟩, .int .i64 0, .int .i64 0, .int .i64 0], [.str, .int .i64, .int .i64, .int .i64], true, 0⟩), (74, ⟨.struct [(0, 9), (1, 3), (2, 3), (3, 3)], true, 4, [.string ⟨#[]⟩, .int .i64 0, .int .i64 0, .int .i64 0], [.str, .int .i64, .int .i64, .int .i64], true, 0⟩), (192, ⟨.scalar, false, 1, [.int .u32 0], [.int .u32], false, 0⟩), (61, ⟨.struct [(0, 3), (1, 3)], true, 2, [.int .i64 0, .int .i64 0], [.int .i64, .int .i64], true, 0⟩), (76, ⟨.struct [(0, 9), (1, 3), (2, 3), (3, 3), (4, 9)], true, 5, [.string ⟨#[]⟩, .int .i64 0, .int .i64 0, .int .i64 0, .string ⟨#[]⟩], [.str, .int .i64, .int .i64, .int .i64, .str], true, 0⟩), (21, ⟨.scalar, false, 1, [.int .i32 0], [.int .i32], false, 0⟩), (57, ⟨.struct [(0, 3), (1, 3)], true, 2, [.int .i64 0, .int .i64 0], [.int .i64, .int .i64], true, 0⟩), (77, ⟨.struct [(0, 9), (1, 3), (2, 3), (3, 3), (4, 9)], true, 5, [.string ⟨#[]⟩, .int .i64 0, .int .i64 0, .int .i64 0, .string ⟨#[]⟩], [.str, .int .i64, .int .i64, .int .i64, .str], true, 0⟩), (142, ⟨.slice 5 1 1 true, false, 1, [.slice none 0 0], [.other], false, 0⟩), (44, ⟨.slice 9 1 16 false, false, 1, [.slice none 0 0], [.other], false, 0⟩), (23, ⟨.slice 73 4 40 false, false, 1, [.slice none 0 0], [.other], false, 0⟩), (79, ⟨.struct [(0, 3), (1, 9)], true, 2, [.int .i64 0, .string ⟨#[]⟩], [.int .i64, .str], true, 0⟩), (29, ⟨.slice 74 4 40 false, false, 1, [.slice none 0 0], [.other], false, 0⟩), (80, ⟨.struct [(0, 3), (1, 9)], true, 2, [.int .i64 0, .string ⟨#[]⟩], [.int .i64, .str], true, 0⟩), (32, ⟨.slice 77 5 56 false, false, 1, [.slice none 0 0], [.other], false, 0⟩), (25, ⟨.slice 76 5 56 false, false, 1, [.slice none 0 0], [.other], false, 0⟩), (28, ⟨.struct [(0, 26), (1, 9)], true, 2, [.slice none 0 0, .string ⟨#[]⟩], [.other, .str], true, 0⟩), (26, ⟨.slice 79 2 24 false, false, 1, [.slice none 0 0], [.other], false, 0⟩), (39, ⟨.iface, false, 1, [.nilIface], [.other], false, 0⟩), (91, ⟨.slice 61 2 16 false, false, 1, [.slice none 0 0], [.other], false, 0⟩), (198, ⟨.struct [(0, 5), (1, 5)], true, 2, [.int .u8 0, .int .u8 0], [.int .u8, .int .u8], true, 0⟩), (89, ⟨.slice 57 2 16 false, false, 1, [.slice none 0 0], [.other], false, 0⟩), (163, ⟨.scalar, false, 1, [.int .i64 0], [.int .i64], false, 0⟩), (193, ⟨.array 65 5 1, true, 65, [.int .u8 0, .int .u8 0, .int .u8 0, .int .u8 0, .int .u8 0, .int .u8 0, .int .u8 0, .int .u8 0, .int .u8 0, .int .u8 0, .int .u8 0, .int .u8 0, .int .u8 0, .int .u8 0, .int .u8 0, .int .u8 0, .int .u8 0, .int .u8 0, .int .u8 0, .int .u8 0, .int .u8 0, .int .u8 0, .int .u8 0, .int .u8 0, .int .u8 0, .int .u8 0, .int .u8 0, .int .u8 0, .int .u8 0, .int .u8 0, .int .u8 0, .int .u8 0, .int .u8 0, .int .u8 0, .int .u8 0, .int .u8 0, .int .u8 0, .int .u8 0, .int .u8 0, .int .u8 0, .int .u8 0, .int .u8 0, .int .u8 0, .int .u8 0, .int .u8 0, .int .u8 0, .int .u8 0, .int .u8 0, .int .u8 0, .int .u8 0, .int .u8 0, .int .u8 0, .int .u8 0, .int .u8 0, .int .u8 0, .int .u8 0, .int .u8 0, .int .u8 0, .int .u8 0, .int .u8 0, .int .u8 0, .int .u8 0, .int .u8 0, .int .u8 0, .int .u8 0], [.int .u8, .int .u8, .int .u8, .int .u8, .int .u8, .int .u8, .int .u8, .int .u8, .int .u8, .int .u8, .int .u8, .int .u8, .int .u8, .int .u8, .int .u8, .int .u8, .int .u8, .int .u8, .int .u8, .int .u8, .int .u8, .int .u8, .int .u8, .int .u8, .int .u8, .int .u8, .int .u8, .int .u8, .int .u8, .int .u8, .int .u8, .int .u8, .int .u8, .int .u8, .int .u8, .int .u8, .int .u8, .int .u8, .int .u8, .int .u8, .int .u8, .int .u8, .int .u8, .int .u8, .int .u8, .int .u8, .int .u8, .int .u8, .int .u8, .int .u8, .int .u8, .int .u8, .int .u8, .int .u8, .int .u8, .int .u8, .int .u8, .int .u8, .int .u8, .int .u8, .int .u8, .int .u8, .int .u8, .int .u8, .int .u8], true, 0⟩), (2, ⟨.scalar, false, 1, [.int .i64 0], [.int .i64], false, 0⟩), (123, ⟨.scalar, false, 1, [.int .u64 0], [.int .u64], false, 0⟩), (35, ⟨.slice 80 2 24 false, false, 1, [.slice none 0 0], [.other], false, 0⟩), (180, ⟨.array 24 5 1, true, 24, [.int .u8 0, .int .u8 0, .int .u8 0, .int .u8 0, .int .u8 0, .int .u8 0, .int .u8 0, .int .u8 0, .int .u8 0, .int .u8 0, .int .u8 0, .int .u8 0, .int .u8 0, .int .u8 0, .int .u8 0, .int .u8 0, .int .u8 0, .int .u8 0, .int .u8 0, .int .u8 0, .int .u8 0, .int .u8 0, .int .u8 0, .int .u8 0], [.int .u8, .int .u8, .int .u8, .int .u8, .int .u8, .int .u8, .int .u8, .int .u8, .int .u8, .int .u8, .int .u8, .int .u8, .int .u8, .int .u8, .int .u8, .int .u8, .int .u8, .int .u8, .int .u8, .int .u8, .int .u8, .int .u8, .int .u8, .int .u8], true, 0⟩), (191, ⟨.array 20 66 1, true, 20, [.int .u64 0, .int .u64 0, .int .u64 0, .int .u64 0, .int .u64 0, .int .u64 0, .int .u64 0, .int .u64 0, .int .u64 0, .int .u64 0, .int .u64 0, .int .u64 0, .int .u64 0, .int .u64 0, .int .u64 0, .int .u64 0, .int .u64 0, .int .u64 0, .int .u64 0, .int .u64 0], [.int .u64, .int .u64, .int .u64, .int .u64, .int .u64, .int .u64, .int .u64, .int .u64, .int .u64, .int .u64, .int .u64, .int .u64, .int .u64, .int .u64, .int .u64, .int .u64, .int .u64, .int .u64, .int .u64, .int .u64], true, 0⟩), (204, ⟨.array 64 5 1, true, 64, [.int .u8 0, .int .u8 0, .int .u8 0, .int .u8 0, .int .u8 0, .int .u8 0, .int .u8 0, .int .u8 0, .int .u8 0, .int .u8 0, .int .u8 0, .int .u8 0, .int .u8 0, .int .u8 0, .int .u8 0, .int .u8 0, .int .u8 0, .int .u8 0, .int .u8 0, .int .u8 0, .int .u8 0, .int .u8 0, .int .u8 0, .int .u8 0, .int .u8 0, .int .u8 0, .int .u8 0, .int .u8 0, .int .u8 0, .int .u8 0, .int .u8 0, .int .u8 0, .int .u8 0, .int .u8 0, .int .u8 0, .int .u8 0, .int .u8 0, .int .u8 0, .int .u8 0, .int .u8 0, .int .u8 0, .int .u8 0, .int .u8 0, .int .u8 0, .int .u8 0, .int .u8 0, .int .u8 0, .int .u8 0, .int .u8 0, .int .u8 0, .int .u8 0, .int .u8 0, .int .u8 0, .int .u8 0, .int .u8 0, .int .u8 0, .int .u8 0, .int .u8 0, .int .u8 0, .int .u8 0, .int .u8 0, .int .u8 0, .int .u8 0, .int .u8 0], [.int .u8, .int .u8, .int .u8, .int .u8, .int .u8, .int .u8, .int .u8, .int .u8, .int .u8, .int .u8, .int .u8, .int .u8, .int .u8, .int .u8, .int .u8, .int .u8, .int .u8, .int .u8, .int .u8, .int .u8, .int .u8, .int .u8, .int .u8, .int .u8, .int .u8, .int .u8, .int .u8, .int .u8, .int .u8, .int .u8, .int .u8, .int .u8, .int .u8, .int .u8, .int .u8, .int .u8, .int .u8, .int .u8, .int .u8, .int .u8, .int .u8, .int .u8, .int .u8, .int .u8, .int .u8, .int .u8, .int .u8, .int .u8, .int .u8, .int .u8, .int .u8, .int .u8, .int .u8, .int .u8, .int .u8, .int .u8, .int .u8, .int .u8, .int .u8, .int .u8, .int .u8, .int .u8, .int .u8, .int .u8], true, 0⟩), (52, ⟨.scalar, false, 1, [.int .i64 0], [.int .i64], false, 0⟩), (140, ⟨.struct [(0, 9), (1, 3), (2, 39)], true, 3, [.string ⟨#[]⟩, .int .i64 0, .nilIface], [.str, .int .i64, .other], false, 0⟩), (203, ⟨.array 32 5 1, true, 32, [.int .u8 0, .int .u8 0, .int .u8 0, .int .u8 0, .int .u8 0, .int .u8 0, .int .u8 0, .int .u8 0, .int .u8 0, .int .u8 0, .int .u8 0, .int .u8 0, .int .u8 0, .int .u8 0, .int .u8 0, .int .u8 0, .int .u8 0, .int .u8 0, .int .u8 0, .int .u8 0, .int .u8 0, .int .u8 0, .int .u8 0, .int .u8 0, .int .u8 0, .int .u8 0, .int .u8 0, .int .u8 0, .int .u8 0, .int .u8 0, .int .u8 0, .int .u8 0], [.int .u8, .int .u8, .int .u8, .int .u8, .int .u8, .int .u8, .int .u8, .int .u8, .int .u8, .int .u8, .int .u8, .int .u8, .int .u8, .int .u8, .int .u8, .int .u8, .int .u8, .int .u8, .int .u8, .int .u8, .int .u8, .int .u8, .int .u8, .int .u8, .int .u8, .int .u8, .int .u8, .int .u8, .int .u8, .int .u8, .int .u8, .int .u8], true, 0⟩), (199, ⟨.array 16 198 2, true, 32, [.int .u8 0, .int .u8 0, .int .u8 0, .int .u8 0, .int .u8 0, .int .u8 0, .int .u8 0, .int .u8 0, .int .u8 0, .int .u8 0, .int .u8 0, .int .u8 0, .int .u8 0, .int .u8 0, .int .u8 0, .int .u8 0, .int .u8 0, .int .u8 0, .int .u8 0, .int .u8 0, .int .u8 0, .int .u8 0, .int .u8 0, .int .u8 0, .int .u8 0, .int .u8 0, .int .u8 0, .int .u8 0, .int .u8 0, .int .u8 0, .int .u8 0, .int .u8 0], [.int .u8, .int .u8, .int .u8, .int .u8, .int .u8, .int .u8, .int .u8, .int .u8, .int .u8, .int .u8, .int .u8, .int .u8, .int .u8, .int .u8, .int .u8, .int .u8, .int .u8, .int .u8, .int .u8, .int .u8, .int .u8, .int .u8, .int .u8, .int .u8, .int .u8, .int .u8, .int .u8, .int .u8, .int .u8, .int .u8, .int .u8, .int .u8], true, 0⟩), (4, ⟨.scalar, false, 1, [.bool false], [.bool], false, 0⟩), (138, ⟨.ptr, false, 1, [.pointer none], [.other], false, 0⟩), (178, ⟨.struct [(0, 9), (1, 9), (2, 39)], true, 3, [.string ⟨#[]⟩, .string ⟨#[]⟩, .nilIface], [.str, .str, .other], false, 0⟩), (186, ⟨.ptr, false, 1, [.pointer none], [.other], false, 0⟩), (109, ⟨.iface, false, 1, [.nilIface], [.other], false, 0⟩), (232, ⟨.ptr, false, 1, [.pointer none], [.other], false, 0⟩), (196, ⟨.array 256 5 1, true, 256, [.int .u8 0, .int .u8 0, .int .u8 0, .int .u8 0, .int .u8 0, .int .u8 0, .int .u8 0, .int .u8 0, .int .u8 0, .int .u8 0, .int .u8 0, .int .u8 0, .int .u8 0, .int .u8 0, .int .u8 0, .int .u8 0, .int .u8 0, .int .u8 0, .int .u8 0, .int .u8 0, .int .u8 0, .int .u8 0, .int .u8 0, .int .u8 0, .int .u8 0, .int .u8 0, .int .u8 0, .int .u8 0, .int .u8 0, .int .u8 0, .int .u8 0, .int .u8 0, .int .u8 0, .int .u8 0, .int .u8 0, .int .u8 0, .int .u8 0, .int .u8 0, .int .u8 0, .int .u8 0, .int .u8 0, .int .u8 0, .int .u8 0, .int .u8 0, .int .u8 0, .int .u8 0, .int .u8 0, .int .u8 0, .int .u8 0, .int .u8 0, .int .u8 0, .int .u8 0, .int .u8 0, .int .u8 0, .int .u8 0, .int .u8 0, .int .u8 0, .int .u8 0, .int .u8 0, .int .u8 0, .int .u8 0, .int .u8 0, .int .u8 0, .int .u8 0, .int .u8 0, .int .u8 0, .int .u8 0, .int .u8 0, .int .u8 0, .int .u8 0, .int .u8 0, .int .u8 0, .int .u8 0, .int .u8 0, .int .u8 0, .int .u8 0, .int .u8 0, .int .u8 0, .int .u8 0, .int .u8 0, .int .u8 0, .int .u8 0, .int .u8 0, .int .u8 0, .int .u8 0, .int .u8 0, .int .u8 0, .int .u8 0, .int .u8 0, .int .u8 0, .int .u8 0, .int .u8 0, .int .u8 0, .int .u8 0, .int .u8 0, .int .u8 0, .int .u8 0, .int .u8 0, .int .u8 0, .int .u8 0, .int .u8 0, .int .u8 0, .int .u8 0, .int .u8 0, .int .u8 0, .int .u8 0, .int .u8 0, .int .u8 0, .int .u8 0, .int .u8 0, .int .u8 0, .int .u8 0, .int .u8 0, .int .u8 0, .int .u8 0, .int .u8 0, .int .u8 0, .int .u8 0, .int .u8 0, .int .u8 0, .int .u8 0, .int .u8 0, .int .u8 0, .int .u8 0, .int .u8 0, .int .u8 0, .int .u8 0, .int .u8 0, .int .u8 0, .int .u8 0, .int .u8 0, .int .u8 0, .int .u8 0, .int .u8 0, .int .u8 0, .int .u8 0, .int .u8 0, .int .u8 0, .int .u8 0, .int .u8 0, .int .u8 0, .int .u8 0, .int .u8 0, .int .u8 0, .int .u8 0, .int .u8 0, .int .u8 0, .int .u8 0, .int .u8 0, .int .u8 0, .int .u8 0, .int .u8 0, .int .u8 0, .int .u8 0, .int .u8 0, .int .u8 0, .int .u8 0, .int .u8 0, .int .u8 0, .int .u8 0, .int .u8 0, .int .u8 0, .int .u8 0, .int .u8 0, .int .u8 0, .int .u8 0, .int .u8 0, .int .u8 0, .int .u8 0, .int .u8 0, .int .u8 0, .int .u8 0, .int .u8 0, .int .u8 0, .int .u8 0, .int .u8 0, .int .u8 0, .int .u8 0, .int .u8 0, .int .u8 0, .int .u8 0, .int .u8 0, .int .u8 0, .int .u8 0, .int .u8 0, .int .u8 0, .int .u8 0, .int .u8 0, .int .u8 0, .int .u8 0, .int .u8 0, .int .u8 0, .int .u8 0, .int .u8 0, .int .u8 0, .int .u8 0, .int .u8 0, .int .u8 0, .int .u8 0, .int .u8 0, .int .u8 0, .int .u8 0, .int .u8 0, .int .u8 0, .int .u8 0, .int .u8 0, .int .u8 0, .int .u8 0, .int .u8 0, .int .u8 0, .int .u8 0, .int .u8 0, .int .u8 0, .int .u8 0, .int .u8 0, .int .u8 0, .int .u8 0, .int .u8 0, .int .u8 0, .int .u8 0, .int .u8 0, .int .u8 0, .int .u8 0, .int .u8 0, .int .u8 0, .int .u8 0, .int .u8 0, .int .u8 0, .int .u8 0, .int .u8 0, .int .u8 0, .int .u8 0, .int .u8 0, .int .u8 0, .int .u8 0, .int .u8 0, .int .u8 0, .int .u8 0, .int .u8 0, .int .u8 0, .int .u8 0, .int .u8 0, .int .u8 0, .int .u8 0, .int .u8 0, .int .u8 0, .int .u8 0, .int .u8 0, .int .u8 0, .int .u8 0, .int .u8 0, .int .u8 0, .int .u8 0, .int .u8 0, .int .u8 0, .int .u8 0], [.int .u8, .int .u8, .int .u8, .int .u8, .int .u8, .int .u8, .int .u8, .int .u8, .int .u8, .int .u8, .int .u8, .int .u8, .int .u8, .int .u8, .int .u8, .int .u8, .int .u8, .int .u8, .int .u8, .int .u8, .int .u8, .int .u8, .int .u8, .int .u8, .int .u8, .int .u8, .int .u8, .int .u8, .int .u8, .int .u8, .int .u8, .int .u8, .int .u8, .int .u8, .int .u8, .int .u8, .int .u8, .int .u8, .int .u8, .int .u8, .int .u8, .int .u8, .int .u8, .int .u8, .int .u8, .int .u8, .int .u8, .int .u8, .int .u8, .int .u8, .int .u8, .int .u8, .int .u8, .int .u8, .int .u8, .int .u8, .int .u8, .int .u8, .int .u8, .int .u8, .int .u8, .int .u8, .int .u8, .int .u8, .int .u8, .int .u8, .int .u8, .int .u8, .int .u8, .int .u8, .int .u8, .int .u8, .int .u8, .int .u8, .int .u8, .int .u8, .int .u8, .int .u8, .int .u8, .int .u8, .int .u8, .int .u8, .int .u8, .int .u8, .int .u8, .int .u8, .int .u8, .int .u8, .int .u8, .int .u8, .int .u8, .int .u8, .int .u8, .int .u8, .int .u8, .int .u8, .int .u8, .int .u8, .int .u8, .int .u8, .int .u8, .int .u8, .int .u8, .int .u8, .int .u8, .int .u8, .int .u8, .int .u8, .int .u8, .int .u8, .int .u8, .int .u8, .int .u8, .int .u8, .int .u8, .int .u8, .int .u8, .int .u8, .int .u8, .int .u8, .int .u8, .int .u8, .int .u8, .int .u8, .int .u8, .int .u8, .int .u8, .int .u8, .int .u8, .int .u8, .int .u8, .int .u8, .int .u8, .int .u8, .int .u8, .int .u8, .int .u8, .int .u8, .int .u8, .int .u8, .int .u8, .int .u8, .int .u8, .int .u8, .int .u8, .int .u8, .int .u8, .int .u8, .int .u8, .int .u8, .int .u8, .int .u8, .int .u8, .int .u8, .int .u8, .int .u8, .int .u8, .int .u8, .int .u8, .int .u8, .int .u8, .int .u8, .int .u8, .int .u8, .int .u8, .int .u8, .int .u8, .int .u8, .int .u8, .int .u8, .int .u8, .int .u8, .int .u8, .int .u8, .int .u8, .int .u8, .int .u8, .int .u8, .int .u8, .int .u8, .int .u8, .int .u8, .int .u8, .int .u8, .int .u8, .int .u8, .int .u8, .int .u8, .int .u8, .int .u8, .int .u8, .int .u8, .int .u8, .int .u8, .int .u8, .int .u8, .int .u8, .int .u8, .int .u8, .int .u8, .int .u8, .int .u8, .int .u8, .int .u8, .int .u8, .int .u8, .int .u8, .int .u8, .int .u8, .int .u8, .int .u8, .int .u8, .int .u8, .int .u8, .int .u8, .int .u8, .int .u8, .int .u8, .int .u8, .int .u8, .int .u8, .int .u8, .int .u8, .int .u8, .int .u8, .int .u8, .int .u8, .int .u8, .int .u8, .int .u8, .int .u8, .int .u8, .int .u8, .int .u8, .int .u8, .int .u8, .int .u8, .int .u8, .int .u8, .int .u8, .int .u8, .int .u8, .int .u8, .int .u8, .int .u8, .int .u8, .int .u8, .int .u8, .int .u8, .int .u8, .int .u8, .int .u8, .int .u8, .int .u8, .int .u8, .int .u8], true, 0⟩), (187, ⟨.ptr, false, 1, [.pointer none], [.other], false, 0⟩), (189, ⟨.struct [(0, 9)], true, 1, [.string ⟨#[]⟩], [.str], true, 0⟩)]
theorem tysOk : TysOk Tryz.prog tys := TysOk.of (by kernel_rfl)
theorem mixed : Tryz.prog.follows .mixedOrders = true := by kernel_rfl
/-- A number, a bool, an interval, in the machine. -/
abbrev nI (n : Int) : D := .lit (.int .i64 n)
abbrev bI (b : Bool) : AV := .d (.lit (.bool b))
abbrev iv (l i : Int) : AV := .d (.agg [nI l, nI i])

theorem ret_bI {a b : Bool} (h : a = b) : mkRet [.d (.lit (.bool a))] = bI b := by subst h; rfl

def od46 : Ords := [(1, [0, 1, 2, 3, 4, 5, 6, 7, 8, 9, 10, 11, 12, 13, 14, 15, 16, 17, 18, 19, 20, 21, 22, 23, 24, 25, 26, 27, 28, 29, 30])]
theorem code46 : codeB Tryz.f46.ntmps od46 (match Tryz.f46.body with | some c => c | none => .skip) = true := by kernel_rfl
def good (l i n : Int) : Bool := decide (n ≥ 0) && (decide (n ≤ 8) && (decide (l ≥ 0) && (decide (l ≤ n) && (decide (i ≥ 0) && decide (i < 2 ^ l.toNat)))))
theorem ok46 (l i n : Int) : Pure Tryz.prog 46 [iv l i, .d (nI n)] (bI (good l i n)) := by
  refine CallOk.of tysOk mixed od46 Tryz.func46 rfl rfl code46 ?_
  repeat' (first | refine W.ite_t rfl ?_ | refine W.ite_f rfl ?_ | (refine W.ite_t ?h ?_; (case h => assumption)) | (refine W.ite_f ?h ?_; (case h => assumption)) | refine W.ite (fun h => ?_) (fun h => ?_) | refine W.need ?_ ?_)
  all_goals (try refine W.ret ?_)
  all_goals (try refine RetQ.pure rfl ?_)
  all_goals simp only [decide_eq_true_eq, decide_eq_false_iff_not, ge_iff_le] at *
  all_goals first | assumption | refine ret_bI ?_
  · rw [min64 (by omega), Int.one_mul, wrap64 (by have := pow2_le (k := l.toNat) (by omega); omega) (by have := pow2_le (k := l.toNat) (by omega); omega)]
    simp_all [good]
  all_goals (simp_all [good] <;> omega)
theorem good_iff {l i n : Int} : good l i n = true ↔ 0 ≤ n ∧ n ≤ 8 ∧ 0 ≤ l ∧ l ≤ n ∧ 0 ≤ i ∧ i < 2 ^ l.toNat := by
  simp [good]

def cells (l i n : Int) : Int × Int := if good l i n then (i * 2 ^ (n - l).toNat, (i + 1) * 2 ^ (n - l).toNat - 1) else (0, -1)
theorem pow2_mul {a b : Nat} (h : a + b ≤ 8) {i : Int} (h0 : 0 ≤ i) (h1 : i ≤ 2 ^ a) : 0 ≤ i * 2 ^ b ∧ i * 2 ^ b ≤ 256 := by
  have h2 := pow2_le (k := b) (by omega)
  have h3 := pow2_le h
  rw [Int.pow_add] at h3
  refine ⟨Int.mul_nonneg h0 (by omega), Int.le_trans (Int.mul_le_mul_of_nonneg_right h1 (by omega)) h3.2⟩
theorem cells_bad {l i n : Int} (h : good l i n = false) : cells l i n = (0, -1) := by simp [cells, h]
theorem cells_good {l i n : Int} (h : good l i n = true) : cells l i n = (i * 2 ^ (n - l).toNat, (i + 1) * 2 ^ (n - l).toNat - 1) := by simp only [cells, h, if_true]
end Go.Proofs.YtbjjimllnffcpaaGreatDoor.Dy

set_option maxRecDepth 100000
set_option linter.unusedVariables false
set_option linter.unusedSimpArgs false
namespace Go.Proofs.YtbjjimllnffcpaaGreatDoor.Dy
open Go Go.Am
def od36 : Ords := []
theorem code36 : codeB Tryz.f36.ntmps od36 (match Tryz.f36.body with | some c => c | none => .skip) = true := by kernel_rfl
/-- Intervals, as cells. -/
def ivs : List (Int × Int) → List D
  | [] => []
  | p :: r => nI p.1 :: nI p.2 :: ivs r
theorem ivs_append (a b : List (Int × Int)) : ivs (a ++ b) = ivs a ++ ivs b := by
  induction a with
  | nil => rfl
  | cons p r ih => simp [ivs, ih]
theorem ivs_length (a : List (Int × Int)) : (ivs a).length = 2 * a.length := by
  induction a with
  | nil => rfl
  | cons p r ih => simp [ivs, ih]; omega
def chainI (cell n : Int) (k : Nat) : List (Int × Int) := (List.range k).map fun (l : Nat) => ((l : Int), cell.fdiv (2 ^ (n - l).toNat))
def chain (cell n : Int) : List (Int × Int) := if good n cell n then chainI cell n (n + 1).toNat else []
def slI (l : List (Int × Int)) : AV := .d (.sl l.length (ivs l))
theorem ok36 (cell n : Int) : Pure Tryz.prog 36 [.d (nI cell), .d (nI n)] (slI (chain cell n)) := by
  refine CallOk.soft (CallOk.of tysOk mixed [] Tryz.func36 rfl rfl code36 ?_)
  refine W.pure (ok46 n cell n) rfl rfl ?_
  refine W.ite (fun h => ?_) (fun h => ?_)
  · refine W.ret (RetQ.soft rfl ?_)
    have : good n cell n = false := by simpa using h
    simp [chain, this]
    rfl
  · have hg : good n cell n = true := by simpa using h
    obtain ⟨h1, h2, h3, h4, h5, h6⟩ := good_iff.1 hg
    refine W.loop (fun k fr σ => ∃ j : Nat, fr = [(0, .d (nI cell)), (1, .d (nI n)), (6, .d (nI j)), (5, .vec 0 j)] ∧ σ = [.vec 2 j (ivs (chainI cell n j))] ∧ (j : Int) ≤ n + 1 ∧ k = (n + 1 - j).toNat) (n + 1).toNat
      (Start.of [0, 1, 6] [(5, 2)] (by simp; rfl)) ⟨0, rfl, rfl, by omega, by simp⟩ ?_
    rintro k fr σ ⟨j, rfl, rfl, hj, rfl⟩
    refine W.ite (fun h => ?_) (fun h => ?_)
    · have hlt : (j : Int) ≤ n := by simpa using h
      have e1 : IntKind.i64.wrap (n - j) = n - j := wrap64 (by omega) (by omega)
      have e2 : IntKind.i64.wrap ((j : Int) + 1) = ((j + 1 : Nat) : Int) := by rw [wrap64 (by omega) (by omega)]; rfl
      refine W.need (by rw [e1]; omega) ?_
      refine W.alt_l ?_
      refine W.need ⟨rfl, rfl, rfl, by omega, by omega, by intro c hc; simp at hc; rcases hc with rfl | rfl <;> rfl⟩ ?_
      refine W.ret ⟨(n + 1 - (j + 1 : Nat)).toNat, _, _, by omega, Trim.of [0, 1, 6, 5] [0] (by decide) (by simp) (by simp), j + 1, ?_, ?_, by omega, rfl⟩
      · rw [← e2]; rfl
      · have : ivs (chainI cell n (j + 1)) = ivs (chainI cell n j) ++ [nI j, nI (cell.fdiv (2 ^ (n - j).toNat))] := by
          rw [chainI, List.range_succ, List.map_append, ivs_append]
          rfl
        rw [this]
        show [Blk.vec 2 (j + 1) (ivs (chainI cell n j) ++ [nI j, nI (cell.fdiv (2 ^ min (IntKind.i64.wrap (n - j)).toNat IntKind.i64.bits))])] = _
        rw [e1, min64 (by omega)]
    · have hlt : (j : Int) = n + 1 := by have : ¬ (j : Int) ≤ n := by simpa using h
                                         omega
      refine W.ret (W.ret (RetQ.row (cs := ivs (chainI cell n j)) rfl ?_))
      have hl : (ivs (chainI cell n j)).take (j * 2) = ivs (chainI cell n j) := by
        rw [List.take_of_length_le]; rw [ivs_length]; simp [chainI]; omega
      have hj : (n + 1).toNat = j := by omega
      rw [hl]
      simp [chain, hg, slI, hj, chainI]
end Go.Proofs.YtbjjimllnffcpaaGreatDoor.Dy

set_option maxRecDepth 100000
set_option linter.unusedVariables false
set_option linter.unusedSimpArgs false
namespace Go.Proofs.YtbjjimllnffcpaaGreatDoor.Dy
open Go Go.Am
def od33 : Ords := []
theorem code33 : codeB Tryz.f33.ntmps od33 (match Tryz.f33.body with | some c => c | none => .skip) = true := by kernel_rfl
def inner (lo hi n : Nat) : Nat → Nat → Nat
  | 0, b => b
  | f + 1, b => if b < n ∧ lo % 2 ^ (b + 1) = 0 ∧ lo + 2 ^ (b + 1) ≤ hi + 1 then inner lo hi n f (b + 1) else b
def coverN (hi n : Nat) : Nat → Nat → List (Int × Int)
  | 0, _ => []
  | f + 1, lo => if lo ≤ hi then (((n - inner lo hi n n 0 : Nat) : Int), ((lo / 2 ^ inner lo hi n n 0 : Nat) : Int)) :: coverN hi n f (lo + 2 ^ inner lo hi n n 0) else []
def cover (lo hi n : Int) : List (Int × Int) := if lo ≤ hi ∧ good n lo n = true ∧ good n hi n = true then coverN hi.toNat n.toNat (hi + 1 - lo).toNat lo.toNat else []
theorem inner_le (lo hi n : Nat) : ∀ (f b : Nat), b ≤ n → inner lo hi n f b ≤ n ∧ b ≤ inner lo hi n f b
  | 0, b, h => ⟨h, Nat.le_refl _⟩
  | f + 1, b, h => by
    unfold inner
    split
    · rename_i h1
      have := inner_le lo hi n f (b + 1) h1.1
      omega
    · omega
theorem inner_fits (lo hi n : Nat) (h : lo ≤ hi) : ∀ (f b : Nat), lo + 2 ^ b ≤ hi + 1 → lo + 2 ^ inner lo hi n f b ≤ hi + 1
  | 0, b, hb => hb
  | f + 1, b, hb => by
    unfold inner
    split
    · rename_i h1
      exact inner_fits lo hi n h f (b + 1) h1.2.2
    · exact hb
theorem and_mask (x k : Nat) (hx : x < 512) (hk : k ≤ 9) : (BitVec.ofInt 64 (x : Int) &&& BitVec.ofInt 64 ((2 : Int) ^ k - 1)).toNat = x % 2 ^ k := by
  have e : (2 : Int) ^ k - 1 = ((2 ^ k - 1 : Nat) : Int) := by
    have := Nat.one_le_two_pow (n := k)
    rw [Int.natCast_sub this]
    simp
  have hk2 : 2 ^ k ≤ 512 := by
    have := Nat.pow_le_pow_right (n := 2) (by omega) hk
    simpa using this
  rw [e, BitVec.toNat_and, BitVec.ofInt_natCast, BitVec.ofInt_natCast, BitVec.toNat_ofNat, BitVec.toNat_ofNat, Nat.mod_eq_of_lt (by omega), Nat.mod_eq_of_lt (by omega), Nat.and_two_pow_sub_one_eq_mod]
theorem pow2N {k : Nat} (h : k ≤ 8) : 1 ≤ 2 ^ k ∧ 2 ^ k ≤ 256 := by
  have : k = 0 ∨ k = 1 ∨ k = 2 ∨ k = 3 ∨ k = 4 ∨ k = 5 ∨ k = 6 ∨ k = 7 ∨ k = 8 := by omega
  rcases this with rfl | rfl | rfl | rfl | rfl | rfl | rfl | rfl | rfl <;> decide
set_option maxHeartbeats 4000000 in
theorem ok33 (lo hi n : Int) : Go.Am.Pure Tryz.prog 33 [.d (nI lo), .d (nI hi), .d (nI n)] (slI (cover lo hi n)) := by
  refine CallOk.soft (CallOk.of tysOk mixed [] Tryz.func33 rfl rfl code33 ?_)
  have nil : ∀ {Q : Prop}, ¬ (lo ≤ hi ∧ good n lo n = true ∧ good n hi n = true) → (AV.d (.lit (.slice none 0 0))).soft = slI (cover lo hi n) := fun {Q} h => by
    simp only [cover, h, if_false]
    rfl
  refine W.ite (fun h => ?_) (fun h => ?_)
  · repeat (first | refine W.ite_t rfl ?_ | refine W.ite_f rfl ?_ | refine W.ite_t (by assumption) ?_ | refine W.ite_f (by assumption) ?_)
    refine W.ret (RetQ.soft rfl (nil (Q := True) ?_))
    have : lo > hi := by simpa using h
    omega
  have hlh : lo ≤ hi := by have : ¬ lo > hi := (by simpa using h); omega
  repeat (first | refine W.ite_t rfl ?_ | refine W.ite_f rfl ?_ | refine W.ite_t (by assumption) ?_ | refine W.ite_f (by assumption) ?_)
  refine W.pure (ok46 n lo n) rfl rfl ?_
  repeat (first | refine W.ite_t rfl ?_ | refine W.ite_f rfl ?_ | refine W.ite_t (by assumption) ?_ | refine W.ite_f (by assumption) ?_)
  refine W.ite (fun h1 => ?_) (fun h1 => ?_)
  · repeat (first | refine W.ite_t rfl ?_ | refine W.ite_f rfl ?_ | refine W.ite_t (by assumption) ?_ | refine W.ite_f (by assumption) ?_)
    refine W.ret (RetQ.soft rfl (nil (Q := True) ?_))
    have : good n lo n = false := by simpa using h1
    simp [this]
  have hg1 : good n lo n = true := by simpa using h1
  repeat (first | refine W.ite_t rfl ?_ | refine W.ite_f rfl ?_ | refine W.ite_t (by assumption) ?_ | refine W.ite_f (by assumption) ?_)
  refine W.pure (ok46 n hi n) rfl rfl ?_
  repeat (first | refine W.ite_t rfl ?_ | refine W.ite_f rfl ?_ | refine W.ite_t (by assumption) ?_ | refine W.ite_f (by assumption) ?_)
  refine W.ite (fun h2 => ?_) (fun h2 => ?_)
  · refine W.ret (RetQ.soft rfl (nil (Q := True) ?_))
    have : good n hi n = false := by simpa using h2
    simp [this]
  have hg2 : good n hi n = true := by simpa using h2
  clear h h1 h2 nil
  obtain ⟨a1, a2, a3, a4, a5, a6⟩ := good_iff.1 hg1
  obtain ⟨b1, b2, b3, b4, b5, b6⟩ := good_iff.1 hg2
  obtain ⟨N, rfl⟩ : ∃ N : Nat, n = N := ⟨n.toNat, by omega⟩
  obtain ⟨H, rfl⟩ : ∃ H : Nat, hi = H := ⟨hi.toNat, by omega⟩
  obtain ⟨X, rfl⟩ : ∃ X : Nat, lo = X := ⟨lo.toNat, by omega⟩
  have hN : N ≤ 8 := by omega
  have hH : H < 2 ^ N := by
    have : ((2 : Int) ^ ((N : Int).toNat)) = ((2 ^ N : Nat) : Int) := by simp
    omega
  have hH2 : H < 256 := by have := pow2N hN; omega
  have hcov : cover (X : Int) H N = coverN H N (H + 1 - X) X := by
    simp only [cover, hlh, hg1, hg2, and_self, if_true]
    congr 1
    omega
  refine W.loop (fun k fr σ => ∃ (j x f : Nat) (done : List (Int × Int)), fr = [(0, .d (nI x)), (1, .d (nI H)), (2, .d (nI N)), (7, .vec 0 j)] ∧ σ = [.vec 2 j (ivs done)] ∧ done.length = j ∧ j ≤ 256 ∧ j + f ≤ 256 ∧ done ++ coverN H N f x = cover X H N ∧ x ≤ 256 ∧ H + 1 - x ≤ f ∧ f = k) (H + 1 - X)
    (Start.of [0, 1, 2] [(7, 2)] (by simp; rfl)) ⟨0, X, H + 1 - X, [], rfl, rfl, rfl, by omega, by omega, hcov.symm, by omega, by omega, rfl⟩ ?_
  rintro k fr σ ⟨j, x, f, done, rfl, rfl, hdone, hj, hjf, hc, hx, hf, rfl⟩
  refine W.ite (fun h => ?_) (fun h => ?_)
  · have hxH : x ≤ H := by have : (x : Int) ≤ H := (by simpa using h); omega
    obtain ⟨f, rfl⟩ : ∃ f', f = f' + 1 := ⟨f - 1, by omega⟩
    have hB := inner_le x H N N 0 (by omega)
    refine W.loop (fun k fr σ => ∃ (b g : Nat), fr = [(0, .d (nI x)), (1, .d (nI H)), (2, .d (nI N)), (7, .vec 0 j), (8, .d (nI b))] ∧ σ = [.vec 2 j (ivs done)] ∧ b ≤ N ∧ N ≤ b + g ∧ inner x H N g b = inner x H N N 0 ∧ g = k) N
      (Start.of [0, 1, 2, 7, 8] [] (by simp)) ⟨0, N, rfl, rfl, by omega, by omega, rfl, rfl⟩ ?_
    rintro k fr σ ⟨b, g, rfl, rfl, hb, hg, hin, rfl⟩
    have e1 : IntKind.i64.wrap ((b : Int) + 1) = ((b + 1 : Nat) : Int) := by rw [wrap64 (by omega) (by omega)]; rfl
    have hp := pow2N (k := b) (by omega)
    have e2 : IntKind.i64.wrap (1 * 2 ^ min (IntKind.i64.wrap ((b : Int) + 1)).toNat IntKind.i64.bits) = 2 ^ (b + 1) := by
      rw [e1, min64 (by omega), Int.one_mul, Int.toNat_natCast, wrap64]
      · have : (2 : Int) ^ (b + 1) = ((2 ^ (b + 1) : Nat) : Int) := by simp
        rw [this, Nat.pow_succ]; omega
      · have : (2 : Int) ^ (b + 1) = ((2 ^ (b + 1) : Nat) : Int) := by simp
        rw [this, Nat.pow_succ]; omega
    have hpI : (2 : Int) ^ (b + 1) = ((2 ^ (b + 1) : Nat) : Int) := by simp
    have hp2 : 2 ^ (b + 1) = 2 ^ b * 2 := Nat.pow_succ ..
    have e3 : ∀ y : Int, y = 2 ^ (b + 1) → IntKind.i64.wrap ((BitVec.ofInt IntKind.i64.bits (x : Int) &&& BitVec.ofInt IntKind.i64.bits (IntKind.i64.wrap (y - 1))).toNat : Nat) = ((x % 2 ^ (b + 1) : Nat) : Int) := fun y hy => by
      subst hy
      rw [wrap64 (n := 2 ^ (b + 1) - 1) (by omega) (by omega), bits64, and_mask x (b + 1) (by omega) (by omega)]
      have := Nat.mod_le x (2 ^ (b + 1))
      rw [wrap64 (by omega) (by omega)]
    have e4 : IntKind.i64.wrap ((x : Int) + IntKind.i64.wrap (1 * 2 ^ min (b : Int).toNat IntKind.i64.bits)) = ((x + 2 ^ b : Nat) : Int) := by
      have : (2 : Int) ^ b = ((2 ^ b : Nat) : Int) := by simp
      rw [Int.toNat_natCast, min64 (by omega), Int.one_mul, this, wrap64 (n := ((2 ^ b : Nat) : Int)) (by omega) (by omega), wrap64 (by omega) (by omega)]
      rfl
    have e5 : IntKind.i64.wrap ((N : Int) - b) = ((N - b : Nat) : Int) := by rw [wrap64 (by omega) (by omega)]; omega
    have e6 : (x : Int).fdiv (2 ^ min (b : Int).toNat IntKind.i64.bits) = ((x / 2 ^ b : Nat) : Int) := by
      have : (2 : Int) ^ b = ((2 ^ b : Nat) : Int) := by simp
      rw [Int.toNat_natCast, min64 (by omega), this, Int.fdiv_eq_ediv_of_nonneg _ (by omega)]
      rfl
    have hle : inner x H N N 0 = b → x + 2 ^ b ≤ H + 1 := fun e => by rw [← e]; exact inner_fits x H N hxH N 0 (by omega)
    refine W.ite (fun h1 => ?_) (fun h1 => ?_)
    · have hbN : b < N := by have : (b : Int) < N := (by simpa using h1); omega
      obtain ⟨g, rfl⟩ : ∃ g', g = g' + 1 := ⟨g - 1, by omega⟩
      repeat (first | refine W.ite_t rfl ?_ | refine W.ite_f rfl ?_ | refine W.ite_t (by assumption) ?_ | refine W.ite_f (by assumption) ?_)
      refine W.need ?_ ?_
      · show 0 ≤ IntKind.i64.wrap ((b : Int) + 1)
        rw [e1]; omega
      repeat (first | refine W.ite_t rfl ?_ | refine W.ite_f rfl ?_ | refine W.ite_t (by assumption) ?_ | refine W.ite_f (by assumption) ?_)
      refine W.ite (fun h2 => ?_) (fun h2 => ?_)
      · have hm : x % 2 ^ (b + 1) = 0 := by
          rw [e3 _ e2] at h2
          have : ((x % 2 ^ (b + 1) : Nat) : Int) = 0 := by simpa using h2
          omega
        repeat (first | refine W.ite_t rfl ?_ | refine W.ite_f rfl ?_ | refine W.ite_t (by assumption) ?_ | refine W.ite_f (by assumption) ?_)
        refine W.need ?_ ?_
        · show 0 ≤ IntKind.i64.wrap ((b : Int) + 1)
          rw [e1]; omega
        repeat (first | refine W.ite_t rfl ?_ | refine W.ite_f rfl ?_ | refine W.ite_t (by assumption) ?_ | refine W.ite_f (by assumption) ?_)
        refine W.ite (fun h3 => ?_) (fun h3 => ?_)
        · have hH3 : x + 2 ^ (b + 1) ≤ H + 1 := by
            rw [e2, hpI, wrap64 (n := (x : Int) + _) (by omega) (by omega), wrap64 (by omega) (by omega)] at h3
            have : (x : Int) + (2 ^ (b + 1) : Nat) - 1 ≤ H := by simpa using h3
            omega
          refine W.ret ⟨g, _, _, by omega, Trim.of [0, 1, 2, 7, 8] [0] (by decide) (by simp) (by simp), b + 1, g, ?_, ?_, by omega, by omega, ?_, rfl⟩
          · rw [← e1]; rfl
          · rfl
          · rw [← hin, inner, if_pos ⟨hbN, hm, hH3⟩]
        · have hout : inner x H N N 0 = b := by
            rw [← hin, inner, if_neg]
            intro hh
            rw [e2, hpI, wrap64 (n := (x : Int) + _) (by omega) (by omega), wrap64 (by omega) (by omega)] at h3
            have : ¬ (x : Int) + (2 ^ (b + 1) : Nat) - 1 ≤ H := by simpa using h3
            omega
          have hle := hle hout
          refine W.ret ?_
          refine W.need ?_ ?_
          · show (0 : Int) ≤ b
            omega
          refine W.alt_l ?_
          refine W.need ⟨rfl, rfl, rfl, by omega, by omega, by intro c hc; simp at hc; rcases hc with rfl | rfl <;> rfl⟩ ?_
          refine W.need ?_ ?_
          · show (0 : Int) ≤ b
            omega
          refine W.ret ⟨f, _, _, by omega, Trim.of [0, 1, 2, 7] [0] (by decide) (by simp) (by simp), j + 1, x + 2 ^ b, f, done ++ [(((N - b : Nat) : Int), ((x / 2 ^ b : Nat) : Int))], ?_, ?_, by simp [hdone], by omega, by omega, ?_, by omega, by omega, rfl⟩
          · rw [← e4]; rfl
          · show [Blk.vec 2 (j + 1) (ivs done ++ [nI (IntKind.i64.wrap ((N : Int) - b)), nI ((x : Int).fdiv (2 ^ min (b : Int).toNat IntKind.i64.bits))])] = _
            rw [ivs_append, e5, e6]
            rfl
          · rw [← hc, List.append_assoc, coverN, if_pos hxH, hout]
            rfl
      · have hout : inner x H N N 0 = b := by
          rw [← hin, inner, if_neg]
          intro hh
          rw [e3 _ e2, hh.2.1] at h2
          simp at h2
        have hle := hle hout
        repeat (first | refine W.ite_t rfl ?_ | refine W.ite_f rfl ?_ | refine W.ite_t (by assumption) ?_ | refine W.ite_f (by assumption) ?_)
        refine W.ret ?_
        refine W.need ?_ ?_
        · show (0 : Int) ≤ b
          omega
        refine W.alt_l ?_
        refine W.need ⟨rfl, rfl, rfl, by omega, by omega, by intro c hc; simp at hc; rcases hc with rfl | rfl <;> rfl⟩ ?_
        refine W.need ?_ ?_
        · show (0 : Int) ≤ b
          omega
        refine W.ret ⟨f, _, _, by omega, Trim.of [0, 1, 2, 7] [0] (by decide) (by simp) (by simp), j + 1, x + 2 ^ b, f, done ++ [(((N - b : Nat) : Int), ((x / 2 ^ b : Nat) : Int))], ?_, ?_, by simp [hdone], by omega, by omega, ?_, by omega, by omega, rfl⟩
        · rw [← e4]; rfl
        · show [Blk.vec 2 (j + 1) (ivs done ++ [nI (IntKind.i64.wrap ((N : Int) - b)), nI ((x : Int).fdiv (2 ^ min (b : Int).toNat IntKind.i64.bits))])] = _
          rw [ivs_append, e5, e6]
          rfl
        · rw [← hc, List.append_assoc, coverN, if_pos hxH, hout]
          rfl
    · have hout : inner x H N N 0 = b := by
        have hbN : b = N := by have : ¬ (b : Int) < N := (by simpa using h1); omega
        rw [← hin]
        cases g with
        | zero => rfl
        | succ g => rw [inner, if_neg (by omega)]
      have hle := hle hout
      repeat (first | refine W.ite_t rfl ?_ | refine W.ite_f rfl ?_ | refine W.ite_t (by assumption) ?_ | refine W.ite_f (by assumption) ?_)
      refine W.ret ?_
      refine W.need ?_ ?_
      · show (0 : Int) ≤ b
        omega
      refine W.alt_l ?_
      refine W.need ⟨rfl, rfl, rfl, by omega, by omega, by intro c hc; simp at hc; rcases hc with rfl | rfl <;> rfl⟩ ?_
      refine W.need ?_ ?_
      · show (0 : Int) ≤ b
        omega
      refine W.ret ⟨f, _, _, by omega, Trim.of [0, 1, 2, 7] [0] (by decide) (by simp) (by simp), j + 1, x + 2 ^ b, f, done ++ [(((N - b : Nat) : Int), ((x / 2 ^ b : Nat) : Int))], ?_, ?_, by simp [hdone], by omega, by omega, ?_, by omega, by omega, rfl⟩
      · rw [← e4]; rfl
      · show [Blk.vec 2 (j + 1) (ivs done ++ [nI (IntKind.i64.wrap ((N : Int) - b)), nI ((x : Int).fdiv (2 ^ min (b : Int).toNat IntKind.i64.bits))])] = _
        rw [ivs_append, e5, e6]
        rfl
      · rw [← hc, List.append_assoc, coverN, if_pos hxH, hout]
        rfl
  · have hxH : H < x := by have : ¬ (x : Int) ≤ H := (by simpa using h); omega
    refine W.ret (W.ret (RetQ.row (cs := ivs done) rfl ?_))
    have hl : (ivs done).take (j * 2) = ivs done := by
      rw [List.take_of_length_le]; rw [ivs_length]; omega
    have : coverN H N f x = [] := by
      cases f with
      | zero => rfl
      | succ f => rw [coverN, if_neg (by omega)]
    rw [this, List.append_nil] at hc
    rw [hl, ← hc, slI, hdone]
end Go.Proofs.YtbjjimllnffcpaaGreatDoor.Dy

set_option maxRecDepth 100000
set_option linter.unusedVariables false
set_option linter.unusedSimpArgs false
namespace Go.Proofs.YtbjjimllnffcpaaGreatDoor.Dy
open Go Go.Am
theorem ivs_rd : ∀ (l : List (Int × Int)) (i : Nat) (p : Int × Int), l[i]? = some p → rdD (ivs l) (i * 2) = nI p.1 ∧ rdD (ivs l) (i * 2 + 1) = nI p.2
  | q :: r, 0, p, h => by simp at h; subst h; exact ⟨rfl, rfl⟩
  | q :: r, i + 1, p, h => by
    have := ivs_rd r i p (by simpa using h)
    rw [show (i + 1) * 2 = i * 2 + 2 from by omega]
    exact this
theorem ivs_ne {l : List (Int × Int)} {i : Nat} (h : i < l.length) : ivs l ≠ [] := fun e => by
  have := ivs_length l
  rw [e] at this
  simp at this
  omega
/-- A load of interval i. -/
theorem ivs_load {l : List (Int × Int)} {i : Nat} {p : Int × Int} (h : l[i]? = some p) : i * 2 + 2 ≤ (ivs l).length ∧ formedOk (ivs l) [.int .i64, .int .i64] (i * 2) := by
  obtain ⟨e1, e2⟩ := ivs_rd l i p h
  have := (List.getElem?_eq_some_iff.1 h).1
  refine ⟨by rw [ivs_length]; omega, ?_, ?_, True.intro⟩
  · show rdD _ _ = .lit (.int .i64 (rdD _ _).toI)
    rw [e1]; rfl
  · show rdD _ _ = .lit (.int .i64 (rdD _ _).toI)
    rw [e2]; rfl
theorem fdiv_two (c : Int) (k : Nat) : c.fdiv (2 ^ k) = c / 2 ^ k := Int.fdiv_eq_ediv_of_nonneg _ (Int.le_of_lt (Int.pow_pos (by omega)))
/-- The interval of a chain has its cell. -/
theorem chain_has {cell n : Int} (hg : good n cell n = true) {i : Nat} (hi : (i : Int) ≤ n) :
    good i (cell.fdiv (2 ^ (n - i).toNat)) n = true ∧ cell.fdiv (2 ^ (n - i).toNat) * 2 ^ (n - i).toNat ≤ cell ∧ cell < (cell.fdiv (2 ^ (n - i).toNat) + 1) * 2 ^ (n - i).toNat := by
  obtain ⟨h1, h2, h3, h4, h5, h6⟩ := good_iff.1 hg
  rw [fdiv_two]
  have hp : (0 : Int) < 2 ^ (n - i).toNat := Int.pow_pos (by omega)
  have e := Int.emod_add_mul_ediv cell (2 ^ (n - i).toNat)
  have m1 := Int.emod_nonneg cell (Int.ne_of_gt hp)
  have m2 := Int.emod_lt_of_pos cell hp
  rw [Int.mul_comm] at e
  have q0 : 0 ≤ cell / 2 ^ (n - i).toNat := Int.ediv_nonneg h5 (Int.le_of_lt hp)
  refine ⟨good_iff.2 ⟨h1, h2, by omega, hi, q0, ?_⟩, by omega, by rw [Int.add_mul]; omega⟩
  have : (2 : Int) ^ n.toNat = 2 ^ (i : Int).toNat * 2 ^ (n - i).toNat := by
    rw [← Int.pow_add]; congr 1; omega
  rw [this] at h6
  exact Int.ediv_lt_of_lt_mul hp h6
theorem ivs_toI {l : List (Int × Int)} {i : Nat} {p : Int × Int} (h : l[i]? = some p) : (rdD (ivs l) (i * 2)).toI = p.1 ∧ (rdD (ivs l) (i * 2 + 1)).toI = p.2 := by
  obtain ⟨e1, e2⟩ := ivs_rd l i p h
  rw [e1, e2]
  exact ⟨rfl, rfl⟩
theorem cells_le {l i n : Int} (h : good l i n = true) : 0 ≤ (cells l i n).1 ∧ (cells l i n).1 ≤ (cells l i n).2 ∧ (cells l i n).2 < 256 := by
  obtain ⟨g1, g2, g3, g4, g5, g6⟩ := good_iff.1 h
  rw [cells_good h]
  have hb := pow2_mul (a := l.toNat) (b := (n - l).toNat) (by omega) g5 (by omega)
  have hb' := pow2_mul (a := l.toNat) (b := (n - l).toNat) (by omega) (i := i + 1) (by omega) (by omega)
  have hp : (0 : Int) < 2 ^ (n - l).toNat := Int.pow_pos (by omega)
  simp only [Int.add_mul, Int.one_mul] at *
  omega
/-- Intervals, one behind the other, from x on to y (not with it). -/
def Tiles (n : Int) : Int → List (Int × Int) → Int → Prop
  | x, [], y => x = y
  | x, p :: r, y => good p.1 p.2 n = true ∧ (cells p.1 p.2 n).1 = x ∧ Tiles n ((cells p.1 p.2 n).2 + 1) r y
theorem inner_div (lo hi n : Nat) : ∀ (f b : Nat), lo % 2 ^ b = 0 → lo % 2 ^ inner lo hi n f b = 0
  | 0, b, h => h
  | f + 1, b, h => by
    unfold inner
    split
    · rename_i h1
      exact inner_div lo hi n f (b + 1) h1.2.1
    · exact h
theorem cover_tiles {H N : Nat} (hN : N ≤ 8) (hH : H < 2 ^ N) : ∀ (f x : Nat), x ≤ H + 1 → H + 1 - x ≤ f → Tiles N x (coverN H N f x) ((H + 1 : Nat) : Int)
  | 0, x, h1, h2 => by
    have : x = H + 1 := by omega
    subst this
    rfl
  | f + 1, x, h1, h2 => by
    unfold coverN
    split
    · rename_i hx
      have hB := inner_le x H N N 0 (by omega)
      have hfit := inner_fits x H N hx N 0 (by omega)
      have hdiv := inner_div x H N N 0 (by simp [Nat.mod_one])
      generalize inner x H N N 0 = b at *
      have hp := pow2N (k := b) (by omega)
      have hx2 : x / 2 ^ b * 2 ^ b = x := Nat.div_mul_cancel (Nat.dvd_of_mod_eq_zero hdiv)
      have hg : good ((N - b : Nat) : Int) ((x / 2 ^ b : Nat) : Int) N = true := by
        refine good_iff.2 ⟨by omega, by omega, by omega, by omega, Int.natCast_nonneg _, ?_⟩
        have e : (2 : Int) ^ (((N - b : Nat) : Int)).toNat = ((2 ^ (N - b) : Nat) : Int) := by simp
        rw [e]
        have : 2 ^ N = 2 ^ (N - b) * 2 ^ b := by rw [← Nat.pow_add]; congr 1; omega
        have h3 : x / 2 ^ b < 2 ^ (N - b) := by
          rw [Nat.div_lt_iff_lt_mul (by omega), ← this]
          omega
        exact_mod_cast h3
      have hc := cells_good hg
      have e2 : ((N : Int) - ((N - b : Nat) : Int)).toNat = b := by omega
      rw [e2] at hc
      have e3 : (2 : Int) ^ b = ((2 ^ b : Nat) : Int) := by simp
      have e4 : ((x / 2 ^ b : Nat) : Int) * ((2 ^ b : Nat) : Int) = x := by exact_mod_cast hx2
      refine ⟨hg, by rw [hc, e3]; exact e4, ?_⟩
      have hnext : (cells ((N - b : Nat) : Int) ((x / 2 ^ b : Nat) : Int) N).2 + 1 = ((x + 2 ^ b : Nat) : Int) := by
        rw [hc, e3]
        simp only [Int.add_mul, e4]
        omega
      rw [hnext]
      exact cover_tiles hN hH f (x + 2 ^ b) (by omega) (by omega)
    · have : x = H + 1 := by omega
      subst this
      rfl
theorem cover_good {lo hi n : Int} (h : cover lo hi n ≠ []) : lo ≤ hi ∧ good n lo n = true ∧ good n hi n = true := by
  unfold cover at h
  split at h
  · assumption
  · exact absurd rfl h
theorem cover_of_good {lo hi n : Int} (h : lo ≤ hi ∧ good n lo n = true ∧ good n hi n = true) : ∃ (N H X : Nat), n = N ∧ hi = H ∧ lo = X ∧ N ≤ 8 ∧ H < 2 ^ N ∧ X ≤ H ∧ cover lo hi n = coverN H N (H + 1 - X) X := by
  obtain ⟨hlh, hg1, hg2⟩ := h
  obtain ⟨a1, a2, a3, a4, a5, a6⟩ := good_iff.1 hg1
  obtain ⟨b1, b2, b3, b4, b5, b6⟩ := good_iff.1 hg2
  obtain ⟨N, rfl⟩ : ∃ N : Nat, n = N := ⟨n.toNat, by omega⟩
  obtain ⟨H, rfl⟩ : ∃ H : Nat, hi = H := ⟨hi.toNat, by omega⟩
  obtain ⟨X, rfl⟩ : ∃ X : Nat, lo = X := ⟨lo.toNat, by omega⟩
  have e : ((2 : Int) ^ ((N : Int).toNat)) = ((2 ^ N : Nat) : Int) := by simp
  refine ⟨N, H, X, rfl, rfl, rfl, by omega, by omega, by omega, ?_⟩
  simp only [cover, hlh, hg1, hg2, and_self, if_true]
  congr 1
  omega
theorem tiles_of_cover {lo hi n : Int} (h : cover lo hi n ≠ []) : Tiles n lo (cover lo hi n) (hi + 1) := by
  obtain ⟨N, H, X, rfl, rfl, rfl, h1, h2, h3, h4⟩ := cover_of_good (cover_good h)
  rw [h4]
  have := cover_tiles h1 h2 (H + 1 - X) X (by omega) (by omega)
  exact this
theorem cover_nil {lo hi n : Int} (h : cover lo hi n = []) : ¬ (lo ≤ hi ∧ good n lo n = true ∧ good n hi n = true) := fun hg => by
  obtain ⟨N, H, X, rfl, rfl, rfl, h1, h2, h3, h4⟩ := cover_of_good hg
  rw [h4] at h
  obtain ⟨k, hk⟩ : ∃ k, H + 1 - X = k + 1 := ⟨H - X, by omega⟩
  rw [hk, coverN, if_pos h3] at h
  cases h
/-- The reason why no greater interval was taken. -/
theorem inner_stop (lo hi n : Nat) : ∀ (f b : Nat), b ≤ n → n ≤ b + f → inner lo hi n f b = n ∨ lo % 2 ^ (inner lo hi n f b + 1) ≠ 0 ∨ hi + 1 < lo + 2 ^ (inner lo hi n f b + 1)
  | 0, b, h1, h2 => .inl (by show b = n; omega)
  | f + 1, b, h1, h2 => by
    unfold inner
    split
    · rename_i h
      exact inner_stop lo hi n f (b + 1) h.1 (by omega)
    · omega
theorem few_end {H N : Nat} : ∀ (k f x : Nat), k ≤ N → x % 2 ^ k = 0 → H + 1 - x < 2 ^ k → (coverN H N f x).length ≤ k
  | k, 0, x, _, _, _ => by simp [coverN]
  | k, f + 1, x, hk, hx, hR => by
    unfold coverN
    split
    · rename_i hle
      have h1 := inner_le x H N N 0 (by omega)
      have h2 := inner_fits x H N hle N 0 (by omega)
      have h3 := inner_stop x H N N 0 (by omega) (by omega)
      generalize inner x H N N 0 = b at *
      have hb : b < k := by
        rcases Nat.lt_or_ge b k with h | h
        · exact h
        · have := Nat.pow_le_pow_right (n := 2) (by omega) h
          omega
      have hdv : ∀ j, j ≤ k → x % 2 ^ j = 0 := fun j hj => Nat.mod_eq_zero_of_dvd (Nat.dvd_trans (Nat.pow_dvd_pow 2 hj) (Nat.dvd_of_mod_eq_zero hx))
      have h4 : H + 1 < x + 2 ^ (b + 1) := by
        rcases h3 with h | h | h
        · omega
        · exact absurd (hdv (b + 1) hb) h
        · exact h
      have h5 : 2 ^ (b + 1) = 2 ^ b * 2 := Nat.pow_succ ..
      have := few_end (H := H) (N := N) b f (x + 2 ^ b) (by omega) (by rw [Nat.add_mod_right]; exact hdv b (by omega)) (by omega)
      simp
      omega
    · simp
theorem few_mid {H N : Nat} (hN : 2 ≤ N) (hH : H < 2 ^ N) : ∀ (m j f x : Nat), j + m = N - 1 → 0 < x → x % 2 ^ j = 0 → (coverN H N f x).length ≤ m + (N - 1)
  | m, j, 0, x, _, _, _ => by simp [coverN]
  | m, j, f + 1, x, hm, hx0, hx => by
    unfold coverN
    split
    · rename_i hle
      have h1 := inner_le x H N N 0 (by omega)
      have h2 := inner_fits x H N hle N 0 (by omega)
      have h3 := inner_stop x H N N 0 (by omega) (by omega)
      have h0 := inner_div x H N N 0 (by simp [Nat.mod_one])
      generalize inner x H N N 0 = b at *
      have hN2 : 2 ^ N = 2 ^ (N - 1) * 2 := by rw [← Nat.pow_succ]; congr 1; omega
      have hbN : b ≤ N - 1 := by
        rcases Nat.lt_or_ge b N with h | h
        · omega
        · have : b = N := by omega
          subst this
          omega
      have h5 : 2 ^ (b + 1) = 2 ^ b * 2 := Nat.pow_succ ..
      obtain ⟨q, hq⟩ := Nat.dvd_of_mod_eq_zero h0
      have hend : H + 1 < x + 2 ^ (b + 1) → (coverN H N f (x + 2 ^ b)).length + 1 ≤ m + (N - 1) := fun h4 => by
        have := few_end (H := H) (N := N) b f (x + 2 ^ b) (by omega) (by rw [Nat.add_mod_right]; exact h0) (by omega)
        rcases Nat.lt_or_ge b (N - 1) with h | h
        · omega
        · have hb : b = N - 1 := by omega
          have hq1 : 1 ≤ q := by
            rcases Nat.eq_zero_or_pos q with h | h
            · subst h; omega
            · exact h
          have hge : 2 ^ b ≤ x := by rw [hq]; exact Nat.le_mul_of_pos_right _ hq1
          have hz : ¬ x + 2 ^ b ≤ H := by rw [← hb] at hN2; omega
          cases f with
          | zero => simp [coverN]; omega
          | succ f => rw [coverN, if_neg hz]; simp; omega
      rcases h3 with h | h | h
      · omega
      · rcases Nat.lt_or_ge H (x + 2 ^ b) with hz | hz
        · cases f with
          | zero => simp [coverN]; omega
          | succ f => simp only [coverN, List.length_cons]; rw [if_neg (by omega)]; simp; omega
        · have hjb : j ≤ b := by
            rcases Nat.lt_or_ge b j with h' | h'
            · exact absurd (Nat.mod_eq_zero_of_dvd (Nat.dvd_trans (Nat.pow_dvd_pow 2 h') (Nat.dvd_of_mod_eq_zero hx))) h
            · exact h'
          have hodd : (x + 2 ^ b) % 2 ^ (b + 1) = 0 := by
            have hq2 : q % 2 = 1 := by
              rcases Nat.mod_two_eq_zero_or_one q with h' | h'
              · obtain ⟨r, rfl⟩ := Nat.dvd_of_mod_eq_zero h'
                exact absurd (by rw [hq, h5, ← Nat.mul_assoc]; exact Nat.mul_mod_right _ _) h
              · exact h'
            have : x + 2 ^ b = 2 ^ (b + 1) * ((q + 1) / 2) := by
              have e : q + 1 = 2 * ((q + 1) / 2) := by omega
              rw [hq, h5, Nat.mul_assoc, ← e, Nat.mul_add, Nat.mul_one]
            rw [this]
            exact Nat.mul_mod_right _ _
          have hb1 : b + 1 ≤ N - 1 := by
            rcases Nat.lt_or_ge (b + 1) N with h' | h'
            · omega
            · have hb : b + 1 = N := by omega
              rw [hb] at hodd
              obtain ⟨r, hr⟩ := Nat.dvd_of_mod_eq_zero hodd
              have : 1 ≤ r := by
                rcases Nat.eq_zero_or_pos r with h | h
                · subst h; omega
                · exact h
              have : 2 ^ N ≤ x + 2 ^ b := by rw [hr]; exact Nat.le_mul_of_pos_right _ this
              omega
          have := few_mid hN hH (N - 1 - (b + 1)) (b + 1) f (x + 2 ^ b) (by omega) (by omega) hodd
          simp
          omega
      · simp
        exact hend h
    · simp
theorem few {H N : Nat} (hH : H < 2 ^ N) (f x : Nat) (hx : x ≤ H) : (coverN H N f x).length ≤ max 1 (2 * N - 2) := by
  rcases Nat.eq_zero_or_pos x with rfl | h0
  · cases f with
    | zero => simp [coverN]
    | succ f =>
      rw [coverN, if_pos hx]
      have h1 := inner_le 0 H N N 0 (by omega)
      have h2 := inner_fits 0 H N hx N 0 (by omega)
      have h3 := inner_stop 0 H N N 0 (by omega) (by omega)
      generalize inner 0 H N N 0 = b at *
      have h5 : 2 ^ (b + 1) = 2 ^ b * 2 := Nat.pow_succ ..
      rcases h3 with h | h | h
      · subst h
        have hz : ¬ 0 + 2 ^ b ≤ H := by omega
        cases f with
        | zero => simp [coverN]; omega
        | succ f => rw [coverN, if_neg hz]; simp; omega
      · exact absurd (Nat.zero_mod _) h
      · have := few_end (H := H) (N := N) b f (0 + 2 ^ b) h1.1 (by simp) (by omega)
        rcases Nat.lt_or_ge b N with hbN | hbN
        · simp only [List.length_cons]
          omega
        · have hb : b = N := by omega
          subst hb
          have hz : ¬ 0 + 2 ^ b ≤ H := by omega
          cases f with
          | zero => simp [coverN]; omega
          | succ f => rw [coverN, if_neg hz]; simp; omega
  · rcases Nat.lt_or_ge N 2 with hN | hN
    · have hH2 : H = 1 ∧ x = 1 := by
        have : N = 0 ∨ N = 1 := by omega
        rcases this with rfl | rfl <;> simp at hH <;> omega
      obtain ⟨rfl, rfl⟩ := hH2
      cases f with
      | zero => simp [coverN]
      | succ f =>
        rw [coverN, if_pos hx]
        have := Nat.one_le_two_pow (n := inner 1 1 N N 0)
        cases f with
        | zero => simp [coverN]; omega
        | succ f => rw [coverN, if_neg (by omega)]; simp; omega
    · have := few_mid hN hH (N - 1) 0 f x (by omega) h0 (by simp [Nat.mod_one])
      omega
end Go.Proofs.YtbjjimllnffcpaaGreatDoor.Dy

set_option maxRecDepth 100000
set_option linter.unusedVariables false
set_option linter.unusedSimpArgs false
namespace Go.Proofs.YtbjjimllnffcpaaGreatDoor.Dy
open Go Go.Am
/-- How often p is in l. -/
def cnt (p : Int × Int) : List (Int × Int) → Nat
  | [] => 0
  | q :: r => (if p.1 = q.1 ∧ p.2 = q.2 then 1 else 0) + cnt p r
def cnt2 (l : List (Int × Int)) : List (Int × Int) → Nat
  | [] => 0
  | p :: r => cnt p l + cnt2 l r
theorem cnt2_append (l : List (Int × Int)) : ∀ a b, cnt2 l (a ++ b) = cnt2 l a + cnt2 l b
  | [], b => by simp [cnt2]
  | p :: r, b => by simp [cnt2, cnt2_append l r b]; omega
theorem cnt_append (p : Int × Int) : ∀ a b, cnt p (a ++ b) = cnt p a + cnt p b
  | [], b => by simp [cnt]
  | q :: r, b => by simp [cnt, cnt_append p r b]; omega
theorem cnt2_cons (q : Int × Int) (r : List (Int × Int)) : ∀ c, cnt2 (q :: r) c = cnt q c + cnt2 r c
  | [] => by simp [cnt2, cnt]
  | p :: c => by
    simp only [cnt2, cnt, cnt2_cons q r c]
    have : (p.1 = q.1 ∧ p.2 = q.2) = (q.1 = p.1 ∧ q.2 = p.2) := by simp [eq_comm]
    simp only [this]
    omega
theorem cnt_chain (cell n : Int) (L : Nat) (i : Int) : ∀ k, cnt ((L : Int), i) (chainI cell n k) = if L < k ∧ cell.fdiv (2 ^ (n - L).toNat) = i then 1 else 0
  | 0 => by simp [chainI, cnt]
  | k + 1 => by
    have : chainI cell n (k + 1) = chainI cell n k ++ [((k : Int), cell.fdiv (2 ^ (n - k).toNat))] := by
      rw [chainI, List.range_succ, List.map_append]; rfl
    rw [this, cnt_append, cnt_chain cell n L i k]
    simp only [cnt, Nat.add_zero]
    by_cases h : L = k
    · subst h
      generalize cell.fdiv (2 ^ (n - L).toNat) = v
      by_cases h2 : v = i
      · simp [h2]
      · have h3 : ¬ i = v := fun e => h2 e.symm
        simp [h2, h3]
    · have h' : ¬ (L : Int) = k := by omega
      have : (L < k + 1) = (L < k) := by simp; omega
      simp [h', this]
theorem has_iff {l i n cell : Int} (h : good l i n = true) : cell.fdiv (2 ^ (n - l).toNat) = i ↔ (cells l i n).1 ≤ cell ∧ cell ≤ (cells l i n).2 := by
  rw [cells_good h, fdiv_two]
  have hp : (0 : Int) < 2 ^ (n - l).toNat := Int.pow_pos (by omega)
  simp only
  constructor
  · intro e
    have e1 := Int.emod_add_mul_ediv cell (2 ^ (n - l).toNat)
    have m1 := Int.emod_nonneg cell (Int.ne_of_gt hp)
    have m2 := Int.emod_lt_of_pos cell hp
    rw [e, Int.mul_comm] at e1
    rw [Int.add_mul, Int.one_mul]
    omega
  · intro ⟨h1, h2⟩
    rw [Int.add_mul, Int.one_mul] at h2
    apply Int.le_antisymm
    · have : cell / 2 ^ (n - l).toNat < i + 1 := Int.ediv_lt_of_lt_mul hp (by rw [Int.add_mul, Int.one_mul]; omega)
      omega
    · exact Int.le_ediv_of_mul_le hp h1
theorem cnt2_tiles {cell n : Int} (hg : good n cell n = true) : ∀ (l : List (Int × Int)) (x y : Int), Tiles n x l y → cnt2 l (chain cell n) = (if x ≤ cell ∧ cell < y then 1 else 0) ∧ x ≤ y
  | [], x, y, h => by
    have h : x = y := h
    subst h
    have e : ∀ c, cnt2 [] c = 0 := fun c => by
      induction c with
      | nil => rfl
      | cons p r ih => simp [cnt2, cnt, ih]
    rw [e, if_neg (by omega)]
    exact ⟨rfl, Int.le_refl _⟩
  | (l, i) :: r, x, y, ⟨h1, h2, h3⟩ => by
    obtain ⟨k1, k2⟩ := cnt2_tiles hg r _ y h3
    obtain ⟨g1, g2, g3, g4, g5, g6⟩ := good_iff.1 h1
    have hi := has_iff (cell := cell) h1
    rw [cnt2_cons, k1]
    have hc : cnt (l, i) (chain cell n) = if (cells l i n).1 ≤ cell ∧ cell ≤ (cells l i n).2 then 1 else 0 := by
      obtain ⟨L, rfl⟩ : ∃ L : Nat, l = L := ⟨l.toNat, by simp only at g3; omega⟩
      simp only [chain, hg, if_true]
      rw [cnt_chain]
      have : (L < (n + 1).toNat ∧ cell.fdiv (2 ^ (n - L).toNat) = i) = ((cells L i n).1 ≤ cell ∧ cell ≤ (cells L i n).2) := by
        simp only [← hi]
        simp only at g4
        have : L < (n + 1).toNat := by omega
        simp [this]
      simp only [this]
    rw [hc]
    have hlt : (cells l i n).1 ≤ (cells l i n).2 := by
      rw [cells_good h1]
      have hp : (0 : Int) < 2 ^ (n - l).toNat := Int.pow_pos (by omega)
      simp only [Int.add_mul, Int.one_mul]
      omega
    dsimp only at *
    subst h2
    refine ⟨?_, by omega⟩
    by_cases c1 : (cells l i n).1 ≤ cell ∧ cell ≤ (cells l i n).2
    · rw [if_pos c1, if_neg (by omega), if_pos (by omega)]
    · rw [if_neg c1]
      by_cases c2 : (cells l i n).2 + 1 ≤ cell ∧ cell < y
      · rw [if_pos c2, if_pos (by omega)]
      · rw [if_neg c2, if_neg (by omega)]
theorem chain_len (c n : Int) : (chain c n).length ≤ 1000 := by
  unfold chain
  split
  · rename_i h
    obtain ⟨h1, h2, h3, h4, h5, h6⟩ := good_iff.1 h
    simp [chainI]; omega
  · simp
theorem cover_len (lo hi n : Int) : (cover lo hi n).length ≤ 1000 := by
  by_cases h : cover lo hi n = []
  · rw [h]; simp
  · obtain ⟨N, H, X, rfl, rfl, rfl, h1, h2, h3, h4⟩ := cover_of_good (cover_good h)
    have := few h2 (H + 1 - X) X h3
    rw [h4]
    omega
end Go.Proofs.YtbjjimllnffcpaaGreatDoor.Dy

set_option maxRecDepth 100000
set_option linter.unusedVariables false
set_option linter.unusedSimpArgs false
namespace Go.Proofs.YtbjjimllnffcpaaGreatDoor.Dy
open Go Go.Am
def od48 : Ords := []
theorem code48 : codeB Tryz.f48.ntmps od48 (match Tryz.f48.body with | some c => c | none => .skip) = true := by kernel_rfl
theorem ok48 (n : Int) (h0 : 0 ≤ n) (h8 : n ≤ 8) : Go.Am.Pure Tryz.prog 48 [.d (nI n)] (.d (nI (2 ^ n.toNat))) := by
  refine CallOk.of tysOk mixed [] Tryz.func48 rfl rfl code48 ?_
  refine W.loop (fun k fr σ => ∃ (i : Nat), fr = [(0, .d (nI n)), (3, .d (nI (2 ^ i))), (4, .d (nI i))] ∧ σ = [] ∧ i ≤ n.toNat ∧ k = n.toNat - i) n.toNat
    (Start.of [0, 3, 4] [] (by simp)) ⟨0, rfl, rfl, by omega, rfl⟩ ?_
  rintro k fr σ ⟨i, rfl, rfl, hi, rfl⟩
  refine W.ite (fun h => ?_) (fun h => ?_)
  · have hlt : (i : Int) < n := by simpa using h
    have hp := pow2_le (k := i) (by omega)
    refine W.ret ⟨_, _, _, ?_, Trim.of [0, 3, 4] [] (by decide) (by simp) (by simp), i + 1, ?_, rfl, by omega, rfl⟩
    · omega
    · have g1 : IntKind.i64.wrap ((i : Int) + 1) = ((i + 1 : Nat) : Int) := by rw [wrap64 (by omega) (by omega)]; rfl
      have g2 : IntKind.i64.wrap (2 * 2 ^ i) = 2 ^ (i + 1) := by rw [wrap64 (by omega) (by omega), Int.pow_succ]; omega
      rw [← g1, ← g2]; rfl
  · have hlt : i = n.toNat := by have : ¬ (i : Int) < n := (by simpa using h); omega
    subst hlt
    refine W.ret (W.ret ?_)
    exact RetQ.pure rfl rfl
def od64 : Ords := [(1, [0, 1, 2, 3, 4, 5, 6, 7, 8, 9, 10, 11, 12, 13, 14, 15, 16, 17, 18, 19, 20, 21, 22, 23, 24, 25, 26, 27, 28, 29, 30])]
theorem code64 : codeB Tryz.f64.ntmps od64 (match Tryz.f64.body with | some c => c | none => .skip) = true := by kernel_rfl
theorem ok64 (l i n : Int) : Go.Am.Pure Tryz.prog 64 [iv l i, .d (nI n)] (bI (good l i n)) := by
  refine CallOk.of tysOk mixed od64 Tryz.func64 rfl rfl code64 ?_
  repeat' (first | refine W.ite_t rfl ?_ | refine W.ite_f rfl ?_ | (refine W.ite_t ?h ?_; (case h => assumption)) | (refine W.ite_f ?h ?_; (case h => assumption)) | refine W.ite (fun h => ?_) (fun h => ?_) | refine W.pure (ok48 _ ?_ ?_) rfl rfl ?_)
  all_goals (try refine W.ret ?_)
  all_goals (try refine RetQ.pure rfl ?_)
  all_goals simp only [decide_eq_true_eq, decide_eq_false_iff_not, ge_iff_le] at *
  all_goals first | omega | refine ret_bI ?_
  · simp_all [good]
    all_goals first | done | omega
  all_goals (simp_all [good] <;> omega)
end Go.Proofs.YtbjjimllnffcpaaGreatDoor.Dy

set_option maxRecDepth 100000
set_option linter.unusedVariables false
set_option linter.unusedSimpArgs false
namespace Go.Proofs.YtbjjimllnffcpaaGreatDoor.Dy
open Go Go.Am
def od68 : Ords := [(1, [0, 1, 2, 3, 4, 7, 8, 5, 6, 9, 10])]
theorem code68 : codeB Tryz.f68.ntmps od68 (match Tryz.f68.body with | some c => c | none => .skip) = true := by kernel_rfl
theorem ok68 (l i c n : Int) (h0 : 0 ≤ n - l) (h8 : n - l ≤ 8) (hc : 0 ≤ c) (hc2 : c < 9223372036854775808) : Go.Am.Pure Tryz.prog 68 [iv l i, .d (nI c), .d (nI n)] (bI (c / 2 ^ (n - l).toNat == i)) := by
  refine CallOk.of tysOk mixed od68 Tryz.func68 rfl rfl code68 ?_
  have e1 : IntKind.i64.wrap (n - l) = n - l := wrap64 (by omega) (by omega)
  refine W.pure (ok48 _ ?_ ?_) rfl rfl ?_
  · show 0 ≤ IntKind.i64.wrap (n - l); omega
  · show IntKind.i64.wrap (n - l) ≤ 8; omega
  have hp : (0 : Int) < 2 ^ (n - l).toNat := Int.pow_pos (by omega)
  refine W.need ?_ ?_
  · show (2 : Int) ^ (IntKind.i64.wrap (n - l)).toNat ≠ 0
    rw [e1]; omega
  refine W.ret ?_
  refine RetQ.pure rfl ?_
  refine ret_bI ?_
  rw [e1, Int.tdiv_eq_ediv_of_nonneg hc]
  have h1 : 0 ≤ c / 2 ^ (n - l).toNat := Int.ediv_nonneg hc (Int.le_of_lt hp)
  have h2 : c / 2 ^ (n - l).toNat ≤ c := Int.ediv_le_self _ hc
  rw [wrap64 (by omega) (by omega)]
end Go.Proofs.YtbjjimllnffcpaaGreatDoor.Dy

set_option maxRecDepth 100000
set_option linter.unusedVariables false
set_option linter.unusedSimpArgs false
namespace Go.Proofs.YtbjjimllnffcpaaGreatDoor.Dy
open Go Go.Am
def od39 : Ords := []
theorem code39 : codeB Tryz.f39.ntmps od39 (match Tryz.f39.body with | some c => c | none => .skip) = true := by kernel_rfl
/-- Level L's interval of the chain, if i has passed it. -/
def passed (cell n : Int) (L i : Nat) : List (Int × Int) := if cell.fdiv (2 ^ (n - L).toNat) < i then [((L : Int), cell.fdiv (2 ^ (n - L).toNat))] else []
theorem ok39 (cell n : Int) : Go.Am.Pure Tryz.prog 39 [.d (nI cell), .d (nI n)] (slI (chain cell n)) := by
  refine CallOk.soft (CallOk.of tysOk mixed [] Tryz.func39 rfl rfl code39 ?_)
  refine W.pure (ok64 n cell n) rfl rfl ?_
  refine W.ite (fun h => ?_) (fun h => ?_)
  · have hg : good n cell n = false := by simpa using h
    refine W.ret (RetQ.row (cs := []) rfl ?_)
    simp [chain, hg]
    rfl
  have hg : good n cell n = true := by simpa using h
  obtain ⟨h1, h2, h3, h4, h5, h6⟩ := good_iff.1 hg
  have hpn := pow2_le (k := n.toNat) (by omega)
  refine W.loop (fun k fr σ => ∃ L : Nat, fr = [(0, .d (nI cell)), (1, .d (nI n)), (5, .vec 0 (chainI cell n L).length), (6, .d (nI L))] ∧ σ = [.vec 2 (chainI cell n L).length (ivs (chainI cell n L))] ∧ (L : Int) ≤ n + 1 ∧ k = (n + 1 - L).toNat) (n + 1).toNat
    (Start.of [0, 1, 5, 6] [] (by simp)) ⟨0, rfl, rfl, by omega, by simp⟩ ?_
  rintro k fr σ ⟨L, rfl, rfl, hL, rfl⟩
  refine W.ite (fun h => ?_) (fun h => ?_)
  · have hle : (L : Int) ≤ n := by simpa using h
    have hp := pow2N (k := L) (by omega)
    obtain ⟨c1, c2, c3⟩ := chain_has hg hle
    obtain ⟨g1, g2, g3, g4, g5, g6⟩ := good_iff.1 c1
    have e2 : (2 : Int) ^ ((L : Int)).toNat = ((2 ^ L : Nat) : Int) := by simp
    have hcl : (chainI cell n L).length = L := by simp [chainI]
    generalize hY : cell.fdiv (2 ^ (n - L).toNat) = Y at *
    have hpass : ∀ i : Nat, passed cell n L i = if Y < i then [((L : Int), Y)] else [] := fun i => by unfold passed; rw [hY]
    refine W.loop (fun k fr σ => ∃ i : Nat, fr = [(0, .d (nI cell)), (1, .d (nI n)), (5, .vec 0 (chainI cell n L ++ passed cell n L i).length), (6, .d (nI L)), (7, .d (nI i))] ∧ σ = [.vec 2 (chainI cell n L ++ passed cell n L i).length (ivs (chainI cell n L ++ passed cell n L i))] ∧ i ≤ 2 ^ L ∧ k = 2 ^ L - i) (2 ^ L)
      (Start.of [0, 1, 5, 6, 7] [] (by simp)) ⟨0, ?_, ?_, by omega, rfl⟩ ?_
    · rw [hpass, if_neg (by omega), List.append_nil]; rfl
    · rw [hpass, if_neg (by omega), List.append_nil]; rfl
    rintro k fr σ ⟨i, rfl, rfl, hi, rfl⟩
    have q1 : IntKind.i64.wrap ((i : Int) + 1) = ((i + 1 : Nat) : Int) := by rw [wrap64 (by omega) (by omega)]; rfl
    generalize hA : chainI cell n L ++ passed cell n L i = A
    have hAl : A.length ≤ L + 1 := by
      rw [← hA, List.length_append, hcl, hpass]
      split <;> simp
    refine W.pure (ok48 L (by omega) (by omega)) rfl rfl ?_
    refine W.ite (fun h => ?_) (fun h => ?_)
    · have hlt : i < 2 ^ L := by
        have : (i : Int) < 2 ^ ((L : Int)).toNat := by simpa using h
        omega
      have hc62 : cell < 9223372036854775808 := by omega
      refine W.pure (ok68 L i cell n (by omega) (by omega) h5 hc62) rfl rfl ?_
      have hY' : cell / 2 ^ (n - L).toNat = Y := by rw [← hY, fdiv_two]
      refine W.ite (fun hq => ?_) (fun hq => ?_)
      · have hYi : Y = i := by rw [hY'] at hq; simpa using hq
        refine W.alt_l ?_
        refine W.need ⟨rfl, rfl, rfl, ?_, ?_, by intro c hc; simp at hc; rcases hc with rfl | rfl <;> rfl⟩ ?_
        · omega
        · omega
        have hsucc : chainI cell n L ++ passed cell n L (i + 1) = A ++ [((L : Int), (i : Int))] := by
          rw [← hA, hpass, hpass, if_pos (by omega), if_neg (by omega), List.append_nil, hYi]
        refine W.ret ⟨_, _, _, ?_, Trim.of [0, 1, 5, 6, 7] [0] (by decide) (by simp) (by simp), i + 1, ?_, ?_, by omega, rfl⟩
        · omega
        · rw [hsucc, List.length_append, ← q1]; rfl
        · rw [hsucc, List.length_append, ivs_append]; rfl
      · have hYi : Y ≠ i := by rw [hY'] at hq; simpa using hq
        have hsucc : passed cell n L (i + 1) = passed cell n L i := by
          rw [hpass, hpass]
          by_cases hh : Y < i
          · rw [if_pos hh, if_pos (by omega)]
          · rw [if_neg hh, if_neg (by omega)]
        refine W.ret ⟨_, _, _, ?_, Trim.of [0, 1, 5, 6, 7] [0] (by decide) (by simp) (by simp), i + 1, ?_, ?_, by omega, rfl⟩
        · omega
        · rw [hsucc, hA, ← q1]; rfl
        · rw [hsucc, hA]; rfl
    · have hlast : i = 2 ^ L := by
        have : ¬ (i : Int) < 2 ^ ((L : Int)).toNat := (by simpa using h)
        omega
      subst hlast
      have hsucc : chainI cell n (L + 1) = A := by
        rw [← hA, hpass, if_pos (by omega), chainI, List.range_succ, List.map_append, ← hY]; rfl
      refine W.ret (W.ret ⟨_, _, _, ?_, Trim.of [0, 1, 5, 6] [0] (by decide) (by simp) (by simp), L + 1, ?_, ?_, by omega, rfl⟩)
      · omega
      · have q1 : IntKind.i64.wrap ((L : Int) + 1) = ((L + 1 : Nat) : Int) := by rw [wrap64 (by omega) (by omega)]; rfl
        rw [hsucc, ← q1]; rfl
      · rw [hsucc]; rfl
  · have hlast : (L : Int) = n + 1 := by have : ¬ (L : Int) ≤ n := (by simpa using h); omega
    refine W.ret (W.ret (RetQ.row (cs := ivs (chainI cell n L)) rfl ?_))
    have : (n + 1).toNat = L := by omega
    rw [List.take_of_length_le (by rw [ivs_length]; omega)]
    simp [chain, hg, slI, this]
end Go.Proofs.YtbjjimllnffcpaaGreatDoor.Dy

set_option maxRecDepth 100000
set_option linter.unusedVariables false
set_option linter.unusedSimpArgs false
namespace Go.Proofs.YtbjjimllnffcpaaGreatDoor.Dy
open Go Go.Am
def od65 : Ords := [(2, [0, 1, 2, 3, 4, 5, 6, 7, 8, 9, 10, 11, 12])]
theorem code65 : codeB Tryz.f65.ntmps od65 (match Tryz.f65.body with | some c => c | none => .skip) = true := by kernel_rfl
/-- The reference's cover below an interval. -/
def refC (lo hi n : Int) : Nat → Int → Int → List (Int × Int)
  | 0, _, _ => []
  | f + 1, l, i => if i * 2 ^ (n - l).toNat > hi ∨ i * 2 ^ (n - l).toNat + 2 ^ (n - l).toNat - 1 < lo then []
    else if i * 2 ^ (n - l).toNat ≥ lo ∧ i * 2 ^ (n - l).toNat + 2 ^ (n - l).toNat - 1 ≤ hi then [(l, i)]
    else refC lo hi n f (l + 1) (2 * i) ++ refC lo hi n f (l + 1) (2 * i + 1)
theorem refC_len (lo hi n : Int) : ∀ (f : Nat) (l i : Int), (refC lo hi n f l i).length ≤ 2 ^ f
  | 0, _, _ => by simp [refC]
  | f + 1, l, i => by
    unfold refC
    have h1 := refC_len lo hi n f (l + 1) (2 * i)
    have h2 := refC_len lo hi n f (l + 1) (2 * i + 1)
    have h3 : 2 ^ (f + 1) = 2 ^ f * 2 := Nat.pow_succ ..
    have h4 := Nat.one_le_two_pow (n := f)
    split
    · simp
    · split
      · simp; omega
      · rw [List.length_append]; omega
/-- An answer that is a row. -/
def isRow (L : List (Int × Int)) (v : AV) (s : Store) : Prop := v = .vec 0 L.length ∧ s = [.vec 2 L.length (ivs L)]
theorem ivs_one : ∀ (L : List (Int × Int)), ∀ c ∈ ivs L, c.one = true
  | [], c, h => by simp [ivs] at h
  | p :: r, c, h => by
    simp only [ivs, List.mem_cons] at h
    rcases h with rfl | rfl | h
    · rfl
    · rfl
    · exact ivs_one r c h
theorem ivs_take (L : List (Int × Int)) : (ivs L).take (L.length * 2) = ivs L := List.take_of_length_le (by rw [ivs_length]; omega)
theorem ok65 (lo hi n : Int) (hlo : 0 ≤ lo) (hhi : hi ≤ 256) (hn : 0 ≤ n) (hn8 : n ≤ 8) : ∀ (f : Nat) (l i : Int), (n - l).toNat < f → f ≤ 9 → 0 ≤ l → l ≤ n → 0 ≤ i → i < 2 ^ l.toNat →
    CallOk Tryz.prog 65 [iv l i, .d (nI lo), .d (nI hi), .d (nI n)] [] (isRow (refC lo hi n f l i))
  | 0, _, _, h, _, _, _, _, _ => absurd h (Nat.not_lt_zero _)
  | f + 1, l, i, h, hf9, h0, h1, h2, h3 => by
    refine CallOk.of tysOk mixed od65 Tryz.func65 rfl rfl code65 ?_
    have e1 : IntKind.i64.wrap (n - l) = n - l := wrap64 (by omega) (by omega)
    refine W.pure (ok48 _ ?_ ?_) rfl rfl ?_
    · show 0 ≤ IntKind.i64.wrap (n - l); omega
    · show IntKind.i64.wrap (n - l) ≤ 8; omega
    have hp := pow2_le (k := (n - l).toNat) (by omega)
    have hb := pow2_mul (a := l.toNat) (b := (n - l).toNat) (by omega) h2 (by omega)
    have ea : IntKind.i64.wrap (i * 2 ^ (IntKind.i64.wrap (n - l)).toNat) = i * 2 ^ (n - l).toNat := by rw [e1, wrap64 (by omega) (by omega)]
    have eb : IntKind.i64.wrap (IntKind.i64.wrap (IntKind.i64.wrap (i * 2 ^ (IntKind.i64.wrap (n - l)).toNat) + 2 ^ (IntKind.i64.wrap (n - l)).toNat) - 1) = i * 2 ^ (n - l).toNat + 2 ^ (n - l).toNat - 1 := by
      rw [ea, e1, wrap64 (n := _ + _) (by omega) (by omega), wrap64 (by omega) (by omega)]
    generalize hA : i * 2 ^ (n - l).toNat = A at *
    generalize hB : A + 2 ^ (n - l).toNat - 1 = B at *
    have hR : refC lo hi n (f + 1) l i = if A > hi ∨ B < lo then [] else if A ≥ lo ∧ B ≤ hi then [(l, i)] else refC lo hi n f (l + 1) (2 * i) ++ refC lo hi n f (l + 1) (2 * i + 1) := by
      rw [refC, hA, hB]
    have none : (A > hi ∨ B < lo) → ∀ {c : Blk}, RetQ ([] : Store).length (isRow (refC lo hi n (f + 1) l i)) .ret [(0, .vec 1 0)] [c, .vec 2 0 []] := fun hh c => by
      rw [hR, if_pos hh]
      exact RetQ.part [1] (by decide) (by simp) (by simp) ⟨rfl, rfl⟩
    refine W.ite (fun c1 => ?_) (fun c1 => ?_)
    · repeat (first | refine W.ite_t rfl ?_ | refine W.ite_f rfl ?_ | refine W.ite_t c1 ?_)
      rw [ea] at c1
      exact W.ret (none (.inl (of_decide_eq_true c1)))
    · have n1 : ¬ A > hi := by rw [ea] at c1; exact of_decide_eq_false c1
      repeat (first | refine W.ite_t rfl ?_ | refine W.ite_f rfl ?_ | refine W.ite_f c1 ?_)
      refine W.ite (fun c2 => ?_) (fun c2 => ?_)
      · repeat (first | refine W.ite_t rfl ?_ | refine W.ite_f rfl ?_ | refine W.ite_t c2 ?_)
        rw [eb] at c2
        exact W.ret (none (.inr (of_decide_eq_true c2)))
      · have n2 : ¬ B < lo := by rw [eb] at c2; exact of_decide_eq_false c2
        repeat (first | refine W.ite_t rfl ?_ | refine W.ite_f rfl ?_ | refine W.ite_f c2 ?_)
        have e2 : IntKind.i64.wrap (l + 1) = l + 1 := wrap64 (by omega) (by omega)
        have one : A ≥ lo → B ≤ hi → ∀ {c : Blk}, RetQ ([] : Store).length (isRow (refC lo hi n (f + 1) l i)) .ret [(0, .vec 1 1)] [c, .vec 2 1 [nI l, nI i]] := fun h1 h2 c => by
          rw [hR, if_neg (by omega), if_pos ⟨h1, h2⟩]
          exact RetQ.part [1] (by decide) (by simp) (by simp) ⟨rfl, rfl⟩
        have hlt : ¬ (A ≥ lo ∧ B ≤ hi) → l < n := fun hh => by
          rcases Int.lt_or_le l n with h' | h'
          · exact h'
          · have : (n - l).toNat = 0 := by omega
            rw [this] at hB
            simp at hB
            omega
        have hpow : l < n → (2 : Int) ^ (l + 1).toNat = 2 ^ l.toNat * 2 := fun _ => by
          rw [show (l + 1).toNat = l.toNat + 1 from by omega, Int.pow_succ]
        have hl8 := pow2_le (k := l.toNat) (by omega)
        have e3 : IntKind.i64.wrap (2 * i) = 2 * i := wrap64 (by omega) (by omega)
        have left : ¬ (A ≥ lo ∧ B ≤ hi) → CallOk Tryz.prog 65 [iv (IntKind.i64.wrap (l + 1)) (IntKind.i64.wrap (2 * i)), .d (nI lo), .d (nI hi), .d (nI n)] [] (isRow (refC lo hi n f (l + 1) (2 * i))) := fun hh => by
          have := hlt hh
          have := hpow this
          rw [e2, e3]
          exact ok65 lo hi n hlo hhi hn hn8 f (l + 1) (2 * i) (by omega) (by omega) (by omega) (by omega) (by omega) (by omega)
        have len1 := refC_len lo hi n f (l + 1) (2 * i)
        have len2 := refC_len lo hi n f (l + 1) (2 * i + 1)
        have hpf := Nat.pow_le_pow_right (n := 2) (by omega) (show f ≤ 9 by omega)
        have e4 : IntKind.i64.wrap (2 * i + 1) = 2 * i + 1 := wrap64 (by omega) (by omega)
        have right : ¬ (A ≥ lo ∧ B ≤ hi) → CallOk Tryz.prog 65 [iv (IntKind.i64.wrap (l + 1)) (IntKind.i64.wrap (IntKind.i64.wrap (2 * i) + 1)), .d (nI lo), .d (nI hi), .d (nI n)] [] (isRow (refC lo hi n f (l + 1) (2 * i + 1))) := fun hh => by
          have := hlt hh
          have := hpow this
          rw [e2, e3, e4]
          exact ok65 lo hi n hlo hhi hn hn8 f (l + 1) (2 * i + 1) (by omega) (by omega) (by omega) (by omega) (by omega) (by omega)
        have hcat : ¬ (A ≥ lo ∧ B ≤ hi) → refC lo hi n (f + 1) l i = refC lo hi n f (l + 1) (2 * i) ++ refC lo hi n f (l + 1) (2 * i + 1) := fun hh => by
          rw [hR, if_neg (by omega), if_neg hh]
        generalize refC lo hi n f (l + 1) (2 * i) = L1 at *
        generalize refC lo hi n f (l + 1) (2 * i + 1) = L2 at *
        have fin1 : 2 = 2 ∧ L1.length = L1.length ∧ L2.length * 2 = ((ivs L2).take (L2.length * 2)).length ∧ (L1.length + L2.length) * 16 ≤ 140737488355328 ∧ L1.length + L2.length ≤ 9223372036854775807 ∧ ∀ c ∈ (ivs L2).take (L2.length * 2), c.one = true :=
          ⟨rfl, rfl, by rw [ivs_take, ivs_length]; omega, by omega, by omega, fun c hc => ivs_one L2 c (by rw [ivs_take] at hc; exact hc)⟩
        have fin2 : ¬ (A ≥ lo ∧ B ≤ hi) → ∀ {σ : Store} {c d : Blk}, σ = [c, .vec 2 (L1.length + L2.length) (ivs L1 ++ (ivs L2).take (L2.length * 2)), d] → RetQ ([] : Store).length (isRow (refC lo hi n (f + 1) l i)) .ret [(0, .vec 1 (L1.length + L2.length))] σ := fun hh σ c d e => by
          subst e
          rw [hcat hh]
          refine RetQ.part [1] (by decide) (by simp) (by simp) ⟨?_, ?_⟩
          · rw [List.length_append]; rfl
          · rw [List.length_append, ivs_append, ivs_take]; rfl
        refine W.ite (fun c3 => ?_) (fun c3 => ?_)
        · have m3 : A ≥ lo := by rw [ea] at c3; exact of_decide_eq_true c3
          repeat (first | refine W.ite_t rfl ?_ | refine W.ite_f rfl ?_ | refine W.ite_t c3 ?_)
          refine W.ite (fun c4 => ?_) (fun c4 => ?_)
          · have m4 : B ≤ hi := by rw [eb] at c4; exact of_decide_eq_true c4
            refine W.alt_r ?_
            exact W.ret (one m3 m4)
          · have m4 : ¬ B ≤ hi := by rw [eb] at c4; exact of_decide_eq_false c4
            refine W.call [] (by decide) (by simp) (by simp) rfl rfl (left (by omega)) ?_
            rintro v s ⟨rfl, rfl⟩
            refine W.call [] (by decide) (by simp) (by simp) rfl rfl (right (by omega)) ?_
            rintro v s ⟨rfl, rfl⟩
            refine W.need ?_ ?_
            · exact fin1
            refine W.ret ?_
            exact fin2 (by omega) (σ := _) (c := _) (d := _) rfl
        · have m3 : ¬ A ≥ lo := by rw [ea] at c3; exact of_decide_eq_false c3
          repeat (first | refine W.ite_t rfl ?_ | refine W.ite_f rfl ?_ | refine W.ite_f c3 ?_)
          refine W.call [] (by decide) (by simp) (by simp) rfl rfl (left (by omega)) ?_
          rintro v s ⟨rfl, rfl⟩
          refine W.call [] (by decide) (by simp) (by simp) rfl rfl (right (by omega)) ?_
          rintro v s ⟨rfl, rfl⟩
          refine W.need ?_ ?_
          · exact fin1
          refine W.ret ?_
          exact fin2 (by omega) (σ := _) (c := _) (d := _) rfl
end Go.Proofs.YtbjjimllnffcpaaGreatDoor.Dy

set_option maxRecDepth 100000
set_option linter.unusedVariables false
set_option linter.unusedSimpArgs false
namespace Go.Proofs.YtbjjimllnffcpaaGreatDoor.Dy
open Go Go.Am
def od34 : Ords := []
theorem code34 : codeB Tryz.f34.ntmps od34 (match Tryz.f34.body with | some c => c | none => .skip) = true := by kernel_rfl
def refCover (lo hi n : Int) : List (Int × Int) := if lo ≤ hi ∧ good n lo n = true ∧ good n hi n = true then refC lo hi n (n.toNat + 1) 0 0 else []
theorem ok34 (lo hi n : Int) : Go.Am.Pure Tryz.prog 34 [.d (nI lo), .d (nI hi), .d (nI n)] (slI (refCover lo hi n)) := by
  refine CallOk.soft (CallOk.of tysOk mixed [] Tryz.func34 rfl rfl code34 ?_)
  have nil : ¬ (lo ≤ hi ∧ good n lo n = true ∧ good n hi n = true) → RetQ ([] : Store).length (fun v s => v.soft = slI (refCover lo hi n) ∧ s = []) .ret [(0, .vec 0 0)] [.vec 2 0 []] := fun h => by
    simp only [refCover, h, if_false]
    exact RetQ.row (cs := []) rfl rfl
  refine W.ite (fun h => ?_) (fun h => ?_)
  · repeat (first | refine W.ite_t rfl ?_ | refine W.ite_f rfl ?_ | refine W.ite_t h ?_)
    refine W.ret (nil ?_)
    have := of_decide_eq_true h
    omega
  have hlh : ¬ lo > hi := of_decide_eq_false h
  repeat (first | refine W.ite_t rfl ?_ | refine W.ite_f rfl ?_ | refine W.ite_f h ?_)
  refine W.pure (ok64 n lo n) rfl rfl ?_
  repeat (first | refine W.ite_t rfl ?_ | refine W.ite_f rfl ?_ | refine W.ite_f h ?_)
  refine W.ite (fun h1 => ?_) (fun h1 => ?_)
  · repeat (first | refine W.ite_t rfl ?_ | refine W.ite_f rfl ?_ | refine W.ite_t h1 ?_)
    refine W.ret (nil ?_)
    have : good n lo n = false := by simpa using h1
    simp [this]
  have hg1 : good n lo n = true := by simpa using h1
  repeat (first | refine W.ite_t rfl ?_ | refine W.ite_f rfl ?_ | refine W.ite_f h ?_ | refine W.ite_f h1 ?_)
  refine W.pure (ok64 n hi n) rfl rfl ?_
  repeat (first | refine W.ite_t rfl ?_ | refine W.ite_f rfl ?_ | refine W.ite_f h ?_ | refine W.ite_f h1 ?_)
  refine W.ite (fun h2 => ?_) (fun h2 => ?_)
  · refine W.ret (nil ?_)
    have : good n hi n = false := by simpa using h2
    simp [this]
  have hg2 : good n hi n = true := by simpa using h2
  obtain ⟨a1, a2, a3, a4, a5, a6⟩ := good_iff.1 hg1
  obtain ⟨b1, b2, b3, b4, b5, b6⟩ := good_iff.1 hg2
  have hp := pow2_le (k := n.toNat) (by omega)
  have key := ok65 lo hi n a5 (by omega) a1 a2 (n.toNat + 1) 0 0 (by omega) (by omega) (by omega) (by omega) (by omega) (by decide)
  have hcov : refCover lo hi n = refC lo hi n (n.toNat + 1) 0 0 := by
    simp only [refCover, hg1, hg2, and_self, and_true]
    rw [if_pos (by omega)]
  rw [hcov]
  generalize refC lo hi n (n.toNat + 1) 0 0 = L at *
  refine W.call [] (by decide) (by simp) (by simp) rfl rfl key ?_
  rintro v s ⟨rfl, rfl⟩
  refine W.ret ?_
  refine RetQ.row (cs := ivs L) (sz := 2) (m := L.length) rfl ?_
  rw [ivs_take]
  rfl
end Go.Proofs.YtbjjimllnffcpaaGreatDoor.Dy

set_option maxRecDepth 100000
set_option linter.unusedVariables false
set_option linter.unusedSimpArgs false
namespace Go.Proofs.YtbjjimllnffcpaaGreatDoor.Dy
open Go Go.Am
/-- The greedy cover from a place. -/
def cov (H N x : Nat) : List (Int × Int) := coverN H N (H + 1 - x) x
theorem cov_end {H N x : Nat} (h : H < x) : cov H N x = [] := by
  unfold cov
  rw [show H + 1 - x = 0 from by omega]
  rfl
theorem coverN_fuel (H N : Nat) : ∀ (f g x : Nat), H + 1 - x ≤ f → H + 1 - x ≤ g → coverN H N f x = coverN H N g x
  | 0, 0, _, _, _ => rfl
  | 0, g + 1, x, h, _ => by rw [coverN, coverN, if_neg (by omega)]
  | f + 1, 0, x, _, h => by rw [coverN, coverN, if_neg (by omega)]
  | f + 1, g + 1, x, h1, h2 => by
    rw [coverN, coverN]
    split
    · have := Nat.one_le_two_pow (n := inner x H N N 0)
      rw [coverN_fuel H N f g _ (by omega) (by omega)]
    · rfl
theorem cov_step {H N x : Nat} (h : x ≤ H) : cov H N x = (((N - inner x H N N 0 : Nat) : Int), ((x / 2 ^ inner x H N N 0 : Nat) : Int)) :: cov H N (x + 2 ^ inner x H N N 0) := by
  have := Nat.one_le_two_pow (n := inner x H N N 0)
  show coverN H N (H + 1 - x) x = _
  rw [show H + 1 - x = (H - x) + 1 from by omega, coverN, if_pos h]
  exact congrArg _ (coverN_fuel H N _ _ _ (by omega) (by omega))
theorem inner_eq {x H N k : Nat} (h1 : ∀ b, b < k → b < N ∧ x % 2 ^ (b + 1) = 0 ∧ x + 2 ^ (b + 1) ≤ H + 1) (h2 : ¬ (k < N ∧ x % 2 ^ (k + 1) = 0 ∧ x + 2 ^ (k + 1) ≤ H + 1)) : ∀ (f b : Nat), b ≤ k → k ≤ b + f → inner x H N f b = k
  | 0, b, h, h' => by rw [inner]; omega
  | f + 1, b, h, h' => by
    rw [inner]
    by_cases hb : b < k
    · rw [if_pos (h1 b hb)]
      exact inner_eq h1 h2 f (b + 1) hb (by omega)
    · have : b = k := by omega
      subst this
      rw [if_neg h2]
/-- The reference's cover, over the numbers. -/
def refN (lo H N : Nat) : Nat → Nat → List (Int × Int)
  | 0, i => if i > H ∨ i + 1 ≤ lo then [] else [((N : Int), (i : Int))]
  | d + 1, i => if i * 2 ^ (d + 1) > H ∨ i * 2 ^ (d + 1) + 2 ^ (d + 1) ≤ lo then []
    else if lo ≤ i * 2 ^ (d + 1) ∧ i * 2 ^ (d + 1) + 2 ^ (d + 1) ≤ H + 1 then [(((N - (d + 1) : Nat) : Int), (i : Int))]
    else refN lo H N d (2 * i) ++ refN lo H N d (2 * i + 1)
theorem one_step {lo H N d i : Nat} (hd : d ≤ N) (h1 : lo ≤ i * 2 ^ d) (h2 : i * 2 ^ d + 2 ^ d ≤ H + 1) (hp : d = N ∨ ¬ (lo ≤ (i / 2) * 2 ^ (d + 1) ∧ (i / 2) * 2 ^ (d + 1) + 2 ^ (d + 1) ≤ H + 1)) :
    cov H N (i * 2 ^ d) = [(((N - d : Nat) : Int), (i : Int))] ++ cov H N (i * 2 ^ d + 2 ^ d) := by
  have hs := Nat.one_le_two_pow (n := d)
  have e : inner (i * 2 ^ d) H N N 0 = d := by
    refine inner_eq (k := d) (fun b hb => ⟨by omega, ?_, ?_⟩) ?_ N 0 (by omega) (by omega)
    · have : 2 ^ (b + 1) ∣ 2 ^ d := Nat.pow_dvd_pow 2 hb
      exact Nat.mod_eq_zero_of_dvd (Nat.dvd_trans this (Nat.dvd_mul_left _ _))
    · have : 2 ^ (b + 1) ≤ 2 ^ d := Nat.pow_le_pow_right (by decide) hb
      omega
    · rintro ⟨h3, h4, h5⟩
      rcases hp with hp | hp
      · omega
      · apply hp
        have hpw : 2 ^ (d + 1) = 2 ^ d * 2 := Nat.pow_succ ..
        have hev : i % 2 = 0 := by
          rw [hpw, Nat.mul_comm i, Nat.mul_mod_mul_left] at h4
          rcases Nat.mul_eq_zero.1 h4 with h | h
          · omega
          · exact h
        have : (i / 2) * 2 ^ (d + 1) = i * 2 ^ d := by
          rw [hpw, Nat.mul_comm (2 ^ d) 2, ← Nat.mul_assoc]
          congr 1
          omega
        rw [this]
        exact ⟨h1, h5⟩
  rw [cov_step (by omega), e, Nat.mul_div_cancel _ hs]
  rfl
theorem refN_out {lo H N d i : Nat} (h : i * 2 ^ d > H ∨ i * 2 ^ d + 2 ^ d ≤ lo) : refN lo H N d i = [] := by
  cases d with
  | zero => rw [refN, if_pos (by simpa using h)]
  | succ d => rw [refN, if_pos h]
theorem refN_cov {lo H N : Nat} : ∀ (d i : Nat), d ≤ N → (d = N ∨ ¬ (lo ≤ (i / 2) * 2 ^ (d + 1) ∧ (i / 2) * 2 ^ (d + 1) + 2 ^ (d + 1) ≤ H + 1)) → lo < i * 2 ^ d + 2 ^ d →
    cov H N (max lo (i * 2 ^ d)) = refN lo H N d i ++ cov H N (i * 2 ^ d + 2 ^ d)
  | d, i, hd, hp, hl => by
    have hs := Nat.one_le_two_pow (n := d)
    by_cases ho : i * 2 ^ d > H
    · rw [refN_out (.inl ho), cov_end (by omega), cov_end (by omega)]
      rfl
    by_cases hc : lo ≤ i * 2 ^ d ∧ i * 2 ^ d + 2 ^ d ≤ H + 1
    · rw [Nat.max_eq_right hc.1, one_step hd hc.1 hc.2 hp]
      congr 1
      cases d with
      | zero => rw [refN, if_neg (by simp at *; omega)]; rfl
      | succ d => rw [refN, if_neg (by omega), if_pos hc]
    · cases d with
      | zero => simp at *; omega
      | succ d =>
        rw [refN, if_neg (by omega), if_neg hc]
        have e1 : 2 ^ (d + 1) = 2 ^ d * 2 := Nat.pow_succ ..
        have e2 : i * 2 ^ (d + 1) = (2 * i) * 2 ^ d := by rw [e1, Nat.mul_comm (2 ^ d) 2, ← Nat.mul_assoc, Nat.mul_comm i 2]
        have e3 : (2 * i + 1) * 2 ^ d = (2 * i) * 2 ^ d + 2 ^ d := by rw [Nat.add_mul, Nat.one_mul]
        have q1 : 2 * i / 2 = i := by omega
        have q2 : (2 * i + 1) / 2 = i := by omega
        have hR := refN_cov (lo := lo) (H := H) (N := N) d (2 * i + 1) (by omega) (.inr (by rw [q2]; exact hc)) (by omega)
        rw [List.append_assoc]
        by_cases hll : lo < (2 * i) * 2 ^ d + 2 ^ d
        · have hL := refN_cov (lo := lo) (H := H) (N := N) d (2 * i) (by omega) (.inr (by rw [q1]; exact hc)) hll
          rw [e2, hL, ← e3]
          rw [Nat.max_eq_right (by omega)] at hR
          rw [hR, e3]
          congr 3
          omega
        · rw [refN_out (d := d) (i := 2 * i) (.inr (by omega)), e2, List.nil_append]
          rw [Nat.max_eq_left (by omega)] at hR ⊢
          rw [hR, e3]
          congr 2
          omega
  termination_by d => d
theorem refC_refN {lo H N : Nat} : ∀ (d i : Nat), d ≤ N → refC lo H N (d + 1) ((N - d : Nat) : Int) (i : Int) = refN lo H N d i
  | d, i, hd => by
    have e1 : ((N : Int) - ((N - d : Nat) : Int)).toNat = d := by omega
    have e2 : (i : Int) * 2 ^ d = ((i * 2 ^ d : Nat) : Int) := by simp
    have e3 : (2 : Int) ^ d = ((2 ^ d : Nat) : Int) := by simp
    have hs := Nat.one_le_two_pow (n := d)
    rw [refC, e1, e2, e3]
    by_cases ho : i * 2 ^ d > H ∨ i * 2 ^ d + 2 ^ d ≤ lo
    · rw [refN_out ho, if_pos (by omega)]
    · rw [if_neg (by omega)]
      by_cases hc : lo ≤ i * 2 ^ d ∧ i * 2 ^ d + 2 ^ d ≤ H + 1
      · rw [if_pos (by omega)]
        cases d with
        | zero => rw [refN, if_neg (by simp at *; omega)]; rfl
        | succ d => rw [refN, if_neg (by omega), if_pos hc]
      · rw [if_neg (by omega)]
        cases d with
        | zero => simp at *; omega
        | succ d =>
          rw [refN, if_neg (by omega), if_neg hc, ← refC_refN d (2 * i) (by omega), ← refC_refN d (2 * i + 1) (by omega)]
          have : ((N - (d + 1) : Nat) : Int) + 1 = ((N - d : Nat) : Int) := by omega
          rw [this]
          rfl
  termination_by d => d
/-- The reference's cover is the program's. -/
theorem refCover_cover (lo hi n : Int) : refCover lo hi n = cover lo hi n := by
  unfold refCover cover
  by_cases h : lo ≤ hi ∧ good n lo n = true ∧ good n hi n = true
  · rw [if_pos h, if_pos h]
    obtain ⟨h0, hg1, hg2⟩ := h
    obtain ⟨a1, a2, a3, a4, a5, a6⟩ := good_iff.1 hg1
    obtain ⟨b1, b2, b3, b4, b5, b6⟩ := good_iff.1 hg2
    obtain ⟨N, rfl⟩ : ∃ N : Nat, n = N := ⟨n.toNat, by omega⟩
    obtain ⟨H, rfl⟩ : ∃ H : Nat, hi = H := ⟨hi.toNat, by omega⟩
    obtain ⟨X, rfl⟩ : ∃ X : Nat, lo = X := ⟨lo.toNat, by omega⟩
    have hH : H < 2 ^ N := by
      have : ((2 : Int) ^ ((N : Int).toNat)) = ((2 ^ N : Nat) : Int) := by simp
      omega
    have k1 := refC_refN (lo := X) (H := H) (N := N) N 0 (Nat.le_refl _)
    have k2 := refN_cov (lo := X) (H := H) (N := N) N 0 (Nat.le_refl _) (.inl rfl) (by omega)
    rw [cov_end (x := 0 * 2 ^ N + 2 ^ N) (by omega), List.append_nil, Nat.zero_mul, Nat.max_eq_left (by omega)] at k2
    simp only [Nat.sub_self] at k1
    rw [Int.toNat_natCast]
    have : ((0 : Nat) : Int) = 0 := rfl
    rw [this] at k1
    rw [k1, ← k2, cov]
    simp only [Int.toNat_natCast]
    congr 1
    omega
  · rw [if_neg h, if_neg h]
end Go.Proofs.YtbjjimllnffcpaaGreatDoor.Dy

set_option maxRecDepth 100000
set_option linter.unusedVariables false
set_option linter.unusedSimpArgs false
namespace Go.Proofs.YtbjjimllnffcpaaGreatDoor.Dy
open Go Go.Am
def tysC : Tys := [(3, ⟨.scalar, false, 1, [.int .i64 0], [.int .i64], false, 0⟩), (9, ⟨.str, false, 1, [.string ⟨#[]⟩], [.str], false, 0⟩), (5, ⟨.scalar, false, 1, [.int .u8 0], [.int .u8], false, 0⟩), (66, ⟨.scalar, false, 1, [.int .u64 0], [.int .u64], false, 0⟩), (73, ⟨.struct [(0, 9), (1, 3), (2, 3), (3, 3)], true, 4, [.string ⟨#[]⟩, .int .i64 0, .int .i64 0, .int .i64 0], [.str, .int .i64, .int .i64, .int .i64], true, 0⟩), (74, ⟨.struct [(0, 9), (1, 3), (2, 3), (3, 3)], true, 4, [.string ⟨#[]⟩, .int .i64 0, .int .i64 0, .int .i64 0], [.str, .int .i64, .int .i64, .int .i64], true, 0⟩), (192, ⟨.scalar, false, 1, [.int .u32 0], [.int .u32], false, 0⟩), (61, ⟨.struct [(0, 3), (1, 3)], true, 2, [.int .i64 0, .int .i64 0], [.int .i64, .int .i64], true, 0⟩), (76, ⟨.struct [(0, 9), (1, 3), (2, 3), (3, 3), (4, 9)], true, 5, [.string ⟨#[]⟩, .int .i64 0, .int .i64 0, .int .i64 0, .string ⟨#[]⟩], [.str, .int .i64, .int .i64, .int .i64, .str], true, 0⟩), (21, ⟨.scalar, false, 1, [.int .i32 0], [.int .i32], false, 0⟩), (57, ⟨.struct [(0, 3), (1, 3)], true, 2, [.int .i64 0, .int .i64 0], [.int .i64, .int .i64], true, 0⟩), (77, ⟨.struct [(0, 9), (1, 3), (2, 3), (3, 3), (4, 9)], true, 5, [.string ⟨#[]⟩, .int .i64 0, .int .i64 0, .int .i64 0, .string ⟨#[]⟩], [.str, .int .i64, .int .i64, .int .i64, .str], true, 0⟩), (142, ⟨.slice 5 1 1 true, false, 1, [.slice none 0 0], [.other], false, 0⟩), (44, ⟨.slice 9 1 16 false, false, 1, [.slice none 0 0], [.other], false, 0⟩), (23, ⟨.slice 73 4 40 false, false, 1, [.slice none 0 0], [.other], false, 0⟩), (79, ⟨.struct [(0, 3), (1, 9)], true, 2, [.int .i64 0, .string ⟨#[]⟩], [.int .i64, .str], true, 0⟩), (29, ⟨.slice 74 4 40 false, false, 1, [.slice none 0 0], [.other], false, 0⟩), (80, ⟨.struct [(0, 3), (1, 9)], true, 2, [.int .i64 0, .string ⟨#[]⟩], [.int .i64, .str], true, 0⟩), (32, ⟨.slice 77 5 56 false, false, 1, [.slice none 0 0], [.other], false, 0⟩), (25, ⟨.slice 76 5 56 false, false, 1, [.slice none 0 0], [.other], false, 0⟩), (28, ⟨.struct [(0, 26), (1, 9)], true, 2, [.slice none 0 0, .string ⟨#[]⟩], [.other, .str], true, 0⟩), (26, ⟨.slice 79 2 24 false, false, 1, [.slice none 0 0], [.other], false, 0⟩), (39, ⟨.iface, false, 1, [.nilIface], [.other], false, 0⟩), (91, ⟨.slice 61 2 16 false, false, 1, [.slice none 0 0], [.other], false, 0⟩), (198, ⟨.struct [(0, 5), (1, 5)], true, 2, [.int .u8 0, .int .u8 0], [.int .u8, .int .u8], true, 0⟩), (89, ⟨.slice 57 2 16 false, false, 1, [.slice none 0 0], [.other], false, 0⟩), (163, ⟨.scalar, false, 1, [.int .i64 0], [.int .i64], false, 0⟩), (193, ⟨.array 65 5 1, true, 65, [.int .u8 0, .int .u8 0, .int .u8 0, .int .u8 0, .int .u8 0, .int .u8 0, .int .u8 0, .int .u8 0, .int .u8 0, .int .u8 0, .int .u8 0, .int .u8 0, .int .u8 0, .int .u8 0, .int .u8 0, .int .u8 0, .int .u8 0, .int .u8 0, .int .u8 0, .int .u8 0, .int .u8 0, .int .u8 0, .int .u8 0, .int .u8 0, .int .u8 0, .int .u8 0, .int .u8 0, .int .u8 0, .int .u8 0, .int .u8 0, .int .u8 0, .int .u8 0, .int .u8 0, .int .u8 0, .int .u8 0, .int .u8 0, .int .u8 0, .int .u8 0, .int .u8 0, .int .u8 0, .int .u8 0, .int .u8 0, .int .u8 0, .int .u8 0, .int .u8 0, .int .u8 0, .int .u8 0, .int .u8 0, .int .u8 0, .int .u8 0, .int .u8 0, .int .u8 0, .int .u8 0, .int .u8 0, .int .u8 0, .int .u8 0, .int .u8 0, .int .u8 0, .int .u8 0, .int .u8 0, .int .u8 0, .int .u8 0, .int .u8 0, .int .u8 0, .int .u8 0], [.int .u8, .int .u8, .int .u8, .int .u8, .int .u8, .int .u8, .int .u8, .int .u8, .int .u8, .int .u8, .int .u8, .int .u8, .int .u8, .int .u8, .int .u8, .int .u8, .int .u8, .int .u8, .int .u8, .int .u8, .int .u8, .int .u8, .int .u8, .int .u8, .int .u8, .int .u8, .int .u8, .int .u8, .int .u8, .int .u8, .int .u8, .int .u8, .int .u8, .int .u8, .int .u8, .int .u8, .int .u8, .int .u8, .int .u8, .int .u8, .int .u8, .int .u8, .int .u8, .int .u8, .int .u8, .int .u8, .int .u8, .int .u8, .int .u8, .int .u8, .int .u8, .int .u8, .int .u8, .int .u8, .int .u8, .int .u8, .int .u8, .int .u8, .int .u8, .int .u8, .int .u8, .int .u8, .int .u8, .int .u8, .int .u8], true, 0⟩), (2, ⟨.scalar, false, 1, [.int .i64 0], [.int .i64], false, 0⟩), (123, ⟨.scalar, false, 1, [.int .u64 0], [.int .u64], false, 0⟩), (35, ⟨.slice 80 2 24 false, false, 1, [.slice none 0 0], [.other], false, 0⟩), (180, ⟨.array 24 5 1, true, 24, [.int .u8 0, .int .u8 0, .int .u8 0, .int .u8 0, .int .u8 0, .int .u8 0, .int .u8 0, .int .u8 0, .int .u8 0, .int .u8 0, .int .u8 0, .int .u8 0, .int .u8 0, .int .u8 0, .int .u8 0, .int .u8 0, .int .u8 0, .int .u8 0, .int .u8 0, .int .u8 0, .int .u8 0, .int .u8 0, .int .u8 0, .int .u8 0], [.int .u8, .int .u8, .int .u8, .int .u8, .int .u8, .int .u8, .int .u8, .int .u8, .int .u8, .int .u8, .int .u8, .int .u8, .int .u8, .int .u8, .int .u8, .int .u8, .int .u8, .int .u8, .int .u8, .int .u8, .int .u8, .int .u8, .int .u8, .int .u8], true, 0⟩), (191, ⟨.array 20 66 1, true, 20, [.int .u64 0, .int .u64 0, .int .u64 0, .int .u64 0, .int .u64 0, .int .u64 0, .int .u64 0, .int .u64 0, .int .u64 0, .int .u64 0, .int .u64 0, .int .u64 0, .int .u64 0, .int .u64 0, .int .u64 0, .int .u64 0, .int .u64 0, .int .u64 0, .int .u64 0, .int .u64 0], [.int .u64, .int .u64, .int .u64, .int .u64, .int .u64, .int .u64, .int .u64, .int .u64, .int .u64, .int .u64, .int .u64, .int .u64, .int .u64, .int .u64, .int .u64, .int .u64, .int .u64, .int .u64, .int .u64, .int .u64], true, 0⟩), (204, ⟨.array 64 5 1, true, 64, [.int .u8 0, .int .u8 0, .int .u8 0, .int .u8 0, .int .u8 0, .int .u8 0, .int .u8 0, .int .u8 0, .int .u8 0, .int .u8 0, .int .u8 0, .int .u8 0, .int .u8 0, .int .u8 0, .int .u8 0, .int .u8 0, .int .u8 0, .int .u8 0, .int .u8 0, .int .u8 0, .int .u8 0, .int .u8 0, .int .u8 0, .int .u8 0, .int .u8 0, .int .u8 0, .int .u8 0, .int .u8 0, .int .u8 0, .int .u8 0, .int .u8 0, .int .u8 0, .int .u8 0, .int .u8 0, .int .u8 0, .int .u8 0, .int .u8 0, .int .u8 0, .int .u8 0, .int .u8 0, .int .u8 0, .int .u8 0, .int .u8 0, .int .u8 0, .int .u8 0, .int .u8 0, .int .u8 0, .int .u8 0, .int .u8 0, .int .u8 0, .int .u8 0, .int .u8 0, .int .u8 0, .int .u8 0, .int .u8 0, .int .u8 0, .int .u8 0, .int .u8 0, .int .u8 0, .int .u8 0, .int .u8 0, .int .u8 0, .int .u8 0, .int .u8 0], [.int .u8, .int .u8, .int .u8, .int .u8, .int .u8, .int .u8, .int .u8, .int .u8, .int .u8, .int .u8, .int .u8, .int .u8, .int .u8, .int .u8, .int .u8, .int .u8, .int .u8, .int .u8, .int .u8, .int .u8, .int .u8, .int .u8, .int .u8, .int .u8, .int .u8, .int .u8, .int .u8, .int .u8, .int .u8, .int .u8, .int .u8, .int .u8, .int .u8, .int .u8, .int .u8, .int .u8, .int .u8, .int .u8, .int .u8, .int .u8, .int .u8, .int .u8, .int .u8, .int .u8, .int .u8, .int .u8, .int .u8, .int .u8, .int .u8, .int .u8, .int .u8, .int .u8, .int .u8, .int .u8, .int .u8, .int .u8, .int .u8, .int .u8, .int .u8, .int .u8, .int .u8, .int .u8, .int .u8, .int .u8], true, 0⟩), (52, ⟨.scalar, false, 1, [.int .i64 0], [.int .i64], false, 0⟩), (140, ⟨.struct [(0, 9), (1, 3), (2, 39)], true, 3, [.string ⟨#[]⟩, .int .i64 0, .nilIface], [.str, .int .i64, .other], false, 0⟩), (203, ⟨.array 32 5 1, true, 32, [.int .u8 0, .int .u8 0, .int .u8 0, .int .u8 0, .int .u8 0, .int .u8 0, .int .u8 0, .int .u8 0, .int .u8 0, .int .u8 0, .int .u8 0, .int .u8 0, .int .u8 0, .int .u8 0, .int .u8 0, .int .u8 0, .int .u8 0, .int .u8 0, .int .u8 0, .int .u8 0, .int .u8 0, .int .u8 0, .int .u8 0, .int .u8 0, .int .u8 0, .int .u8 0, .int .u8 0, .int .u8 0, .int .u8 0, .int .u8 0, .int .u8 0, .int .u8 0], [.int .u8, .int .u8, .int .u8, .int .u8, .int .u8, .int .u8, .int .u8, .int .u8, .int .u8, .int .u8, .int .u8, .int .u8, .int .u8, .int .u8, .int .u8, .int .u8, .int .u8, .int .u8, .int .u8, .int .u8, .int .u8, .int .u8, .int .u8, .int .u8, .int .u8, .int .u8, .int .u8, .int .u8, .int .u8, .int .u8, .int .u8, .int .u8], true, 0⟩), (199, ⟨.array 16 198 2, true, 32, [.int .u8 0, .int .u8 0, .int .u8 0, .int .u8 0, .int .u8 0, .int .u8 0, .int .u8 0, .int .u8 0, .int .u8 0, .int .u8 0, .int .u8 0, .int .u8 0, .int .u8 0, .int .u8 0, .int .u8 0, .int .u8 0, .int .u8 0, .int .u8 0, .int .u8 0, .int .u8 0, .int .u8 0, .int .u8 0, .int .u8 0, .int .u8 0, .int .u8 0, .int .u8 0, .int .u8 0, .int .u8 0, .int .u8 0, .int .u8 0, .int .u8 0, .int .u8 0], [.int .u8, .int .u8, .int .u8, .int .u8, .int .u8, .int .u8, .int .u8, .int .u8, .int .u8, .int .u8, .int .u8, .int .u8, .int .u8, .int .u8, .int .u8, .int .u8, .int .u8, .int .u8, .int .u8, .int .u8, .int .u8, .int .u8, .int .u8, .int .u8, .int .u8, .int .u8, .int .u8, .int .u8, .int .u8, .int .u8, .int .u8, .int .u8], true, 0⟩), (4, ⟨.scalar, false, 1, [.bool false], [.bool], false, 0⟩), (138, ⟨.ptr, false, 1, [.pointer none], [.other], false, 0⟩), (178, ⟨.struct [(0, 9), (1, 9), (2, 39)], true, 3, [.string ⟨#[]⟩, .string ⟨#[]⟩, .nilIface], [.str, .str, .other], false, 0⟩), (186, ⟨.ptr, false, 1, [.pointer none], [.other], false, 0⟩), (109, ⟨.iface, false, 1, [.nilIface], [.other], false, 0⟩), (232, ⟨.ptr, false, 1, [.pointer none], [.other], false, 0⟩), (196, ⟨.array 256 5 1, true, 256, [.int .u8 0, .int .u8 0, .int .u8 0, .int .u8 0, .int .u8 0, .int .u8 0, .int .u8 0, .int .u8 0, .int .u8 0, .int .u8 0, .int .u8 0, .int .u8 0, .int .u8 0, .int .u8 0, .int .u8 0, .int .u8 0, .int .u8 0, .int .u8 0, .int .u8 0, .int .u8 0, .int .u8 0, .int .u8 0, .int .u8 0, .int .u8 0, .int .u8 0, .int .u8 0, .int .u8 0, .int .u8 0, .int .u8 0, .int .u8 0, .int .u8 0, .int .u8 0, .int .u8 0, .int .u8 0, .int .u8 0, .int .u8 0, .int .u8 0, .int .u8 0, .int .u8 0, .int .u8 0, .int .u8 0, .int .u8 0, .int .u8 0, .int .u8 0, .int .u8 0, .int .u8 0, .int .u8 0, .int .u8 0, .int .u8 0, .int .u8 0, .int .u8 0, .int .u8 0, .int .u8 0, .int .u8 0, .int .u8 0, .int .u8 0, .int .u8 0, .int .u8 0, .int .u8 0, .int .u8 0, .int .u8 0, .int .u8 0, .int .u8 0, .int .u8 0, .int .u8 0, .int .u8 0, .int .u8 0, .int .u8 0, .int .u8 0, .int .u8 0, .int .u8 0, .int .u8 0, .int .u8 0, .int .u8 0, .int .u8 0, .int .u8 0, .int .u8 0, .int .u8 0, .int .u8 0, .int .u8 0, .int .u8 0, .int .u8 0, .int .u8 0, .int .u8 0, .int .u8 0, .int .u8 0, .int .u8 0, .int .u8 0, .int .u8 0, .int .u8 0, .int .u8 0, .int .u8 0, .int .u8 0, .int .u8 0, .int .u8 0, .int .u8 0, .int .u8 0, .int .u8 0, .int .u8 0, .int .u8 0, .int .u8 0, .int .u8 0, .int .u8 0, .int .u8 0, .int .u8 0, .int .u8 0, .int .u8 0, .int .u8 0, .int .u8 0, .int .u8 0, .int .u8 0, .int .u8 0, .int .u8 0, .int .u8 0, .int .u8 0, .int .u8 0, .int .u8 0, .int .u8 0, .int .u8 0, .int .u8 0, .int .u8 0, .int .u8 0, .int .u8 0, .int .u8 0, .int .u8 0, .int .u8 0, .int .u8 0, .int .u8 0, .int .u8 0, .int .u8 0, .int .u8 0, .int .u8 0, .int .u8 0, .int .u8 0, .int .u8 0, .int .u8 0, .int .u8 0, .int .u8 0, .int .u8 0, .int .u8 0, .int .u8 0, .int .u8 0, .int .u8 0, .int .u8 0, .int .u8 0, .int .u8 0, .int .u8 0, .int .u8 0, .int .u8 0, .int .u8 0, .int .u8 0, .int .u8 0, .int .u8 0, .int .u8 0, .int .u8 0, .int .u8 0, .int .u8 0, .int .u8 0, .int .u8 0, .int .u8 0, .int .u8 0, .int .u8 0, .int .u8 0, .int .u8 0, .int .u8 0, .int .u8 0, .int .u8 0, .int .u8 0, .int .u8 0, .int .u8 0, .int .u8 0, .int .u8 0, .int .u8 0, .int .u8 0, .int .u8 0, .int .u8 0, .int .u8 0, .int .u8 0, .int .u8 0, .int .u8 0, .int .u8 0, .int .u8 0, .int .u8 0, .int .u8 0, .int .u8 0, .int .u8 0, .int .u8 0, .int .u8 0, .int .u8 0, .int .u8 0, .int .u8 0, .int .u8 0, .int .u8 0, .int .u8 0, .int .u8 0, .int .u8 0, .int .u8 0, .int .u8 0, .int .u8 0, .int .u8 0, .int .u8 0, .int .u8 0, .int .u8 0, .int .u8 0, .int .u8 0, .int .u8 0, .int .u8 0, .int .u8 0, .int .u8 0, .int .u8 0, .int .u8 0, .int .u8 0, .int .u8 0, .int .u8 0, .int .u8 0, .int .u8 0, .int .u8 0, .int .u8 0, .int .u8 0, .int .u8 0, .int .u8 0, .int .u8 0, .int .u8 0, .int .u8 0, .int .u8 0, .int .u8 0, .int .u8 0, .int .u8 0, .int .u8 0, .int .u8 0, .int .u8 0, .int .u8 0, .int .u8 0, .int .u8 0, .int .u8 0, .int .u8 0, .int .u8 0, .int .u8 0, .int .u8 0, .int .u8 0, .int .u8 0, .int .u8 0, .int .u8 0, .int .u8 0, .int .u8 0, .int .u8 0, .int .u8 0, .int .u8 0, .int .u8 0, .int .u8 0, .int .u8 0, .int .u8 0, .int .u8 0, .int .u8 0, .int .u8 0, .int .u8 0], [.int .u8, .int .u8, .int .u8, .int .u8, .int .u8, .int .u8, .int .u8, .int .u8, .int .u8, .int .u8, .int .u8, .int .u8, .int .u8, .int .u8, .int .u8, .int .u8, .int .u8, .int .u8, .int .u8, .int .u8, .int .u8, .int .u8, .int .u8, .int .u8, .int .u8, .int .u8, .int .u8, .int .u8, .int .u8, .int .u8, .int .u8, .int .u8, .int .u8, .int .u8, .int .u8, .int .u8, .int .u8, .int .u8, .int .u8, .int .u8, .int .u8, .int .u8, .int .u8, .int .u8, .int .u8, .int .u8, .int .u8, .int .u8, .int .u8, .int .u8, .int .u8, .int .u8, .int .u8, .int .u8, .int .u8, .int .u8, .int .u8, .int .u8, .int .u8, .int .u8, .int .u8, .int .u8, .int .u8, .int .u8, .int .u8, .int .u8, .int .u8, .int .u8, .int .u8, .int .u8, .int .u8, .int .u8, .int .u8, .int .u8, .int .u8, .int .u8, .int .u8, .int .u8, .int .u8, .int .u8, .int .u8, .int .u8, .int .u8, .int .u8, .int .u8, .int .u8, .int .u8, .int .u8, .int .u8, .int .u8, .int .u8, .int .u8, .int .u8, .int .u8, .int .u8, .int .u8, .int .u8, .int .u8, .int .u8, .int .u8, .int .u8, .int .u8, .int .u8, .int .u8, .int .u8, .int .u8, .int .u8, .int .u8, .int .u8, .int .u8, .int .u8, .int .u8, .int .u8, .int .u8, .int .u8, .int .u8, .int .u8, .int .u8, .int .u8, .int .u8, .int .u8, .int .u8, .int .u8, .int .u8, .int .u8, .int .u8, .int .u8, .int .u8, .int .u8, .int .u8, .int .u8, .int .u8, .int .u8, .int .u8, .int .u8, .int .u8, .int .u8, .int .u8, .int .u8, .int .u8, .int .u8, .int .u8, .int .u8, .int .u8, .int .u8, .int .u8, .int .u8, .int .u8, .int .u8, .int .u8, .int .u8, .int .u8, .int .u8, .int .u8, .int .u8, .int .u8, .int .u8, .int .u8, .int .u8, .int .u8, .int .u8, .int .u8, .int .u8, .int .u8, .int .u8, .int .u8, .int .u8, .int .u8, .int .u8, .int .u8, .int .u8, .int .u8, .int .u8, .int .u8, .int .u8, .int .u8, .int .u8, .int .u8, .int .u8, .int .u8, .int .u8, .int .u8, .int .u8, .int .u8, .int .u8, .int .u8, .int .u8, .int .u8, .int .u8, .int .u8, .int .u8, .int .u8, .int .u8, .int .u8, .int .u8, .int .u8, .int .u8, .int .u8, .int .u8, .int .u8, .int .u8, .int .u8, .int .u8, .int .u8, .int .u8, .int .u8, .int .u8, .int .u8, .int .u8, .int .u8, .int .u8, .int .u8, .int .u8, .int .u8, .int .u8, .int .u8, .int .u8, .int .u8, .int .u8, .int .u8, .int .u8, .int .u8, .int .u8, .int .u8, .int .u8, .int .u8, .int .u8, .int .u8, .int .u8, .int .u8, .int .u8, .int .u8, .int .u8, .int .u8, .int .u8, .int .u8, .int .u8, .int .u8, .int .u8, .int .u8, .int .u8, .int .u8, .int .u8, .int .u8, .int .u8, .int .u8, .int .u8, .int .u8, .int .u8, .int .u8, .int .u8, .int .u8, .int .u8, .int .u8, .int .u8, .int .u8], true, 0⟩), (187, ⟨.ptr, false, 1, [.pointer none], [.other], false, 0⟩), (189, ⟨.struct [(0, 9)], true, 1, [.string ⟨#[]⟩], [.str], true, 0⟩)]
theorem tysCOk : TysOk Tryz.prog tysC := TysOk.of (by kernel_rfl)
abbrev sD (s : ByteArray) : D := .lit (.string s)
/-- An attribute, a value, a predicate, in the machine. -/
abbrev atD (nm : ByteArray) (k mn mx : Int) : AV := .d (.agg [sD nm, nI k, nI mn, nI mx])
abbrev vaD (num : Int) (s : ByteArray) : AV := .d (.agg [nI num, sD s])
abbrev prD (nm : ByteArray) (o lo hi : Int) (s : ByteArray) : AV := .d (.agg [sD nm, nI o, nI lo, nI hi, sD s])
theorem ret_nI {a b : Int} (h : a = b) : mkRet [.d (.lit (.int .i64 a))] = .d (nI b) := by subst h; rfl
/-- A text, cut. -/
def cutS (s : ByteArray) : ByteArray := if s.size > 60 then s.extract 0 60 else s
/-- A byte of a text, or 0 behind its end. -/
def byteI (s : ByteArray) (i : Nat) : Int := if i < s.size then ((s.data.getD i 0).toNat : Int) else 0
theorem byteI_le (s : ByteArray) (i : Nat) : 0 ≤ byteI s i ∧ byteI s i < 256 := by
  unfold byteI
  split
  · have := (s.data.getD i 0).toNat_lt
    omega
  · omega
/-- The first cell's number of a text. -/
def preI (s : ByteArray) (i : Nat) : Int := if i = 0 then 0 else if i = 1 then byteI s 0 else 256 * byteI s 0 + byteI s 1
theorem preI_step (s : ByteArray) {i : Nat} (h : i < 2) : preI s (i + 1) = preI s i * 256 + byteI s i := by
  have : i = 0 ∨ i = 1 := by omega
  rcases this with rfl | rfl
  · simp [preI]
  · simp [preI]; omega
theorem preI_le (s : ByteArray) (i : Nat) (h : i < 2) : 0 ≤ preI s i ∧ preI s i < 256 := by
  have := byteI_le s 0
  have : i = 0 ∨ i = 1 := by omega
  rcases this with rfl | rfl
  · simp [preI]
  · simp [preI]; omega
theorem preI_le2 (s : ByteArray) (i : Nat) : 0 ≤ preI s i ∧ preI s i < 65536 := by
  have := byteI_le s 0
  have := byteI_le s 1
  unfold preI
  split
  · omega
  · split <;> omega
/-- The cell of a value. -/
def cellV (k mn mx num : Int) (s : ByteArray) (n : Int) : Int :=
  if n < 0 ∨ n > 8 then -1
  else if k = 1 then (if num < mn ∨ num > mx ∨ mn < -2147483648 ∨ mx > 2147483648 then -1 else (num - mn) * 2 ^ n.toNat / (mx - mn + 1))
  else preI s 2 / 2 ^ (16 - n).toNat
theorem or_low (x b : Nat) (hx : x < 256) (hb : b < 256) : (BitVec.ofInt 64 ((x * 256 : Nat) : Int) ||| BitVec.ofInt 64 (b : Int)).toNat = x * 256 + b := by
  rw [BitVec.toNat_or, BitVec.ofInt_natCast, BitVec.ofInt_natCast, BitVec.toNat_ofNat, BitVec.toNat_ofNat, Nat.mod_eq_of_lt (by omega), Nat.mod_eq_of_lt (by omega)]
  have := Nat.shiftLeft_add_eq_or_of_lt (i := 8) (b := b) (by omega) x
  rw [Nat.shiftLeft_eq] at this
  exact this.symm
def od37 : Ords := [(6, [0, 1, 2, 3, 4, 5, 6, 7, 8, 9, 10, 11, 12, 13, 14])]
theorem code37 : codeB Tryz.f37.ntmps od37 (match Tryz.f37.body with | some c => c | none => .skip) = true := by kernel_rfl
theorem pow2_le16 {k : Nat} (h : k ≤ 16) : (1 : Int) ≤ 2 ^ k ∧ (2 : Int) ^ k ≤ 65536 := by
  have h1 : 2 ^ k ≤ 2 ^ 16 := Nat.pow_le_pow_right (by decide) h
  have h2 := Nat.one_le_two_pow (n := k)
  have e : (2 : Int) ^ k = ((2 ^ k : Nat) : Int) := by simp
  rw [e]
  omega
theorem pow2_9 {k : Nat} (h : k ≤ 8) : (1 : Int) ≤ 2 ^ k ∧ (2 : Int) ^ k ≤ 256 := pow2_le h
theorem quo_bound {a p d : Int} (h0 : 0 ≤ a) (h1 : a < d) (hp : 0 < p) (hd : 0 < d) : 0 ≤ a * p / d ∧ a * p / d < p := by
  refine ⟨Int.ediv_nonneg (Int.mul_nonneg h0 (Int.le_of_lt hp)) (Int.le_of_lt hd), ?_⟩
  refine Int.ediv_lt_of_lt_mul hd ?_
  rw [Int.mul_comm p d]
  exact Int.mul_lt_mul_of_pos_right h1 hp
theorem mul_bound {a p : Int} (h0 : 0 ≤ a) (h1 : a ≤ 4294967296) (hp : 0 ≤ p) (hq : p ≤ 256) : 0 ≤ a * p ∧ a * p ≤ 1099511627776 := by
  refine ⟨Int.mul_nonneg h0 hp, ?_⟩
  have := Int.mul_le_mul h1 hq hp (by omega : (0 : Int) ≤ 4294967296)
  omega
set_option maxHeartbeats 4000000 in
theorem ok37 (nm : ByteArray) (k mn mx num : Int) (s : ByteArray) (n : Int) : Go.Am.Pure Tryz.prog 37 [atD nm k mn mx, vaD num s, .d (nI n)] (.d (nI (cellV k mn mx num s n))) := by
  refine CallOk.of tysCOk mixed od37 Tryz.func37 rfl rfl code37 ?_
  have bad : (n < 0 ∨ n > 8) → ∀ {σ : Store}, RetQ ([] : Store).length (fun v s' => v = .d (nI (cellV k mn mx num s n)) ∧ s' = []) .ret [(0, mkRet [.d (nI (-1))])] σ := fun h σ => by
    refine RetQ.pure rfl ?_
    unfold cellV
    rw [if_pos h]
    rfl
  refine W.ite (fun h1 => ?_) (fun h1 => ?_)
  · have n1 := of_decide_eq_true h1
    repeat (first | refine W.ite_t rfl ?_ | refine W.ite_f rfl ?_ | refine W.ite_t h1 ?_)
    exact W.ret (bad (.inl n1))
  have n1 := of_decide_eq_false h1
  repeat (first | refine W.ite_t rfl ?_ | refine W.ite_f rfl ?_ | refine W.ite_f h1 ?_)
  refine W.ite (fun h2 => ?_) (fun h2 => ?_)
  · have n2 := of_decide_eq_true h2
    repeat (first | refine W.ite_t rfl ?_ | refine W.ite_f rfl ?_ | refine W.ite_t h2 ?_)
    exact W.ret (bad (.inr n2))
  have n2 := of_decide_eq_false h2
  have hn : ¬ (n < 0 ∨ n > 8) := by omega
  clear bad
  refine W.ite (fun hk => ?_) (fun hk => ?_)
  · have hk1 : k = 1 := by simpa using hk
    have out : (num < mn ∨ num > mx ∨ mn < -2147483648 ∨ mx > 2147483648) → ∀ {σ : Store}, RetQ ([] : Store).length (fun v s' => v = .d (nI (cellV k mn mx num s n)) ∧ s' = []) .ret [(0, mkRet [.d (nI (-1))])] σ := fun h σ => by
      refine RetQ.pure rfl ?_
      unfold cellV
      rw [if_neg hn, if_pos hk1, if_pos h]
      rfl
    refine W.ite (fun c1 => ?_) (fun c1 => ?_)
    · repeat (first | refine W.ite_t rfl ?_ | refine W.ite_f rfl ?_ | refine W.ite_t c1 ?_)
      exact W.ret (out (.inl (of_decide_eq_true c1)))
    repeat (first | refine W.ite_t rfl ?_ | refine W.ite_f rfl ?_ | refine W.ite_f c1 ?_)
    refine W.ite (fun c2 => ?_) (fun c2 => ?_)
    · repeat (first | refine W.ite_t rfl ?_ | refine W.ite_f rfl ?_ | refine W.ite_t c2 ?_ | refine W.ite_f c1 ?_)
      exact W.ret (out (.inr (.inl (of_decide_eq_true c2))))
    repeat (first | refine W.ite_t rfl ?_ | refine W.ite_f rfl ?_ | refine W.ite_f c1 ?_ | refine W.ite_f c2 ?_)
    refine W.ite (fun c3 => ?_) (fun c3 => ?_)
    · repeat (first | refine W.ite_t rfl ?_ | refine W.ite_f rfl ?_ | refine W.ite_t c3 ?_ | refine W.ite_f c1 ?_ | refine W.ite_f c2 ?_)
      exact W.ret (out (.inr (.inr (.inl (of_decide_eq_true c3)))))
    repeat (first | refine W.ite_t rfl ?_ | refine W.ite_f rfl ?_ | refine W.ite_f c1 ?_ | refine W.ite_f c2 ?_ | refine W.ite_f c3 ?_)
    refine W.ite (fun c4 => ?_) (fun c4 => ?_)
    · exact W.ret (out (.inr (.inr (.inr (of_decide_eq_true c4)))))
    have m1 := of_decide_eq_false c1
    have m2 := of_decide_eq_false c2
    have m3 := of_decide_eq_false c3
    have m4 := of_decide_eq_false c4
    refine W.need ?_ ?_
    · show 0 ≤ n
      omega
    have e1 : IntKind.i64.wrap (IntKind.i64.wrap (mx - mn) + 1) = mx - mn + 1 := by rw [wrap64 (n := _ - _) (by omega) (by omega), wrap64 (by omega) (by omega)]
    refine W.need ?_ ?_
    · show IntKind.i64.wrap (IntKind.i64.wrap (mx - mn) + 1) ≠ 0
      omega
    refine W.ret ?_
    refine RetQ.pure rfl ?_
    refine ret_nI ?_
    unfold cellV
    rw [if_neg hn, if_pos hk1, if_neg (by omega), e1, min64 (by omega), wrap64 (n := num - mn) (by omega) (by omega)]
    have hp := pow2_le (k := n.toNat) (by omega)
    have hb := mul_bound (a := num - mn) (p := 2 ^ n.toNat) (by omega) (by omega) (by omega) hp.2
    have hq := quo_bound (a := num - mn) (d := mx - mn + 1) (p := 2 ^ n.toNat) (by omega) (by omega) (by omega) (by omega)
    rw [wrap64 (n := (num - mn) * _) (by omega) (by omega), Int.tdiv_eq_ediv_of_nonneg hb.1, wrap64 (by omega) (by omega)]
  · have hk1 : ¬ k = 1 := by simpa using hk
    refine W.loop (fun m fr σ => ∃ i : Nat, fr = [(2, .d (nI n)), (4, .ptr 1 0), (7, .d (nI (preI s i))), (54, .d (nI i))] ∧ σ = [.var [.d (sD nm), .d (nI k), .d (nI mn), .d (nI mx)], .var [.d (nI num), .d (sD s)]] ∧ i ≤ 2 ∧ m = 2 - i) 2
      (Start.of [2, 4, 7, 54] [] (by simp)) ⟨0, rfl, rfl, by omega, rfl⟩ ?_
    rintro m fr σ ⟨i, rfl, rfl, hi, rfl⟩
    refine W.ite (fun c1 => ?_) (fun c1 => ?_)
    · have hi2 : i < 2 := by have : (i : Int) < 2 := (by simpa using c1); omega
      refine W.need ?_ ?_
      · show (0 : Int) ≤ 8
        omega
      have g1 : IntKind.i64.wrap ((i : Int) + 1) = ((i + 1 : Nat) : Int) := by rw [wrap64 (by omega) (by omega)]; rfl
      have hpl := preI_le s i hi2
      have hst := preI_step s hi2
      have e8 : IntKind.i64.wrap (preI s i * 2 ^ min (8 : Int).toNat IntKind.i64.bits) = preI s i * 256 := by
        rw [min64 (by decide), show ((2 : Int) ^ (8 : Int).toNat) = 256 from rfl, wrap64 (by omega) (by omega)]
      refine W.ite (fun c2 => ?_) (fun c2 => ?_)
      · have hs : i < s.size := by have := of_decide_eq_true c2; omega
        refine W.need ?_ ?_
        · show (0 : Int) ≤ i ∧ (i : Int) < s.size
          omega
        refine W.ret ⟨_, _, _, ?_, Trim.of [2, 4, 7, 54] [0, 1] (by decide) (by simp) (by intro j hj; have : j = 0 ∨ j = 1 := (by simp at hj; omega); rcases this with rfl | rfl <;> rfl), i + 1, ?_, rfl, by omega, rfl⟩
        · omega
        · have hb := (s.data.getD i 0).toNat_lt
          have hbI : byteI s i = ((s.data.getD i 0).toNat : Int) := by unfold byteI; rw [if_pos hs]
          obtain ⟨x, hx⟩ : ∃ x : Nat, preI s i = x := ⟨(preI s i).toNat, by omega⟩
          have g2 : IntKind.i64.wrap ((BitVec.ofInt IntKind.i64.bits (IntKind.i64.wrap (preI s i * 2 ^ min (8 : Int).toNat IntKind.i64.bits)) ||| BitVec.ofInt IntKind.i64.bits (IntKind.i64.wrap ((s.data.getD i 0).toNat : Int))).toNat : Nat) = preI s (i + 1) := by
            rw [e8, wrap64 (n := ((s.data.getD i 0).toNat : Int)) (by omega) (by omega), bits64, hx, show ((x : Int) * 256) = ((x * 256 : Nat) : Int) from by simp, or_low x _ (by omega) (by omega), wrap64 (by omega) (by omega), hst, hx, hbI]
            simp
          rw [← g1, ← g2]
          rfl
      · have hs : ¬ i < s.size := by have := of_decide_eq_false c2; omega
        refine W.ret ⟨_, _, _, ?_, Trim.of [2, 4, 7, 54] [0, 1] (by decide) (by simp) (by intro j hj; have : j = 0 ∨ j = 1 := (by simp at hj; omega); rcases this with rfl | rfl <;> rfl), i + 1, ?_, rfl, by omega, rfl⟩
        · omega
        · have hbI : byteI s i = 0 := by unfold byteI; rw [if_neg hs]
          have g2 : IntKind.i64.wrap (preI s i * 2 ^ min (8 : Int).toNat IntKind.i64.bits) = preI s (i + 1) := by
            rw [e8, hst, hbI]; omega
          rw [← g1, ← g2]
          rfl
    · have hi2 : i = 2 := by have : ¬ (i : Int) < 2 := (by simpa using c1); omega
      subst hi2
      have e1 : IntKind.i64.wrap (16 - n) = 16 - n := wrap64 (by omega) (by omega)
      refine W.ret ?_
      refine W.need ?_ ?_
      · show 0 ≤ IntKind.i64.wrap (16 - n)
        omega
      refine W.ret ?_
      refine RetQ.pure rfl ?_
      refine ret_nI ?_
      unfold cellV
      rw [if_neg hn, if_neg hk1, e1, min64 (by omega), Int.fdiv_eq_ediv_of_nonneg _ (Int.le_of_lt (Int.pow_pos (by omega)))]
end Go.Proofs.YtbjjimllnffcpaaGreatDoor.Dy

set_option maxRecDepth 100000
set_option linter.unusedVariables false
set_option linter.unusedSimpArgs false
namespace Go.Proofs.YtbjjimllnffcpaaGreatDoor.Dy
open Go Go.Am
theorem ok48w (n : Int) (h0 : 0 ≤ n) (h16 : n ≤ 16) : Go.Am.Pure Tryz.prog 48 [.d (nI n)] (.d (nI (2 ^ n.toNat))) := by
  refine CallOk.of tysOk mixed [] Tryz.func48 rfl rfl code48 ?_
  refine W.loop (fun k fr σ => ∃ (i : Nat), fr = [(0, .d (nI n)), (3, .d (nI (2 ^ i))), (4, .d (nI i))] ∧ σ = [] ∧ i ≤ n.toNat ∧ k = n.toNat - i) n.toNat
    (Start.of [0, 3, 4] [] (by simp)) ⟨0, rfl, rfl, by omega, rfl⟩ ?_
  rintro k fr σ ⟨i, rfl, rfl, hi, rfl⟩
  refine W.ite (fun h => ?_) (fun h => ?_)
  · have hlt : (i : Int) < n := by simpa using h
    have hp := pow2_le16 (k := i) (by omega)
    refine W.ret ⟨_, _, _, ?_, Trim.of [0, 3, 4] [] (by decide) (by simp) (by simp), i + 1, ?_, rfl, by omega, rfl⟩
    · omega
    · have g1 : IntKind.i64.wrap ((i : Int) + 1) = ((i + 1 : Nat) : Int) := by rw [wrap64 (by omega) (by omega)]; rfl
      have g2 : IntKind.i64.wrap (2 * 2 ^ i) = 2 ^ (i + 1) := by rw [wrap64 (by omega) (by omega), Int.pow_succ]; omega
      rw [← g1, ← g2]; rfl
  · have hlt : i = n.toNat := by have : ¬ (i : Int) < n := (by simpa using h); omega
    subst hlt
    refine W.ret (W.ret ?_)
    exact RetQ.pure rfl rfl
def od40 : Ords := [(6, [0, 1, 2, 3, 4, 5, 8, 9, 10, 11, 12, 13, 6, 7, 14, 15])]
theorem code40 : codeB Tryz.f40.ntmps od40 (match Tryz.f40.body with | some c => c | none => .skip) = true := by kernel_rfl
set_option maxHeartbeats 4000000 in
theorem ok40 (nm : ByteArray) (k mn mx num : Int) (s : ByteArray) (n : Int) : Go.Am.Pure Tryz.prog 40 [atD nm k mn mx, vaD num s, .d (nI n)] (.d (nI (cellV k mn mx num s n))) := by
  refine CallOk.of tysCOk mixed od40 Tryz.func40 rfl rfl code40 ?_
  have bad : (n < 0 ∨ n > 8) → ∀ {σ : Store}, RetQ ([] : Store).length (fun v s' => v = .d (nI (cellV k mn mx num s n)) ∧ s' = []) .ret [(0, mkRet [.d (nI (-1))])] σ := fun h σ => by
    refine RetQ.pure rfl ?_
    unfold cellV
    rw [if_pos h]
    rfl
  refine W.ite (fun h1 => ?_) (fun h1 => ?_)
  · have n1 := of_decide_eq_true h1
    repeat (first | refine W.ite_t rfl ?_ | refine W.ite_f rfl ?_ | refine W.ite_t h1 ?_)
    exact W.ret (bad (.inl n1))
  have n1 := of_decide_eq_false h1
  repeat (first | refine W.ite_t rfl ?_ | refine W.ite_f rfl ?_ | refine W.ite_f h1 ?_)
  refine W.ite (fun h2 => ?_) (fun h2 => ?_)
  · have n2 := of_decide_eq_true h2
    repeat (first | refine W.ite_t rfl ?_ | refine W.ite_f rfl ?_ | refine W.ite_t h2 ?_)
    exact W.ret (bad (.inr n2))
  have n2 := of_decide_eq_false h2
  have hn : ¬ (n < 0 ∨ n > 8) := by omega
  clear bad
  refine W.ite (fun hk => ?_) (fun hk => ?_)
  · have hk1 : k = 1 := by simpa using hk
    have out : (num < mn ∨ num > mx ∨ mn < -2147483648 ∨ mx > 2147483648) → ∀ {σ : Store}, RetQ ([] : Store).length (fun v s' => v = .d (nI (cellV k mn mx num s n)) ∧ s' = []) .ret [(0, mkRet [.d (nI (-1))])] σ := fun h σ => by
      refine RetQ.pure rfl ?_
      unfold cellV
      rw [if_neg hn, if_pos hk1, if_pos h]
      rfl
    refine W.ite (fun c1 => ?_) (fun c1 => ?_)
    · repeat (first | refine W.ite_t rfl ?_ | refine W.ite_f rfl ?_ | refine W.ite_t c1 ?_)
      exact W.ret (out (.inl (of_decide_eq_true c1)))
    repeat (first | refine W.ite_t rfl ?_ | refine W.ite_f rfl ?_ | refine W.ite_f c1 ?_)
    refine W.ite (fun c2 => ?_) (fun c2 => ?_)
    · repeat (first | refine W.ite_t rfl ?_ | refine W.ite_f rfl ?_ | refine W.ite_t c2 ?_ | refine W.ite_f c1 ?_)
      exact W.ret (out (.inr (.inl (of_decide_eq_true c2))))
    repeat (first | refine W.ite_t rfl ?_ | refine W.ite_f rfl ?_ | refine W.ite_f c1 ?_ | refine W.ite_f c2 ?_)
    refine W.ite (fun c3 => ?_) (fun c3 => ?_)
    · repeat (first | refine W.ite_t rfl ?_ | refine W.ite_f rfl ?_ | refine W.ite_t c3 ?_ | refine W.ite_f c1 ?_ | refine W.ite_f c2 ?_)
      exact W.ret (out (.inr (.inr (.inl (of_decide_eq_true c3)))))
    repeat (first | refine W.ite_t rfl ?_ | refine W.ite_f rfl ?_ | refine W.ite_f c1 ?_ | refine W.ite_f c2 ?_ | refine W.ite_f c3 ?_)
    refine W.ite (fun c4 => ?_) (fun c4 => ?_)
    · exact W.ret (out (.inr (.inr (.inr (of_decide_eq_true c4)))))
    have m1 := of_decide_eq_false c1
    have m2 := of_decide_eq_false c2
    have m3 := of_decide_eq_false c3
    have m4 := of_decide_eq_false c4
    refine W.pure (ok48w n (by omega) (by omega)) rfl rfl ?_
    have e1 : IntKind.i64.wrap (IntKind.i64.wrap (mx - mn) + 1) = mx - mn + 1 := by rw [wrap64 (n := _ - _) (by omega) (by omega), wrap64 (by omega) (by omega)]
    refine W.need ?_ ?_
    · show IntKind.i64.wrap (IntKind.i64.wrap (mx - mn) + 1) ≠ 0
      omega
    refine W.ret ?_
    refine RetQ.pure rfl ?_
    refine ret_nI ?_
    unfold cellV
    rw [if_neg hn, if_pos hk1, if_neg (by omega), e1, wrap64 (n := num - mn) (by omega) (by omega)]
    have hp := pow2_le (k := n.toNat) (by omega)
    have hb := mul_bound (a := num - mn) (p := 2 ^ n.toNat) (by omega) (by omega) (by omega) hp.2
    have hq := quo_bound (a := num - mn) (d := mx - mn + 1) (p := 2 ^ n.toNat) (by omega) (by omega) (by omega) (by omega)
    rw [wrap64 (n := (num - mn) * _) (by omega) (by omega), Int.tdiv_eq_ediv_of_nonneg hb.1, wrap64 (by omega) (by omega)]
  · have hk1 : ¬ k = 1 := by simpa using hk
    have b0 := byteI_le s 0
    have b1 := byteI_le s 1
    have hp2 := preI_le2 s 2
    have hpre : preI s 2 = 256 * byteI s 0 + byteI s 1 := by simp [preI]
    have e1 : IntKind.i64.wrap (16 - n) = 16 - n := wrap64 (by omega) (by omega)
    have fin : ∀ {σ : Store} {x : Int}, x = preI s 2 → RetQ ([] : Store).length (fun v s' => v = .d (nI (cellV k mn mx num s n)) ∧ s' = []) .ret [(0, mkRet [.d (nI (IntKind.i64.wrap (x.tdiv (2 ^ (IntKind.i64.wrap (16 - n)).toNat))))])] σ := fun {σ x} hx => by
      refine RetQ.pure rfl (ret_nI ?_)
      unfold cellV
      have hpp := pow2_le16 (k := (16 - n).toNat) (by omega)
      have h1 : 0 ≤ preI s 2 / 2 ^ (16 - n).toNat := Int.ediv_nonneg (by omega) (by omega)
      have h2 : preI s 2 / 2 ^ (16 - n).toNat ≤ preI s 2 := Int.ediv_le_self _ (by omega)
      rw [if_neg hn, if_neg hk1, e1, hx, Int.tdiv_eq_ediv_of_nonneg hp2.1, wrap64 (by omega) (by omega)]
    have hpw := ok48w (IntKind.i64.wrap (16 - n)) (by omega) (by omega)
    have hpp := pow2_le16 (k := (16 - n).toNat) (by omega)
    refine W.ite (fun c1 => ?_) (fun c1 => ?_)
    · have hs : 0 < s.size := by have := of_decide_eq_true c1; omega
      refine W.need ?_ ?_
      · show (0 : Int) ≤ 0 ∧ (0 : Int) < s.size
        omega
      have hb0 : byteI s 0 = ((s.data.getD 0 0).toNat : Int) := by unfold byteI; rw [if_pos hs]
      refine W.ite (fun c2 => ?_) (fun c2 => ?_)
      · have hs1 : 1 < s.size := by have := of_decide_eq_true c2; omega
        refine W.need ?_ ?_
        · show (0 : Int) ≤ 1 ∧ (1 : Int) < s.size
          omega
        have hb1 : byteI s 1 = ((s.data.getD 1 0).toNat : Int) := by unfold byteI; rw [if_pos hs1]
        refine W.pure hpw rfl rfl ?_
        refine W.need ?_ ?_
        · show (2 : Int) ^ (IntKind.i64.wrap (16 - n)).toNat ≠ 0
          rw [e1]; omega
        refine W.ret ?_
        refine fin (x := IntKind.i64.wrap (IntKind.i64.wrap (0 + IntKind.i64.wrap (256 * IntKind.i64.wrap ((s.data.getD 0 0).toNat : Int))) + IntKind.i64.wrap ((s.data.getD 1 0).toNat : Int))) ?_
        rw [← hb0, ← hb1, wrap64 (n := byteI s 0) (by omega) (by omega), wrap64 (n := 256 * _) (by omega) (by omega), wrap64 (n := 0 + _) (by omega) (by omega), wrap64 (n := byteI s 1) (by omega) (by omega), wrap64 (by omega) (by omega), hpre]
        omega
      · have hs1 : ¬ 1 < s.size := by have := of_decide_eq_false c2; omega
        have hb1 : byteI s 1 = 0 := by unfold byteI; rw [if_neg hs1]
        refine W.pure hpw rfl rfl ?_
        refine W.need ?_ ?_
        · show (2 : Int) ^ (IntKind.i64.wrap (16 - n)).toNat ≠ 0
          rw [e1]; omega
        refine W.ret ?_
        refine fin (x := IntKind.i64.wrap (0 + IntKind.i64.wrap (256 * IntKind.i64.wrap ((s.data.getD 0 0).toNat : Int)))) ?_
        rw [← hb0, wrap64 (n := byteI s 0) (by omega) (by omega), wrap64 (n := 256 * _) (by omega) (by omega), wrap64 (n := 0 + _) (by omega) (by omega), hpre]
        omega
    · have hs : ¬ 0 < s.size := by have := of_decide_eq_false c1; omega
      have hb0 : byteI s 0 = 0 := by unfold byteI; rw [if_neg hs]
      have hb1 : byteI s 1 = 0 := by unfold byteI; rw [if_neg (by omega)]
      have c2 : decide ((s.size : Int) > 1) = false := decide_eq_false (by omega)
      refine W.ite_f c2 ?_
      refine W.pure hpw rfl rfl ?_
      refine W.need ?_ ?_
      · show (2 : Int) ^ (IntKind.i64.wrap (16 - n)).toNat ≠ 0
        rw [e1]; omega
      refine W.ret ?_
      refine fin (x := 0) ?_
      omega
end Go.Proofs.YtbjjimllnffcpaaGreatDoor.Dy

set_option maxRecDepth 100000
set_option linter.unusedVariables false
set_option linter.unusedSimpArgs false
namespace Go.Proofs.YtbjjimllnffcpaaGreatDoor.Dy
open Go Go.Am
/-- The cells of a predicate. -/
def ffS : ByteArray := ⟨#[255, 255]⟩
def rangeV (k mn mx o lo hi : Int) (s : ByteArray) (n : Int) : Int × Int :=
  if o = 1 then (cellV k mn mx lo ⟨#[]⟩ n, cellV k mn mx hi ⟨#[]⟩ n)
  else (cellV k mn mx 0 s n, if o = 2 then cellV k mn mx 0 s n else cellV k mn mx 0 (s ++ ffS) n)
abbrev pairI (p : Int × Int) : AV := .tuple [.d (nI p.1), .d (nI p.2)]
def od27 : Ords := [(3, [0, 1, 2, 3, 4, 6, 7, 8, 9, 10, 5, 1011, 12, 13]), (7, [0, 1, 2, 3, 4, 6, 7, 8, 9, 10, 11, 5, 1012, 13, 14])]
theorem code27 : codeB Tryz.f27.ntmps od27 (match Tryz.f27.body with | some c => c | none => .skip) = true := by kernel_rfl
def od31 : Ords := [(2, [0, 1, 2, 3, 4, 6, 7, 8, 9, 10, 5, 1011, 12, 13])]
theorem code31 : codeB Tryz.f31.ntmps od31 (match Tryz.f31.body with | some c => c | none => .skip) = true := by kernel_rfl
theorem ret_pair {a b : Int} {p : Int × Int} (h : (a, b) = p) : mkRet [.d (nI a), .d (nI b)] = pairI p := by subst h; rfl
set_option maxHeartbeats 4000000 in
theorem ok27 (nm : ByteArray) (k mn mx : Int) (pn : ByteArray) (o lo hi : Int) (s : ByteArray) (n : Int) (hs : s.size ≤ 60) : Go.Am.Pure Tryz.prog 27 [atD nm k mn mx, prD pn o lo hi s, .d (nI n)] (pairI (rangeV k mn mx o lo hi s n)) := by
  refine CallOk.of tysCOk mixed od27 Tryz.func27 rfl rfl code27 ?_
  refine W.ite (fun h1 => ?_) (fun h1 => ?_)
  · have n1 : o = 1 := by simpa using h1
    refine W.pure (ok37 nm k mn mx lo ⟨#[]⟩ n) rfl rfl ?_
    refine W.pure (ok37 nm k mn mx hi ⟨#[]⟩ n) rfl rfl ?_
    refine W.ret ?_
    refine RetQ.pure rfl (ret_pair ?_)
    unfold rangeV
    rw [if_pos n1]
  · have n1 : ¬ o = 1 := by simpa using h1
    refine W.ite (fun h2 => ?_) (fun h2 => ?_)
    · have n2 : o = 2 := by simpa using h2
      refine W.pure (ok37 nm k mn mx 0 s n) rfl rfl ?_
      refine W.ret ?_
      refine RetQ.pure rfl (ret_pair ?_)
      unfold rangeV
      rw [if_neg n1, if_pos n2]
    · have n2 : ¬ o = 2 := by simpa using h2
      refine W.need ?_ ?_
      · show ((s.size + 2 : Nat) : Int) ≤ 9223372036854775807
        omega
      refine W.pure (ok37 nm k mn mx 0 s n) rfl rfl ?_
      refine W.pure (ok37 nm k mn mx 0 (s ++ ffS) n) rfl rfl ?_
      refine W.ret ?_
      refine RetQ.pure rfl (ret_pair ?_)
      unfold rangeV
      rw [if_neg n1, if_neg n2]
set_option maxHeartbeats 4000000 in
theorem ok31 (nm : ByteArray) (k mn mx : Int) (pn : ByteArray) (o lo hi : Int) (s : ByteArray) (n : Int) (hs : s.size ≤ 60) : Go.Am.Pure Tryz.prog 31 [atD nm k mn mx, prD pn o lo hi s, .d (nI n)] (pairI (rangeV k mn mx o lo hi s n)) := by
  refine CallOk.of tysCOk mixed od31 Tryz.func31 rfl rfl code31 ?_
  refine W.ite (fun h1 => ?_) (fun h1 => ?_)
  · have n1 : o = 1 := by simpa using h1
    refine W.pure (ok40 nm k mn mx lo ⟨#[]⟩ n) rfl rfl ?_
    refine W.pure (ok40 nm k mn mx hi ⟨#[]⟩ n) rfl rfl ?_
    refine W.ret ?_
    refine RetQ.pure rfl (ret_pair ?_)
    unfold rangeV
    rw [if_pos n1]
  · have n1 : ¬ o = 1 := by simpa using h1
    refine W.pure (ok40 nm k mn mx 0 s n) rfl rfl ?_
    refine W.ite (fun h2 => ?_) (fun h2 => ?_)
    · have n2 : o = 2 := by simpa using h2
      refine W.ret ?_
      refine RetQ.pure rfl (ret_pair ?_)
      unfold rangeV
      rw [if_neg n1, if_pos n2]
    · have n2 : ¬ o = 2 := by simpa using h2
      refine W.need ?_ ?_
      · show ((s.size + 2 : Nat) : Int) ≤ 9223372036854775807
        omega
      refine W.pure (ok40 nm k mn mx 0 (s ++ ffS) n) rfl rfl ?_
      refine W.ret ?_
      refine RetQ.pure rfl (ret_pair ?_)
      unfold rangeV
      rw [if_neg n1, if_neg n2]
end Go.Proofs.YtbjjimllnffcpaaGreatDoor.Dy

set_option maxRecDepth 100000
set_option linter.unusedVariables false
set_option linter.unusedSimpArgs false
namespace Go.Proofs.YtbjjimllnffcpaaGreatDoor.Dy
open Go Go.Am Va
/-- The cell of a value of an attribute. -/
def cellA (a : Att) (v : Val) (n : Int) : Int := cellV a.k a.mn a.mx v.num v.str n
/-- An attribute in form. -/
def goodA (a : Att) : Prop := (a.k = 1 ∧ -2147483648 ≤ a.mn ∧ a.mx ≤ 2147483648 ∧ a.mn ≤ a.mx) ∨ (a.k = 2 ∧ a.mn = 0 ∧ a.mx = 0)
theorem chkFrom_none (s : List Att) : ∀ (r : List Att) (i : Nat), chkFrom s r i = none → ∀ a ∈ r, ∃ j, attBad s j a = false
  | [], _, _, a, h => by cases h
  | b :: r, i, h, a, ha => by
    unfold chkFrom at h
    split at h
    · cases h
    · rename_i hb
      rcases List.mem_cons.1 ha with rfl | ha
      · exact ⟨i, by simpa using hb⟩
      · exact chkFrom_none s r (i + 1) h a ha
theorem chk_good {s : List Att} (h : chkErr s = none) : ∀ a ∈ s, goodA a := fun a ha => by
  unfold chkErr at h
  split at h
  · cases h
  · obtain ⟨j, hj⟩ := chkFrom_none s s 0 h a ha
    unfold attBad at hj
    simp only [Bool.or_eq_false_iff] at hj
    obtain ⟨_, _, hj⟩ := hj
    by_cases hk : a.k = 1
    · rw [if_pos hk] at hj
      simp only [Bool.or_eq_false_iff, decide_eq_false_iff_not] at hj
      exact .inl ⟨hk, by omega, by omega, by omega⟩
    · rw [if_neg hk] at hj
      simp only [Bool.or_eq_false_iff, bne_eq_false_iff_eq] at hj
      exact .inr hj
theorem cellA_num {a : Att} {v : Val} {n : Int} (hk : a.k = 1) (h0 : 0 ≤ n) (h8 : n ≤ 8) (h1 : -2147483648 ≤ a.mn) (h2 : a.mx ≤ 2147483648) (h3 : a.mn ≤ v.num) (h4 : v.num ≤ a.mx) : cellA a v n = (v.num - a.mn) * 2 ^ n.toNat / (a.mx - a.mn + 1) := by
  unfold cellA cellV
  rw [if_neg (by omega), if_pos hk, if_neg (by omega)]
theorem cellA_txt {a : Att} {v : Val} {n : Int} (hk : a.k ≠ 1) (h0 : 0 ≤ n) (h8 : n ≤ 8) : cellA a v n = preI v.str 2 / 2 ^ (16 - n).toNat := by
  unfold cellA cellV
  rw [if_neg (by omega), if_neg hk]
theorem pow_split {n : Int} (h0 : 0 ≤ n) (h8 : n ≤ 8) : (65536 : Int) = 2 ^ n.toNat * 2 ^ (16 - n).toNat := by
  rw [← Int.pow_add]
  have : n.toNat + (16 - n).toNat = 16 := by omega
  rw [this]
  decide
theorem txt_range {x n : Int} (h0 : 0 ≤ n) (h8 : n ≤ 8) (hx : 0 ≤ x) (hx2 : x < 65536) : 0 ≤ x / 2 ^ (16 - n).toNat ∧ x / 2 ^ (16 - n).toNat < 2 ^ n.toNat := by
  have hp := pow2_le16 (k := (16 - n).toNat) (by omega)
  refine ⟨Int.ediv_nonneg hx (by omega), Int.ediv_lt_of_lt_mul (by omega) ?_⟩
  rw [← pow_split h0 h8]
  exact hx2
theorem mono_div {a b d : Int} (h : a ≤ b) (hd : 0 < d) : a / d ≤ b / d := Int.ediv_le_ediv hd h
/-- Bytes of a list. -/
def lb (l : List UInt8) (i : Nat) : Int := if i < l.length then ((l.getD i 0).toNat : Int) else 0
theorem byteI_lb (s : ByteArray) (i : Nat) : byteI s i = lb s.toList i := by
  rw [ByteArray.toList_eq]
  unfold byteI lb
  have h1 : s.data.toList.length = s.size := by simp
  rw [h1]
  have h2 : s.data.getD i 0 = s.data.toList.getD i 0 := by
    simp [Array.getD_eq_getD_getElem?, List.getD_eq_getElem?_getD]
  rw [h2]
theorem lb_le (l : List UInt8) (i : Nat) : 0 ≤ lb l i ∧ lb l i < 256 := by
  unfold lb
  split
  · have := (l.getD i 0).toNat_lt
    omega
  · omega
theorem less_pre : ∀ (x y : List UInt8), (Op.bytesLess x y || x == y) = true → 256 * lb x 0 + lb x 1 ≤ 256 * lb y 0 + lb y 1 := by
  intro x y h
  match x, y with
  | [], y =>
    have := lb_le y 0
    have := lb_le y 1
    simp [lb] at *
    omega
  | a :: x, [] => simp [Op.bytesLess] at h
  | a :: x, b :: y =>
    have ha : ∀ (c : UInt8) (z : List UInt8), lb (c :: z) 0 = (c.toNat : Int) := fun c z => by simp [lb]
    have hb : ∀ (c : UInt8) (z : List UInt8), lb (c :: z) 1 = lb z 0 := fun c z => by simp [lb]
    rw [ha, ha, hb, hb]
    have l1 := lb_le x 0
    have l2 := lb_le y 0
    simp only [Op.bytesLess, Bool.or_eq_true, Bool.and_eq_true, decide_eq_true_eq, beq_iff_eq, List.cons.injEq] at h
    rcases h with (h | ⟨rfl, h⟩) | ⟨rfl, rfl⟩
    · have : a.toNat < b.toNat := h
      omega
    · match x, y with
      | [], y => simp [lb] at *; omega
      | c :: x, [] => simp [Op.bytesLess] at h
      | c :: x, d :: y =>
        rw [ha, ha]
        simp only [Op.bytesLess, Bool.or_eq_true, Bool.and_eq_true, decide_eq_true_eq, beq_iff_eq] at h
        rcases h with h | ⟨rfl, h⟩
        · have : c.toNat < d.toNat := h
          omega
        · omega
    · omega
theorem preI_lb (s : ByteArray) : preI s 2 = 256 * lb s.toList 0 + lb s.toList 1 := by
  rw [← byteI_lb, ← byteI_lb]
  simp [preI]
/-- A greater value has no lesser cell. -/
theorem rises {a : Att} {v w : Val} {n : Int} (ha : goodA a) (h0 : 0 ≤ n) (h8 : n ≤ 8) (h1 : a.k = 1 → a.mn ≤ v.num ∧ w.num ≤ a.mx ∧ v.num ≤ w.num)
    (h2 : a.k = 2 → (Op.bytesLess v.str.toList w.str.toList || v.str.toList == w.str.toList) = true) : 0 ≤ cellA a v n ∧ cellA a v n ≤ cellA a w n ∧ cellA a w n < 2 ^ n.toNat := by
  have hp : (0 : Int) < 2 ^ n.toNat := Int.pow_pos (by omega)
  rcases ha with ⟨hk, k1, k2, k3⟩ | ⟨hk, _, _⟩
  · obtain ⟨e1, e2, e3⟩ := h1 hk
    rw [cellA_num hk h0 h8 k1 k2 e1 (by omega), cellA_num hk h0 h8 k1 k2 (by omega) e2]
    have q1 := quo_bound (a := v.num - a.mn) (d := a.mx - a.mn + 1) (p := 2 ^ n.toNat) (by omega) (by omega) hp (by omega)
    have q2 := quo_bound (a := w.num - a.mn) (d := a.mx - a.mn + 1) (p := 2 ^ n.toNat) (by omega) (by omega) hp (by omega)
    refine ⟨q1.1, mono_div (Int.mul_le_mul_of_nonneg_right (by omega) (by omega)) (by omega), q2.2⟩
  · rw [cellA_txt (by omega) h0 h8, cellA_txt (by omega) h0 h8]
    have b1 := preI_le2 v.str 2
    have b2 := preI_le2 w.str 2
    have hl := less_pre _ _ (h2 hk)
    rw [← preI_lb, ← preI_lb] at hl
    exact ⟨(txt_range h0 h8 b1.1 b1.2).1, mono_div hl (Int.pow_pos (by omega)), (txt_range h0 h8 b2.1 b2.2).2⟩
/-- With one level more a cell is one of the two halves. -/
theorem fine {a : Att} {v : Val} {n : Int} (ha : goodA a) (h0 : 0 ≤ n) (h7 : n ≤ 7) : (cellA a v n = -1 ∧ cellA a v (n + 1) = -1) ∨ (0 ≤ cellA a v n ∧ 0 ≤ cellA a v (n + 1) ∧ cellA a v (n + 1) < 256 ∧ cellA a v (n + 1) / 2 = cellA a v n) := by
  have hp : (0 : Int) < 2 ^ n.toNat := Int.pow_pos (by omega)
  have hp1 : (2 : Int) ^ (n + 1).toNat = 2 ^ n.toNat * 2 := by rw [show (n + 1).toNat = n.toNat + 1 from by omega, Int.pow_succ]
  have hp2 := pow2_le (k := (n + 1).toNat) (by omega)
  rcases ha with ⟨hk, k1, k2, k3⟩ | ⟨hk, _, _⟩
  · by_cases hr : a.mn ≤ v.num ∧ v.num ≤ a.mx
    · right
      rw [cellA_num hk h0 (by omega) k1 k2 hr.1 hr.2, cellA_num hk (by omega) (by omega) k1 k2 hr.1 hr.2]
      have q1 := quo_bound (a := v.num - a.mn) (d := a.mx - a.mn + 1) (p := 2 ^ n.toNat) (by omega) (by omega) hp (by omega)
      have q2 := quo_bound (a := v.num - a.mn) (d := a.mx - a.mn + 1) (p := 2 ^ (n + 1).toNat) (by omega) (by omega) (by omega) (by omega)
      refine ⟨q1.1, q2.1, by omega, ?_⟩
      rw [Int.ediv_ediv_of_nonneg (by omega), hp1, ← Int.mul_assoc, Int.mul_ediv_mul_of_pos_left _ _ (by omega)]
    · left
      refine ⟨?_, ?_⟩
      · unfold cellA cellV
        rw [if_neg (by omega), if_pos hk, if_pos (by omega)]
      · unfold cellA cellV
        rw [if_neg (by omega), if_pos hk, if_pos (by omega)]
  · right
    rw [cellA_txt (by omega) h0 (by omega), cellA_txt (by omega) (by omega) (by omega)]
    have b1 := preI_le2 v.str 2
    have r1 := txt_range (n := n) h0 (by omega) b1.1 b1.2
    have r2 := txt_range (n := n + 1) (by omega) (by omega) b1.1 b1.2
    refine ⟨r1.1, r2.1, by omega, ?_⟩
    rw [Int.ediv_ediv_of_nonneg (Int.le_of_lt (Int.pow_pos (by omega)))]
    congr 1
    rw [show (16 - n).toNat = (16 - (n + 1)).toNat + 1 from by omega, Int.pow_succ]
end Go.Proofs.YtbjjimllnffcpaaGreatDoor.Dy

set_option maxRecDepth 100000
set_option linter.unusedVariables false
set_option linter.unusedSimpArgs false
namespace Go.Proofs.YtbjjimllnffcpaaGreatDoor.Dy
open Go Go.Am Va
theorem ok37' (a : Att) (v : Val) (n : Int) : Go.Am.Pure Tryz.prog 37 [.d (.agg (atC a)), .d (.agg (vaC v)), .d (Dy.nI n)] (.d (Dy.nI (cellA a v n))) := ok37 a.nm a.k a.mn a.mx v.num v.str n
end Go.Proofs.YtbjjimllnffcpaaGreatDoor.Dy

set_option maxRecDepth 100000
set_option linter.unusedVariables false
set_option linter.unusedSimpArgs false
namespace Go.Proofs.YtbjjimllnffcpaaGreatDoor.Dy
open Go Go.Am Va
theorem lb_cons0 (c : UInt8) (z : List UInt8) : lb (c :: z) 0 = (c.toNat : Int) := by simp [lb]
theorem lb_cons1 (c : UInt8) (z : List UInt8) : lb (c :: z) 1 = lb z 0 := by simp [lb]
theorem pref_pre {t r : List UInt8} (h : t ≠ []) : 256 * lb t 0 + lb t 1 ≤ 256 * lb (t ++ r) 0 + lb (t ++ r) 1 ∧ 256 * lb (t ++ r) 0 + lb (t ++ r) 1 ≤ 256 * lb (t ++ [255, 255]) 0 + lb (t ++ [255, 255]) 1 := by
  match t, h with
  | [a], _ =>
    have := lb_le r 0
    have e : lb ([] : List UInt8) 0 = 0 := rfl
    simp only [List.cons_append, List.nil_append, lb_cons0, lb_cons1, e]
    have : ((255 : UInt8).toNat : Int) = 255 := rfl
    omega
  | a :: b :: t, _ =>
    simp only [List.cons_append, lb_cons0, lb_cons1]
    omega
theorem toList_append (s t : ByteArray) : (s ++ t).toList = s.toList ++ t.toList := by
  rw [ByteArray.toList_eq, ByteArray.toList_eq, ByteArray.toList_eq, ByteArray.data_append, Array.toList_append]
theorem toList_take (s : ByteArray) (n : Nat) : (s.extract 0 n).toList = s.toList.take n := by
  rw [ByteArray.toList_eq, ByteArray.toList_eq, ByteArray.data_extract]
  simp
theorem pref_list {s t : ByteArray} (h : prefOk s t = true) : ∃ r, s.toList = t.toList ++ r := by
  unfold prefOk at h
  simp only [Bool.and_eq_true, beq_iff_eq] at h
  refine ⟨s.toList.drop t.size, ?_⟩
  rw [← h.2, toList_take, List.take_append_drop]
theorem pref_cells {s t : ByteArray} (h : prefOk s t = true) (h0 : sEq t (txt []) = false) : preI t 2 ≤ preI s 2 ∧ preI s 2 ≤ preI (t ++ ffS) 2 := by
  obtain ⟨r, hr⟩ := pref_list h
  have hne : t.toList ≠ [] := fun e => by
    unfold sEq at h0
    rw [e] at h0
    rw [ByteArray.toList_eq] at h0
    simp [txt] at h0
  have := pref_pre (r := r) hne
  rw [preI_lb, preI_lb, preI_lb, hr, toList_append]
  have e : ffS.toList = [255, 255] := by rw [ByteArray.toList_eq]; rfl
  rw [e]
  exact this
theorem seq_pre {s t : ByteArray} (h : sEq s t = true) : preI s 2 = preI t 2 := by
  unfold sEq at h
  rw [preI_lb, preI_lb, eq_of_beq h]
/-- A value that a predicate takes has a cell within its range. -/
theorem in_range {a : Att} {q : Prd} {v : Val} {n : Int} (h0 : 0 ≤ n) (h8 : n ≤ 8) (hga : goodA a) (ho : prdOk a q = true) (ht : takeV q v = true) :
    0 ≤ (rangeV a.k a.mn a.mx q.o q.lo q.hi q.str n).1 ∧ (rangeV a.k a.mn a.mx q.o q.lo q.hi q.str n).1 ≤ cellA a v n ∧ cellA a v n ≤ (rangeV a.k a.mn a.mx q.o q.lo q.hi q.str n).2 ∧ (rangeV a.k a.mn a.mx q.o q.lo q.hi q.str n).2 < 2 ^ n.toNat := by
  unfold prdOk at ho
  unfold takeV at ht
  unfold rangeV
  by_cases h1 : q.o = 1
  · rw [if_pos h1] at ho ht ⊢
    unfold numOk at ho
    simp only [Bool.and_eq_true, beq_iff_eq, decide_eq_true_eq] at ho ht
    obtain ⟨⟨⟨⟨k1, k2⟩, k3⟩, k4⟩, _⟩ := ho
    have r1 := rises (a := a) (v := ⟨q.lo, txt []⟩) (w := v) hga h0 h8 (fun _ => ⟨by show a.mn ≤ q.lo; omega, by omega, by show q.lo ≤ v.num; omega⟩) (fun h => by omega)
    have r2 := rises (a := a) (v := v) (w := ⟨q.hi, txt []⟩) hga h0 h8 (fun _ => ⟨by omega, by show q.hi ≤ a.mx; omega, by show v.num ≤ q.hi; omega⟩) (fun h => by omega)
    exact ⟨r1.1, r1.2.1, r2.2.1, r2.2.2⟩
  · rw [if_neg h1] at ho ht ⊢
    have hk : textOk a q = true → a.k ≠ 1 := fun h => by
      unfold textOk at h
      simp only [Bool.and_eq_true, beq_iff_eq] at h
      omega
    by_cases h2 : q.o = 2
    · rw [if_neg (by omega), if_pos h2] at ho
      rw [if_pos h2] at ht
      have hk := hk ho
      have hs := seq_pre ht
      have b := preI_le2 q.str 2
      have e : cellV a.k a.mn a.mx 0 q.str n = preI q.str 2 / 2 ^ (16 - n).toNat := cellA_txt (a := a) (v := ⟨0, q.str⟩) hk h0 h8
      rw [if_pos h2, e, cellA_txt hk h0 h8, hs]
      have := txt_range (n := n) h0 h8 b.1 b.2
      exact ⟨this.1, Int.le_refl _, Int.le_refl _, this.2⟩
    · rw [if_neg h2] at ht
      by_cases h3 : q.o = 3
      · rw [if_pos h3] at ho
        cases hz : sEq q.str (txt []) with
        | true => rw [hz] at ho; cases ho
        | false =>
          rw [hz] at ho
          have hk := hk ho
          obtain ⟨p1, p2⟩ := pref_cells ht hz
          have b := preI_le2 q.str 2
          have b' := preI_le2 (q.str ++ ffS) 2
          have e : cellV a.k a.mn a.mx 0 q.str n = preI q.str 2 / 2 ^ (16 - n).toNat := cellA_txt (a := a) (v := ⟨0, q.str⟩) hk h0 h8
          have e' : cellV a.k a.mn a.mx 0 (q.str ++ ffS) n = preI (q.str ++ ffS) 2 / 2 ^ (16 - n).toNat := cellA_txt (a := a) (v := ⟨0, q.str ++ ffS⟩) hk h0 h8
          have hpp : (0 : Int) < 2 ^ (16 - n).toNat := Int.pow_pos (by omega)
          rw [if_neg h2, e, e', cellA_txt hk h0 h8]
          exact ⟨(txt_range (n := n) h0 h8 b.1 b.2).1, mono_div p1 hpp, mono_div p2 hpp, (txt_range (n := n) h0 h8 b'.1 b'.2).2⟩
      · rw [if_neg h3, if_neg h2] at ho
        cases ho
theorem prd_small {a : Att} {q : Prd} (ho : prdOk a q = true) : q.str.size ≤ 60 := by
  have ht : textOk a q = true → q.str.size ≤ 60 := fun h => by
    unfold textOk strOk at h
    simp only [Bool.and_eq_true, decide_eq_true_eq] at h
    omega
  unfold prdOk at ho
  split at ho
  · unfold numOk sEq at ho
    simp only [Bool.and_eq_true, beq_iff_eq] at ho
    have := ho.2
    rw [ByteArray.toList_eq, ByteArray.toList_eq] at this
    have h2 : q.str.data.toList.length = 0 := by rw [this]; rfl
    have h3 : q.str.size = q.str.data.toList.length := by simp
    omega
  · split at ho
    · split at ho
      · cases ho
      · exact ht ho
    · split at ho
      · exact ht ho
      · cases ho
theorem ok27' (a : Att) (q : Prd) (n : Int) (hs : q.str.size ≤ 60) : Go.Am.Pure Tryz.prog 27 [.d (.agg (atC a)), .d (.agg (prC q)), .d (Dy.nI n)] (pairI (rangeV a.k a.mn a.mx q.o q.lo q.hi q.str n)) := ok27 a.nm a.k a.mn a.mx q.nm q.o q.lo q.hi q.str n hs
end Go.Proofs.YtbjjimllnffcpaaGreatDoor.Dy
