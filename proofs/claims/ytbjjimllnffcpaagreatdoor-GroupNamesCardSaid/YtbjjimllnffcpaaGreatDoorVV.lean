import Derived.Test.YtbjjimllnffcpaaGreatDoorAm22
import Derived.Test.YtbjjimllnffcpaaGreatDoorProg
set_option maxRecDepth 100000
set_option linter.unusedVariables false
set_option linter.unusedSimpArgs false
namespace Go.Proofs.YtbjjimllnffcpaaGreatDoor.Va
open Go Go.Am
def tys : Tys := [(3, ⟨.scalar, false, 1, [.int .i64 0], [.int .i64], false, 0⟩), (9, ⟨.str, false, 1, [.string ⟨#[]⟩], [.str], false, 0⟩), (5, ⟨.scalar, false, 1, [.int .u8 0], [.int .u8], false, 0⟩), (66, ⟨.scalar, false, 1, [.int .u64 0], [.int .u64], false, 0⟩), (73, ⟨.struct [(0, 9), (1, 3), (2, 3), (3, 3)], true, 4, [.string ⟨#[]⟩, .int .i64 0, .int .i64 0, .int .i64 0], [.str, .int .i64, .int .i64, .int .i64], true, 0⟩), (74, ⟨.struct [(0, 9), (1, 3), (2, 3), (3, 3)], true, 4, [.string ⟨#[]⟩, .int .i64 0, .int .i64 0, .int .i64 0], [.str, .int .i64, .int .i64, .int .i64], true, 0⟩), (192, ⟨.scalar, false, 1, [.int .u32 0], [.int .u32], false, 0⟩), (61, ⟨.struct [(0, 3), (1, 3)], true, 2, [.int .i64 0, .int .i64 0], [.int .i64, .int .i64], true, 0⟩), (76, ⟨.struct [(0, 9), (1, 3), (2, 3), (3, 3), (4, 9)], true, 5, [.string ⟨#[]⟩, .int .i64 0, .int .i64 0, .int .i64 0, .string ⟨#[]⟩], [.str, .int .i64, .int .i64, .int .i64, .str], true, 0⟩), (21, ⟨.scalar, false, 1, [.int .i32 0], [.int .i32], false, 0⟩), (57, ⟨.struct [(0, 3), (1, 3)], true, 2, [.int .i64 0, .int .i64 0], [.int .i64, .int .i64], true, 0⟩), (77, ⟨.struct [(0, 9), (1, 3), (2, 3), (3, 3), (4, 9)], true, 5, [.string ⟨#[]⟩, .int .i64 0, .int .i64 0, .int .i64 0, .string ⟨#[]⟩], [.str, .int .i64, .int .i64, .int .i64, .str], true, 0⟩), (142, ⟨.slice 5 1 1 true, false, 1, [.slice none 0 0], [.other], false, 0⟩), (44, ⟨.slice 9 1 16 false, false, 1, [.slice none 0 0], [.other], false, 0⟩), (23, ⟨.slice 73 4 40 false, false, 1, [.slice none 0 0], [.other], false, 0⟩), (79, ⟨.struct [(0, 3), (1, 9)], true, 2, [.int .i64 0, .string ⟨#[]⟩], [.int .i64, .str], true, 0⟩), (29, ⟨.slice 74 4 40 false, false, 1, [.slice none 0 0], [.other], false, 0⟩), (80, ⟨.struct [(0, 3), (1, 9)], true, 2, [.int .i64 0, .string ⟨#[]⟩], [.int .i64, .str], true, 0⟩), (32, ⟨.slice 77 5 56 false, false, 1, [.slice none 0 0], [.other], false, 0⟩), (25, ⟨.slice 76 5 56 false, false, 1, [.slice none 0 0], [.other], false, 0⟩), (28, ⟨.struct [(0, 26), (1, 9)], true, 2, [.slice none 0 0, .string ⟨#[]⟩], [.other, .str], true, 0⟩), (26, ⟨.slice 79 2 24 false, false, 1, [.slice none 0 0], [.other], false, 0⟩), (39, ⟨.iface, false, 1, [.nilIface], [.other], false, 0⟩), (91, ⟨.slice 61 2 16 false, false, 1, [.slice none 0 0], [.other], false, 0⟩), (198, ⟨.struct [(0, 5), (1, 5)], true, 2, [.int .u8 0, .int .u8 0], [.int .u8, .int .u8], true, 0⟩), (89, ⟨.slice 57 2 16 false, false, 1, [.slice none 0 0], [.other], false, 0⟩), (163, ⟨.scalar, false, 1, [.int .i64 0], [.int .i64], false, 0⟩), (193, ⟨.array 65 5 1, true, 65, [.int .u8 0, .int .u8 0, .int .u8 0, .int .u8 0, .int .u8 0, .int .u8 0, .int .u8 0, .int .u8 0, .int .u8 0, .int .u8 0, .int .u8 0, .int .u8 0, .int .u8 0, .int .u8 0, .int .u8 0, .int .u8 0, .int .u8 0, .int .u8 0, .int .u8 0, .int .u8 0, .int .u8 0, .int .u8 0, .int .u8 0, .int .u8 0, .int .u8 0, .int .u8 0, .int .u8 0, .int .u8 0, .int .u8 0, .int .u8 0, .int .u8 0, .int .u8 0, .int .u8 0, .int .u8 0, .int .u8 0, .int .u8 0, .int .u8 0, .int .u8 0, .int .u8 0, .int .u8 0, .int .u8 0, .int .u8 0, .int .u8 0, .int .u8 0, .int .u8 0, .int .u8 0, .int .u8 0, .int .u8 0, .int .u8 0, .int .u8 0, .int .u8 0, .int .u8 0, .int .u8 0, .int .u8 0, .int .u8 0, .int .u8 0, .int .u8 0, .int .u8 0, .int .u8 0, .int .u8 0, .int .u8 0, .int .u8 0, .int .u8 0, .int .u8 0, .int .u8 0], [.int .u8, .int .u8, .int .u8, .int .u8, .int .u8, .int .u8, .int .u8, .int .u8, .int .u8, .int .u8, .int .u8, .int .u8, .int .u8, .int .u8, .int .u8, .int .u8, .int .u8, .int .u8, .int .u8, .int .u8, .int .u8, .int .u8, .int .u8, .int .u8, .int .u8, .int .u8, .int .u8, .int .u8, .int .u8, .int .u8, .int .u8, .int .u8, .int .u8, .int .u8, .int .u8, .int .u8, .int .u8, .int .u8, .int .u8, .int .u8, .int .u8, .int .u8, .int .u8, .int .u8, .int .u8, .int .u8, .int .u8, .int .u8, .int .u8, .int .u8, .int .u8, .int .u8, .int .u8, .int .u8, .int .u8, .int .u8, .int .u8, .int .u8, .int .u8, .int .u8, .int .u8, .int .u8, .int .u8, .int .u8, .int .u8], true, 0⟩), (2, ⟨.scalar, false, 1, [.int .i64 0], [.int .i64], false, 0⟩), (123, ⟨.scalar, false, 1, [.int .u64 0], [.int .u64], false, 0⟩), (35, ⟨.slice 80 2 24 false, false, 1, [.slice none 0 0], [.other], false, 0⟩), (180, ⟨.array 24 5 1, true, 24, [.int .u8 0, .int .u8 0, .int .u8 0, .int .u8 0, .int .u8 0, .int .u8 0, .int .u8 0, .int .u8 0, .int .u8 0, .int .u8 0, .int .u8 0, .int .u8 0, .int .u8 0, .int .u8 0, .int .u8 0, .int .u8 0, .int .u8 0, .int .u8 0, .int .u8 0, .int .u8 0, .int .u8 0, .int .u8 0, .int .u8 0, .int .u8 0], [.int .u8, .int .u8, .int .u8, .int .u8, .int .u8, .int .u8, .int .u8, .int .u8, .int .u8, .int .u8, .int .u8, .int .u8, .int .u8, .int .u8, .int .u8, .int .u8, .int .u8, .int .u8, .int .u8, .int .u8, .int .u8, .int .u8, .int .u8, .int .u8], true, 0⟩), (191, ⟨.array 20 66 1, true, 20, [.int .u64 0, .int .u64 0, .int .u64 0, .int .u64 0, .int .u64 0, .int .u64 0, .int .u64 0, .int .u64 0, .int .u64 0, .int .u64 0, .int .u64 0, .int .u64 0, .int .u64 0, .int .u64 0, .int .u64 0, .int .u64 0, .int .u64 0, .int .u64 0, .int .u64 0, .int .u64 0], [.int .u64, .int .u64, .int .u64, .int .u64, .int .u64, .int .u64, .int .u64, .int .u64, .int .u64, .int .u64, .int .u64, .int .u64, .int .u64, .int .u64, .int .u64, .int .u64, .int .u64, .int .u64, .int .u64, .int .u64], true, 0⟩), (204, ⟨.array 64 5 1, true, 64, [.int .u8 0, .int .u8 0, .int .u8 0, .int .u8 0, .int .u8 0, .int .u8 0, .int .u8 0, .int .u8 0, .int .u8 0, .int .u8 0, .int .u8 0, .int .u8 0, .int .u8 0, .int .u8 0, .int .u8 0, .int .u8 0, .int .u8 0, .int .u8 0, .int .u8 0, .int .u8 0, .int .u8 0, .int .u8 0, .int .u8 0, .int .u8 0, .int .u8 0, .int .u8 0, .int .u8 0, .int .u8 0, .int .u8 0, .int .u8 0, .int .u8 0, .int .u8 0, .int .u8 0, .int .u8 0, .int .u8 0, .int .u8 0, .int .u8 0, .int .u8 0, .int .u8 0, .int .u8 0, .int .u8 0, .int .u8 0, .int .u8 0, .int .u8 0, .int .u8 0, .int .u8 0, .int .u8 0, .int .u8 0, .int .u8 0, .int .u8 0, .int .u8 0, .int .u8 0, .int .u8 0, .int .u8 0, .int .u8 0, .int .u8 0, .int .u8 0, .int .u8 0, .int .u8 0, .int .u8 0, .int .u8 0, .int .u8 0, .int .u8 0, .int .u8 0], [.int .u8, .int .u8, .int .u8, .int .u8, .int .u8, .int .u8, .int .u8, .int .u8, .int .u8, .int .u8, .int .u8, .int .u8, .int .u8, .int .u8, .int .u8, .int .u8, .int .u8, .int .u8, .int .u8, .int .u8, .int .u8, .int .u8, .int .u8, .int .u8, .int .u8, .int .u8, .int .u8, .int .u8, .int .u8, .int .u8, .int .u8, .int .u8, .int .u8, .int .u8, .int .u8, .int .u8, .int .u8, .int .u8, .int .u8, .int .u8, .int .u8, .int .u8, .int .u8, .int .u8, .int .u8, .int .u8, .int .u8, .int .u8, .int .u8, .int .u8, .int .u8, .int .u8, .int .u8, .int .u8, .int .u8, .int .u8, .int .u8, .int .u8, .int .u8, .int .u8, .int .u8, .int .u8, .int .u8, .int .u8], true, 0⟩), (52, ⟨.scalar, false, 1, [.int .i64 0], [.int .i64], false, 0⟩), (140, ⟨.struct [(0, 9), (1, 3), (2, 39)], true, 3, [.string ⟨#[]⟩, .int .i64 0, .nilIface], [.str, .int .i64, .other], false, 0⟩), (203, ⟨.array 32 5 1, true, 32, [.int .u8 0, .int .u8 0, .int .u8 0, .int .u8 0, .int .u8 0, .int .u8 0, .int .u8 0, .int .u8 0, .int .u8 0, .int .u8 0, .int .u8 0, .int .u8 0, .int .u8 0, .int .u8 0, .int .u8 0, .int .u8 0, .int .u8 0, .int .u8 0, .int .u8 0, .int .u8 0, .int .u8 0, .int .u8 0, .int .u8 0, .int .u8 0, .int .u8 0, .int .u8 0, .int .u8 0, .int .u8 0, .int .u8 0, .int .u8 0, .int .u8 0, .int .u8 0], [.int .u8, .int .u8, .int .u8, .int .u8, .int .u8, .int .u8, .int .u8, .int .u8, .int .u8, .int .u8, .int .u8, .int .u8, .int .u8, .int .u8, .int .u8, .int .u8, .int .u8, .int .u8, .int .u8, .int .u8, .int .u8, .int .u8, .int .u8, .int .u8, .int .u8, .int .u8, .int .u8, .int .u8, .int .u8, .int .u8, .int .u8, .int .u8], true, 0⟩), (199, ⟨.array 16 198 2, true, 32, [.int .u8 0, .int .u8 0, .int .u8 0, .int .u8 0, .int .u8 0, .int .u8 0, .int .u8 0, .int .u8 0, .int .u8 0, .int .u8 0, .int .u8 0, .int .u8 0, .int .u8 0, .int .u8 0, .int .u8 0, .int .u8 0, .int .u8 0, .int .u8 0, .int .u8 0, .int .u8 0, .int .u8 0, .int .u8 0, .int .u8 0, .int .u8 0, .int .u8 0, .int .u8 0, .int .u8 0, .int .u8 0, .int .u8 0, .int .u8 0, .int .u8 0, .int .u8 0], [.int .u8, .int .u8, .int .u8, .int .u8, .int .u8, .int .u8, .int .u8, .int .u8, .int .u8, .int .u8, .int .u8, .int .u8, .int .u8, .int .u8, .int .u8, .int .u8, .int .u8, .int .u8, .int .u8, .int .u8, .int .u8, .int .u8, .int .u8, .int .u8, .int .u8, .int .u8, .int .u8, .int .u8, .int .u8, .int .u8, .int .u8, .int .u8], true, 0⟩), (4, ⟨.scalar, false, 1, [.bool false], [.bool], false, 0⟩), (138, ⟨.ptr, false, 1, [.pointer none], [.other], false, 0⟩), (178, ⟨.struct [(0, 9), (1, 9), (2, 39)], true, 3, [.string ⟨#[]⟩, .string ⟨#[]⟩, .nilIface], [.str, .str, .other], false, 0⟩), (186, ⟨.ptr, false, 1, [.pointer none], [.other], false, 0⟩), (109, ⟨.iface, false, 1, [.nilIface], [.other], false, 0⟩), (232, ⟨.ptr, false, 1, [.pointer none], [.other], false, 0⟩), (196, ⟨.array 256 5 1, true, 256, [.int .u8 0, .int .u8 0, .int .u8 0, .int .u8 0, .int .u8 0, .int .u8 0, .int .u8 0, .int .u8 0, .int .u8 0, .int .u8 0, .int .u8 0, .int .u8 0, .int .u8 0, .int .u8 0, .int .u8 0, .int .u8 0, .int .u8 0, .int .u8 0, .int .u8 0, .int .u8 0, .int .u8 0, .int .u8 0, .int .u8 0, .int .u8 0, .int .u8 0, .int .u8 0, .int .u8 0, .int .u8 0, .int .u8 0, .int .u8 0, .int .u8 0, .int .u8 0, .int .u8 0, .int .u8 0, .int .u8 0, .int .u8 0, .int .u8 0, .int .u8 0, .int .u8 0, .int .u8 0, .int .u8 0, .int .u8 0, .int .u8 0, .int .u8 0, .int .u8 0, .int .u8 0, .int .u8 0, .int .u8 0, .int .u8 0, .int .u8 0, .int .u8 0, .int .u8 0, .int .u8 0, .int .u8 0, .int .u8 0, .int .u8 0, .int .u8 0, .int .u8 0, .int .u8 0, .int .u8 0, .int .u8 0, .int .u8 0, .int .u8 0, .int .u8 0, .int .u8 0, .int .u8 0, .int .u8 0, .int .u8 0, .int .u8 0, .int .u8 0, .int .u8 0, .int .u8 0, .int .u8 0, .int .u8 0, .int .u8 0, .int .u8 0, .int .u8 0, .int .u8 0, .int .u8 0, .int .u8 0, .int .u8 0, .int .u8 0, .int .u8 0, .int .u8 0, .int .u8 0, .int .u8 0, .int .u8 0, .int .u8 0, .int .u8 0, .int .u8 0, .int .u8 0, .int .u8 0, .int .u8 0, .int .u8 0, .int .u8 0, .int .u8 0, .int .u8 0, .int .u8 0, .int .u8 0, .int .u8 0, .int .u8 0, .int .u8 0, .int .u8 0, .int .u8 0, .int .u8 0, .int .u8 0, .int .u8 0, .int .u8 0, .int .u8 0, .int .u8 0, .int .u8 0, .int .u8 0, .int .u8 0, .int .u8 0, .int .u8 0, .int .u8 0, .int .u8 0, .int .u8 0, .int .u8 0, .int .u8 0, .int .u8 0, .int .u8 0, .int .u8 0, .int .u8 0, .int .u8 0, .int .u8 0, .int .u8 0, .int .u8 0, .int .u8 0, .int .u8 0, .int .u8 0, .int .u8 0, .int .u8 0, .int .u8 0, .int .u8 0, .int .u8 0, .int .u8 0, .int .u8 0, .int .u8 0, .int .u8 0, .int .u8 0, .int .u8 0, .int .u8 0, .int .u8 0, .int .u8 0, .int .u8 0, .int .u8 0, .int .u8 0, .int .u8 0, .int .u8 0, .int .u8 0, .int .u8 0, .int .u8 0, .int .u8 0, .int .u8 0, .int .u8 0, .int .u8 0, .int .u8 0, .int .u8 0, .int .u8 0, .int .u8 0, .int .u8 0, .int .u8 0, .int .u8 0, .int .u8 0, .int .u8 0, .int .u8 0, .int .u8 0, .int .u8 0, .int .u8 0, .int .u8 0, .int .u8 0, .int .u8 0, .int .u8 0, .int .u8 0, .int .u8 0, .int .u8 0, .int .u8 0, .int .u8 0, .int .u8 0, .int .u8 0, .int .u8 0, .int .u8 0, .int .u8 0, .int .u8 0, .int .u8 0, .int .u8 0, .int .u8 0, .int .u8 0, .int .u8 0, .int .u8 0, .int .u8 0, .int .u8 0, .int .u8 0, .int .u8 0, .int .u8 0, .int .u8 0, .int .u8 0, .int .u8 0, .int .u8 0, .int .u8 0, .int .u8 0, .int .u8 0, .int .u8 0, .int .u8 0, .int .u8 0, .int .u8 0, .int .u8 0, .int .u8 0, .int .u8 0, .int .u8 0, .int .u8 0, .int .u8 0, .int .u8 0, .int .u8 0, .int .u8 0, .int .u8 0, .int .u8 0, .int .u8 0, .int .u8 0, .int .u8 0, .int .u8 0, .int .u8 0, .int .u8 0, .int .u8 0, .int .u8 0, .int .u8 0, .int .u8 0, .int .u8 0, .int .u8 0, .int .u8 0, .int .u8 0, .int .u8 0, .int .u8 0, .int .u8 0, .int .u8 0, .int .u8 0, .int .u8 0, .int .u8 0, .int .u8 0, .int .u8 0, .int .u8 0, .int .u8 0, .int .u8 0, .int .u8 0, .int .u8 0, .int .u8 0, .int .u8 0, .int .u8 0, .int .u8 0, .int .u8 0, .int .u8 0, .int .u8 0, .int .u8 0, .int .u8 0, .int .u8 0], [.int .u8, .int .u8, .int .u8, .int .u8, .int .u8, .int .u8, .int .u8, .int .u8, .int .u8, .int .u8, .int .u8, .int .u8, .int .u8, .int .u8, .int .u8, .int .u8, .int .u8, .int .u8, .int .u8, .int .u8, .int .u8, .int .u8, .int .u8, .int .u8, .int .u8, .int .u8, .int .u8, .int .u8, .int .u8, .int .u8, .int .u8, .int .u8, .int .u8, .int .u8, .int .u8, .int .u8, .int .u8, .int .u8, .int .u8, .int .u8, .int .u8, .int .u8, .int .u8, .int .u8, .int .u8, .int .u8, .int .u8, .int .u8, .int .u8, .int .u8, .int .u8, .int .u8, .int .u8, .int .u8, .int .u8, .int .u8, .int .u8, .int .u8, .int .u8, .int .u8, .int .u8, .int .u8, .int .u8, .int .u8, .int .u8, .int .u8, .int .u8, .int .u8, .int .u8, .int .u8, .int .u8, .int .u8, .int .u8, .int .u8, .int .u8, .int .u8, .int .u8, .int .u8, .int .u8, .int .u8, .int .u8, .int .u8, .int .u8, .int .u8, .int .u8, .int .u8, .int .u8, .int .u8, .int .u8, .int .u8, .int .u8, .int .u8, .int .u8, .int .u8, .int .u8, .int .u8, .int .u8, .int .u8, .int .u8, .int .u8, .int .u8, .int .u8, .int .u8, .int .u8, .int .u8, .int .u8, .int .u8, .int .u8, .int .u8, .int .u8, .int .u8, .int .u8, .int .u8, .int .u8, .int .u8, .int .u8, .int .u8, .int .u8, .int .u8, .int .u8, .int .u8, .int .u8, .int .u8, .int .u8, .int .u8, .int .u8, .int .u8, .int .u8, .int .u8, .int .u8, .int .u8, .int .u8, .int .u8, .int .u8, .int .u8, .int .u8, .int .u8, .int .u8, .int .u8, .int .u8, .int .u8, .int .u8, .int .u8, .int .u8, .int .u8, .int .u8, .int .u8, .int .u8, .int .u8, .int .u8, .int .u8, .int .u8, .int .u8, .int .u8, .int .u8, .int .u8, .int .u8, .int .u8, .int .u8, .int .u8, .int .u8, .int .u8, .int .u8, .int .u8, .int .u8, .int .u8, .int .u8, .int .u8, .int .u8, .int .u8, .int .u8, .int .u8, .int .u8, .int .u8, .int .u8, .int .u8, .int .u8, .int .u8, .int .u8, .int .u8, .int .u8, .int .u8, .int .u8, .int .u8, .int .u8, .int .u8, .int .u8, .int .u8, .int .u8, .int .u8, .int .u8, .int .u8, .int .u8, .int .u8, .int .u8, .int .u8, .int .u8, .int .u8, .int .u8, .int .u8, .int .u8, .int .u8, .int .u8, .int .u8, .int .u8, .int .u8, .int .u8, .int .u8, .int .u8, .int .u8, .int .u8, .int .u8, .int .u8, .int .u8, .int .u8, .int .u8, .int .u8, .int .u8, .int .u8, .int .u8, .int .u8, .int .u8, .int .u8, .int .u8, .int .u8, .int .u8, .int .u8, .int .u8, .int .u8, .int .u8, .int .u8, .int .u8, .int .u8, .int .u8, .int .u8, .int .u8, .int .u8, .int .u8, .int .u8, .int .u8, .int .u8, .int .u8, .int .u8, .int .u8, .int .u8, .int .u8, .int .u8, .int .u8, .int .u8, .int .u8, .int .u8, .int .u8, .int .u8, .int .u8, .int .u8, .int .u8], true, 0⟩), (187, ⟨.ptr, false, 1, [.pointer none], [.other], false, 0⟩), (189, ⟨.struct [(0, 9)], true, 1, [.string ⟨#[]⟩], [.str], true, 0⟩)]
theorem tysOk : TysOk Tryz.prog tys := TysOk.of (by kernel_rfl)
theorem mixed : Tryz.prog.follows .mixedOrders = true := by kernel_rfl
abbrev nI (n : Int) : D := .lit (.int .i64 n)
abbrev bI (b : Bool) : AV := .d (.lit (.bool b))
abbrev sD (s : ByteArray) : D := .lit (.string s)
abbrev rI (n : Int) : AV := .d (.lit (.int .i32 n))
theorem ret_bI {a b : Bool} (h : a = b) : mkRet [.d (.lit (.bool a))] = bI b := by subst h; rfl
theorem ret_nI {a b : Int} (h : a = b) : mkRet [.d (.lit (.int .i64 a))] = .d (nI b) := by subst h; rfl
/-! ### strings -/
theorem width_pos (s : ByteArray) (i : Nat) : 1 ≤ (Utf8.decode s i).2 := by
  unfold Utf8.decode
  simp only
  repeat' split
  all_goals simp
/-- Where a text's first rune of a kind is; -1: nowhere. -/
def runeIx (p : Int → Bool) (s : ByteArray) : Nat → Nat → Int
  | 0, _ => -1
  | f + 1, pos => if pos < s.size then (if p (Utf8.decode s pos).1 then (pos : Int) else runeIx p s f (pos + (Utf8.decode s pos).2)) else -1
theorem runeIx_nn (p : Int → Bool) (s : ByteArray) : ∀ f pos, -1 ≤ runeIx p s f pos
  | 0, _ => by simp [runeIx]
  | f + 1, pos => by
    unfold runeIx
    have := runeIx_nn p s f (pos + (Utf8.decode s pos).2)
    split
    · split
      · omega
      · exact this
    · omega
/-- Has a text a rune of a kind? -/
def hasRune (p : Int → Bool) (s : ByteArray) : Bool := decide (runeIx p s (s.size + 1) 0 ≥ 0)
def od99 : Ords := []
theorem code99 : codeB Tryz.f99.ntmps od99 (match Tryz.f99.body with | some c => c | none => .skip) = true := by kernel_rfl
def od88 : Ords := []
theorem code88 : codeB Tryz.f88.ntmps od88 (match Tryz.f88.body with | some c => c | none => .skip) = true := by kernel_rfl
def od74 : Ords := []
theorem code74 : codeB Tryz.f74.ntmps od74 (match Tryz.f74.body with | some c => c | none => .skip) = true := by kernel_rfl
def od75 : Ords := []
theorem code75 : codeB Tryz.f75.ntmps od75 (match Tryz.f75.body with | some c => c | none => .skip) = true := by kernel_rfl
def od82 : Ords := []
theorem code82 : codeB Tryz.f82.ntmps od82 (match Tryz.f82.body with | some c => c | none => .skip) = true := by kernel_rfl
def od43 : Ords := []
theorem code43 : codeB Tryz.f43.ntmps od43 (match Tryz.f43.body with | some c => c | none => .skip) = true := by kernel_rfl
def od59 : Ords := []
theorem code59 : codeB Tryz.f59.ntmps od59 (match Tryz.f59.body with | some c => c | none => .skip) = true := by kernel_rfl
theorem ok99 (p : Int → Bool) (g : Nat) (hp : ∀ r, Go.Am.Pure Tryz.prog g [rI r] (bI (p r))) (s : ByteArray) :
    Go.Am.Pure Tryz.prog 99 [.d (sD s), .fn g [], bI true] (.d (nI (runeIx p s (s.size + 1) 0))) := by
  refine CallOk.of tysOk mixed od99 Tryz.func99 rfl rfl code99 ?_
  refine W.loop (fun k fr σ => ∃ pos f : Nat, fr = [(1, .fn g []), (2, bI true), (10, .iter 0)] ∧ σ = [.iter s pos] ∧ s.size < pos + f ∧ runeIx p s f pos = runeIx p s (s.size + 1) 0 ∧ f = k) (s.size + 1)
    (Start.of [1, 2, 10] [] (by simp)) ⟨0, s.size + 1, rfl, rfl, by omega, rfl, rfl⟩ ?_
  rintro k fr σ ⟨pos, f, rfl, rfl, hf, hr, rfl⟩
  refine W.ite (fun c1 => ?_) (fun c1 => ?_)
  · have hlt : pos < s.size := of_decide_eq_true c1
    obtain ⟨f, rfl⟩ : ∃ f', f = f' + 1 := ⟨f - 1, by omega⟩
    have hw := width_pos s pos
    repeat (first | refine W.ite_t rfl ?_ | refine W.ite_f rfl ?_)
    refine W.pure (hp (Utf8.decode s pos).1) rfl rfl ?_
    refine W.ite (fun c2 => ?_) (fun c2 => ?_)
    · have hpt : p (Utf8.decode s pos).1 = true := by simpa using c2
      refine W.ret (W.ret ?_)
      refine RetQ.pure rfl (ret_nI ?_)
      rw [← hr, runeIx, if_pos hlt, if_pos hpt]
    · have hpf : p (Utf8.decode s pos).1 = false := by simpa using c2
      refine W.ret ⟨f, _, _, by omega, Trim.of [1, 2, 10] [0] (by decide) (by simp) (by intro j hj; have : j = 0 := (by simp at hj; omega); subst this; rfl), pos + (Utf8.decode s pos).2, f, rfl, rfl, by omega, ?_, rfl⟩
      rw [← hr, runeIx, if_pos hlt, if_neg (by rw [hpf]; decide)]
  · have hge : ¬ pos < s.size := of_decide_eq_false c1
    repeat (first | refine W.ite_t rfl ?_ | refine W.ite_f rfl ?_)
    refine W.ret (W.ret ?_)
    refine RetQ.pure rfl (ret_nI ?_)
    rw [← hr]
    cases f with
    | zero => rfl
    | succ f => rw [runeIx, if_neg hge]
theorem ok88 (p : Int → Bool) (g : Nat) (hp : ∀ r, Go.Am.Pure Tryz.prog g [rI r] (bI (p r))) (s : ByteArray) :
    Go.Am.Pure Tryz.prog 88 [.d (sD s), .fn g []] (.d (nI (runeIx p s (s.size + 1) 0))) := by
  refine CallOk.of tysOk mixed od88 Tryz.func88 rfl rfl code88 ?_
  refine W.call [] (by decide) (by simp) (by simp) rfl rfl (ok99 p g hp s) ?_
  rintro v s' ⟨rfl, rfl⟩
  refine W.ret ?_
  exact RetQ.pure rfl rfl
theorem ok74 (p : Int → Bool) (g : Nat) (hp : ∀ r, Go.Am.Pure Tryz.prog g [rI r] (bI (p r))) (s : ByteArray) :
    Go.Am.Pure Tryz.prog 74 [.d (sD s), .fn g []] (bI (hasRune p s)) := by
  refine CallOk.of tysOk mixed od74 Tryz.func74 rfl rfl code74 ?_
  refine W.call [] (by decide) (by simp) (by simp) rfl rfl (ok88 p g hp s) ?_
  rintro v s' ⟨rfl, rfl⟩
  refine W.ret ?_
  refine RetQ.pure rfl (ret_bI ?_)
  rfl
/-- Runes that no name has, that no text has. -/
def badName (c : Int) : Bool := (decide (c < 97) || decide (c > 122)) && (decide (c < 48) || decide (c > 57))
def badStr (c : Int) : Bool := decide (c < 32) || decide (c > 126)
theorem ok75 (c : Int) : Go.Am.Pure Tryz.prog 75 [rI c] (bI (badName c)) := by
  refine CallOk.of tysOk mixed od75 Tryz.func75 rfl rfl code75 ?_
  repeat' (first | refine W.ite_t rfl ?_ | refine W.ite_f rfl ?_ | (refine W.ite_t ?h ?_; (case h => assumption)) | (refine W.ite_f ?h ?_; (case h => assumption)) | refine W.ite (fun h => ?_) (fun h => ?_))
  all_goals (try refine W.ret ?_)
  all_goals (try refine RetQ.pure rfl ?_)
  all_goals refine ret_bI ?_
  all_goals (simp_all [badName] <;> omega)
theorem ok82 (c : Int) : Go.Am.Pure Tryz.prog 82 [rI c] (bI (badStr c)) := by
  refine CallOk.of tysOk mixed od82 Tryz.func82 rfl rfl code82 ?_
  repeat' (first | refine W.ite_t rfl ?_ | refine W.ite_f rfl ?_ | (refine W.ite_t ?h ?_; (case h => assumption)) | (refine W.ite_f ?h ?_; (case h => assumption)) | refine W.ite (fun h => ?_) (fun h => ?_))
  all_goals (try refine W.ret ?_)
  all_goals (try refine RetQ.pure rfl ?_)
  all_goals refine ret_bI ?_
  all_goals (simp_all [badStr] <;> omega)
/-- The first byte. -/
def byte0 (s : ByteArray) : Int := ((s.data.getD 0 0).toNat : Int)
def txt (l : List UInt8) : ByteArray := ⟨l.toArray⟩
/-- Texts that are names. -/
def nameOk (s : ByteArray) : Bool :=
  if (s.toList == (txt []).toList) = true ∨ (s.size : Int) > 12 ∨ byte0 s < 97 ∨ byte0 s > 122 ∨ (s.toList == (txt [105, 110]).toList) = true ∨ (s.toList == (txt [97, 110, 100]).toList) = true then false
  else !(hasRune badName s)
theorem size_pos {s : ByteArray} (h : (s.toList == (txt []).toList) = false) : 0 < s.size := by
  rcases Nat.eq_zero_or_pos s.size with h0 | h0
  · exfalso
    rw [ByteArray.toList_eq] at h
    have : s.data.toList = [] := by
      apply List.eq_nil_of_length_eq_zero
      simpa using h0
    rw [this] at h
    simp [txt] at h
  · exact h0
theorem ok43 (s : ByteArray) : Go.Am.Pure Tryz.prog 43 [.d (sD s)] (bI (nameOk s)) := by
  refine CallOk.of tysOk mixed od43 Tryz.func43 rfl rfl code43 ?_
  have bad : nameOk s = false → ∀ {σ : Store}, RetQ ([] : Store).length (fun v s' => v = bI (nameOk s) ∧ s' = []) .ret [(0, mkRet [.d (.lit (.bool false))])] σ := fun h σ => by
    rw [h]
    exact RetQ.pure rfl rfl
  refine W.ite (fun c1 => ?_) (fun c1 => ?_)
  · have c1 : (s.toList == (txt []).toList) = true := c1
    repeat (first | refine W.ite_t rfl ?_ | refine W.ite_f rfl ?_ | refine W.ite_t c1 ?_)
    exact W.ret (bad (by unfold nameOk; rw [if_pos (.inl c1)]))
  have c1 : (s.toList == (txt []).toList) = false := c1
  have hs := size_pos c1
  repeat (first | refine W.ite_t rfl ?_ | refine W.ite_f rfl ?_ | refine W.ite_f c1 ?_)
  refine W.ite (fun c2 => ?_) (fun c2 => ?_)
  · repeat (first | refine W.ite_t rfl ?_ | refine W.ite_f rfl ?_ | refine W.ite_f c1 ?_ | refine W.ite_t c2 ?_)
    exact W.ret (bad (by unfold nameOk; rw [if_pos (.inr (.inl (of_decide_eq_true c2)))]))
  have hix : (0 : Int) ≤ 0 ∧ (0 : Int) < s.size := by omega
  repeat (first | refine W.ite_t rfl ?_ | refine W.ite_f rfl ?_ | refine W.ite_f c1 ?_ | refine W.ite_f c2 ?_ | refine W.need hix ?_)
  refine W.ite (fun c3 => ?_) (fun c3 => ?_)
  · repeat (first | refine W.ite_t rfl ?_ | refine W.ite_f rfl ?_ | refine W.ite_f c1 ?_ | refine W.ite_f c2 ?_ | refine W.ite_t c3 ?_)
    exact W.ret (bad (by unfold nameOk; rw [if_pos (.inr (.inr (.inl (of_decide_eq_true c3))))]))
  repeat (first | refine W.ite_t rfl ?_ | refine W.ite_f rfl ?_ | refine W.ite_f c1 ?_ | refine W.ite_f c2 ?_ | refine W.ite_f c3 ?_ | refine W.need hix ?_)
  refine W.ite (fun c4 => ?_) (fun c4 => ?_)
  · repeat (first | refine W.ite_t rfl ?_ | refine W.ite_f rfl ?_ | refine W.ite_f c1 ?_ | refine W.ite_f c2 ?_ | refine W.ite_f c3 ?_ | refine W.ite_t c4 ?_)
    exact W.ret (bad (by unfold nameOk; rw [if_pos (.inr (.inr (.inr (.inl (of_decide_eq_true c4)))))]))
  repeat (first | refine W.ite_t rfl ?_ | refine W.ite_f rfl ?_ | refine W.ite_f c1 ?_ | refine W.ite_f c2 ?_ | refine W.ite_f c3 ?_ | refine W.ite_f c4 ?_)
  refine W.ite (fun c5 => ?_) (fun c5 => ?_)
  · repeat (first | refine W.ite_t rfl ?_ | refine W.ite_f rfl ?_ | refine W.ite_f c1 ?_ | refine W.ite_f c2 ?_ | refine W.ite_f c3 ?_ | refine W.ite_f c4 ?_ | refine W.ite_t c5 ?_)
    exact W.ret (bad (by unfold nameOk; rw [if_pos (.inr (.inr (.inr (.inr (.inl c5)))))]))
  repeat (first | refine W.ite_t rfl ?_ | refine W.ite_f rfl ?_ | refine W.ite_f c1 ?_ | refine W.ite_f c2 ?_ | refine W.ite_f c3 ?_ | refine W.ite_f c4 ?_ | refine W.ite_f c5 ?_)
  refine W.ite (fun c6 => ?_) (fun c6 => ?_)
  · exact W.ret (bad (by unfold nameOk; rw [if_pos (.inr (.inr (.inr (.inr (.inr c6)))))]))
  refine W.call [] (by decide) (by simp) (by simp) rfl rfl (ok74 badName 75 ok75 s) ?_
  rintro v s' ⟨rfl, rfl⟩
  refine W.ret ?_
  refine RetQ.pure rfl (ret_bI ?_)
  have c2 := of_decide_eq_false c2
  have c3 : ¬ byte0 s < 97 := of_decide_eq_false c3
  have c4 : ¬ byte0 s > 122 := of_decide_eq_false c4
  have c5 : ¬ (s.toList == (txt [105, 110]).toList) = true := by intro h; have : (s.toList == (txt [105, 110]).toList) = false := c5; rw [h] at this; cases this
  have c6 : ¬ (s.toList == (txt [97, 110, 100]).toList) = true := by intro h; have : (s.toList == (txt [97, 110, 100]).toList) = false := c6; rw [h] at this; cases this
  unfold nameOk
  rw [if_neg (by rintro (h | h | h | h | h | h) <;> first | (rw [h] at c1; cases c1) | exact c2 h | exact c3 h | exact c4 h | exact c5 h | exact c6 h)]
/-- Texts that may be values. -/
def strOk (s : ByteArray) : Bool := decide ((s.size : Int) ≤ 40) && !(hasRune badStr s)
theorem ok59 (s : ByteArray) : Go.Am.Pure Tryz.prog 59 [.d (sD s)] (bI (strOk s)) := by
  refine CallOk.of tysOk mixed od59 Tryz.func59 rfl rfl code59 ?_
  refine W.ite (fun c1 => ?_) (fun c1 => ?_)
  · repeat (first | refine W.ite_t rfl ?_ | refine W.ite_f rfl ?_ | refine W.ite_t c1 ?_)
    refine W.call [] (by decide) (by simp) (by simp) rfl rfl (ok74 badStr 82 ok82 s) ?_
    rintro v s' ⟨rfl, rfl⟩
    repeat (first | refine W.ite_t rfl ?_ | refine W.ite_f rfl ?_ | refine W.ite_t c1 ?_)
    refine W.ret ?_
    refine RetQ.pure rfl (ret_bI ?_)
    unfold strOk
    rw [c1]
    rfl
  · repeat (first | refine W.ite_t rfl ?_ | refine W.ite_f rfl ?_ | refine W.ite_f c1 ?_)
    refine W.ret ?_
    refine RetQ.pure rfl (ret_bI ?_)
    unfold strOk
    rw [c1]
    rfl
/-- Begins a text with another one? -/
def prefOk (s t : ByteArray) : Bool := decide ((s.size : Int) ≥ t.size) && ((s.extract 0 t.size).toList == t.toList)
end Go.Proofs.YtbjjimllnffcpaaGreatDoor.Va

set_option maxRecDepth 100000
set_option linter.unusedVariables false
set_option linter.unusedSimpArgs false
namespace Go.Proofs.YtbjjimllnffcpaaGreatDoor.Va
open Go Go.Am
/-- An attribute, a predicate, a value. -/
structure Att where
  nm : ByteArray
  k : Int
  mn : Int
  mx : Int
structure Prd where
  nm : ByteArray
  o : Int
  lo : Int
  hi : Int
  str : ByteArray
structure Val where
  num : Int
  str : ByteArray
def atC (a : Att) : List D := [sD a.nm, nI a.k, nI a.mn, nI a.mx]
def prC (p : Prd) : List D := [sD p.nm, nI p.o, nI p.lo, nI p.hi, sD p.str]
def vaC (v : Val) : List D := [nI v.num, sD v.str]
theorem atC_len (a : Att) : (atC a).length = 4 := rfl
theorem prC_len (a : Prd) : (prC a).length = 5 := rfl
theorem vaC_len (a : Val) : (vaC a).length = 2 := rfl
def kA : List CK := [.str, .int .i64, .int .i64, .int .i64]
def kP : List CK := [.str, .int .i64, .int .i64, .int .i64, .str]
def kV : List CK := [.int .i64, .str]
theorem atE {l : List Att} {i : Nat} {a : Att} (h : l[i]? = some a) : Elem (flat atC l) kA (i * 4) 4 (atC a) := Elem.all atC_len h kA rfl ⟨rfl, rfl, rfl, rfl, True.intro⟩ rfl
theorem prE {l : List Prd} {i : Nat} {a : Prd} (h : l[i]? = some a) : Elem (flat prC l) kP (i * 5) 5 (prC a) := Elem.all prC_len h kP rfl ⟨rfl, rfl, rfl, rfl, rfl, True.intro⟩ rfl
theorem vaE {l : List Val} {i : Nat} {a : Val} (h : l[i]? = some a) : Elem (flat vaC l) kV (i * 2) 2 (vaC a) := Elem.all vaC_len h kV rfl ⟨rfl, rfl, True.intro⟩ rfl
/-- Where the first of a list with a property lies. -/
def ixF {α : Type} (p : α → Bool) : List α → Nat → Int
  | [], _ => -1
  | x :: r, i => if p x then (i : Int) else ixF p r (i + 1)
theorem ixF_ge {α : Type} (p : α → Bool) : ∀ (l : List α) (i : Nat), -1 ≤ ixF p l i ∧ (ixF p l i = -1 ∨ (i : Int) ≤ ixF p l i)
  | [], i => by simp [ixF]
  | x :: r, i => by
    unfold ixF
    split
    · omega
    · have := ixF_ge p r (i + 1); omega
theorem ixF_any {α : Type} (p : α → Bool) : ∀ (l : List α) (i : Nat), decide (ixF p l i ≥ 0) = l.any p
  | [], i => by simp [ixF]
  | x :: r, i => by
    unfold ixF
    cases h : p x with
    | true => simp [h]
    | false => simp [h]; rw [← ixF_any p r (i + 1)]
theorem ixF_spec {α : Type} (p : α → Bool) : ∀ (l : List α) (i : Nat), ixF p l i = -1 ∨ ∃ k x, ixF p l i = ((i + k : Nat) : Int) ∧ l[k]? = some x ∧ p x = true
  | [], i => .inl rfl
  | x :: r, i => by
    unfold ixF
    split
    · rename_i h
      exact .inr ⟨0, x, rfl, rfl, h⟩
    · rcases ixF_spec p r (i + 1) with h | ⟨k, y, h1, h2, h3⟩
      · exact .inl h
      · exact .inr ⟨k + 1, y, by rw [h1]; congr 1; omega, by simpa using h2, h3⟩
theorem drop_cons {α : Type} {l : List α} {i : Nat} {x : α} (h : l[i]? = some x) : l.drop i = x :: l.drop (i + 1) := by
  obtain ⟨h1, h2⟩ := List.getElem?_eq_some_iff.1 h
  rw [List.drop_eq_getElem_cons h1, h2]
def od60 : Ords := []
theorem code60 : codeB Tryz.f60.ntmps od60 (match Tryz.f60.body with | some c => c | none => .skip) = true := by kernel_rfl
def od79 : Ords := []
theorem code79 : codeB Tryz.f79.ntmps od79 (match Tryz.f79.body with | some c => c | none => .skip) = true := by kernel_rfl
def od61 : Ords := []
theorem code61 : codeB Tryz.f61.ntmps od61 (match Tryz.f61.body with | some c => c | none => .skip) = true := by kernel_rfl
def od28 : Ords := []
theorem code28 : codeB Tryz.f28.ntmps od28 (match Tryz.f28.body with | some c => c | none => .skip) = true := by kernel_rfl
/-- A variable of data. -/
abbrev bD (ds : List D) : Blk := .var (ds.map .d)
theorem subL_ds {σ : Store} {ρ : Nat → Option Nat} : ∀ (r : List D), AV.subL σ ρ (r.map .d) = r.map .d
  | [] => rfl
  | a :: r => by simp only [List.map_cons, AV.subL, AV.sub]; rw [subL_ds r]
theorem merge_bD (ds : List D) : mergeS [bD ds] [0] [bD ds] = [bD ds] := by
  show [Blk.var (AV.subL _ _ (ds.map .d))] = _
  rw [subL_ds]
theorem subS_bD (ds : List D) : subS [bD ds] [0] = [bD ds] := by
  show [Blk.var (AV.subL _ _ (ds.map .d))] = _
  rw [subL_ds]
theorem ok60 (p : Att → Bool) (g : Nat) (ds : List D) (l : List Att) (hl : l.length ≤ 4611686018427387904) (hp : ∀ x ∈ l, CallOk Tryz.prog g [.d (.agg (atC x)), .ptr 0 0] [bD ds] (fun v s => v = bI (p x) ∧ s = [bD ds])) :
    CallOk Tryz.prog 60 [slF atC l, .fn g [.ptr 0 0]] [bD ds] (fun v s => v = .d (nI (ixF p l 0)) ∧ s = [bD ds]) := by
  refine CallOk.of tysOk mixed od60 Tryz.func60 rfl rfl code60 ?_
  have fin : ∀ {n : Int}, n = ixF p l 0 → RetQ [bD ds].length (fun v s => v = .d (nI (ixF p l 0)) ∧ s = [bD ds]) .ret [(0, mkRet [.d (.lit (.int .i64 n))])] [bD ds] := fun {n} h => by
    subst h
    exact RetQ.part [0] (by decide) (by simp) (by intro j hj; have : j = 0 := (by simp at hj; omega); subst this; rfl) ⟨rfl, subS_bD ds⟩
  refine W.loop (fun k fr σ => ∃ i : Nat, fr = [(0, slF atC l), (1, .fn g [.ptr 0 0]), (7, .d (nI l.length)), (8, .d (nI i))] ∧ σ = [bD ds] ∧ i ≤ l.length ∧ ixF p (l.drop i) i = ixF p l 0 ∧ k = l.length - i) l.length
    (Start.of [0, 1, 7, 8] [] (by simp)) ⟨0, rfl, rfl, by omega, rfl, rfl⟩ ?_
  rintro k fr σ ⟨i, rfl, rfl, hi, hr, rfl⟩
  refine W.ite (fun c1 => ?_) (fun c1 => ?_)
  · have hil : i < l.length := by have := of_decide_eq_true c1; omega
    obtain ⟨x, hx⟩ : ∃ x, l[i]? = some x := ⟨_, List.getElem?_eq_getElem hil⟩
    have hmem := List.mem_of_getElem? hx
    rw [drop_cons hx, ixF] at hr
    refine W.need (ix_ok atC_len (by decide) hil) ?_
    refine W.ld (atE hx) ?_
    refine W.call [0] (by decide) (by simp) (by simp) rfl (subS_bD ds) (hp x hmem) ?_
    rintro v s ⟨rfl, rfl⟩
    rw [merge_bD]
    refine W.ite (fun c2 => ?_) (fun c2 => ?_)
    · refine W.ret ?_
      rw [if_pos c2] at hr
      exact W.ret (fin hr)
    · rw [if_neg (by rw [c2]; decide)] at hr
      have g1 : IntKind.i64.wrap ((i : Int) + 1) = ((i + 1 : Nat) : Int) := by rw [wrap64 (by omega) (by omega)]; rfl
      refine W.ret ⟨_, _, _, ?_, Trim.of [0, 1, 7, 8] [0] (by decide) (by simp) (by intro j hj; have : j = 0 := (by simp at hj; omega); subst this; rfl), i + 1, ?_, subS_bD ds, by omega, hr, rfl⟩
      · omega
      · rw [← g1]; rfl
  · have hil : l.drop i = [] := by have := of_decide_eq_false c1; exact List.drop_of_length_le (by omega)
    rw [hil] at hr
    exact W.ret (W.ret (fin hr))
theorem ok79 (p : Att → Bool) (g : Nat) (ds : List D) (l : List Att) (hl : l.length ≤ 4611686018427387904) (hp : ∀ x ∈ l, CallOk Tryz.prog g [.d (.agg (atC x)), .ptr 0 0] [bD ds] (fun v s => v = bI (p x) ∧ s = [bD ds])) :
    CallOk Tryz.prog 79 [slF atC l, .fn g [.ptr 0 0]] [bD ds] (fun v s => v = bI (l.any p) ∧ s = [bD ds]) := by
  refine CallOk.of tysOk mixed od79 Tryz.func79 rfl rfl code79 ?_
  refine W.call [0] (by decide) (by simp) (by simp) rfl (subS_bD ds) (ok60 p g ds l hl hp) ?_
  rintro v s ⟨rfl, rfl⟩
  rw [merge_bD]
  refine W.ret ?_
  refine RetQ.part [0] (by decide) (by simp) (by intro j hj; have : j = 0 := (by simp at hj; omega); subst this; rfl) ⟨?_, subS_bD ds⟩
  rw [← ixF_any p l 0]
  rfl
/-- Two texts alike. -/
abbrev sEq (a b : ByteArray) : Bool := a.toList == b.toList
theorem ok61 (x : Att) (s : ByteArray) : CallOk Tryz.prog 61 [.d (.agg (atC x)), .ptr 0 0] [bD [sD s]] (fun v s' => v = bI (sEq x.nm s) ∧ s' = [bD [sD s]]) := by
  refine CallOk.of tysOk mixed od61 Tryz.func61 rfl rfl code61 ?_
  refine W.ret ?_
  exact RetQ.part [0] (by decide) (by simp) (by intro j hj; have : j = 0 := (by simp at hj; omega); subst this; rfl) ⟨rfl, rfl⟩
/-- The place of an attribute. -/
def findA (l : List Att) (s : ByteArray) : Int := ixF (fun x => sEq x.nm s) l 0
theorem ok28 (l : List Att) (hl : l.length ≤ 4611686018427387904) (s : ByteArray) : Go.Am.Pure Tryz.prog 28 [slF atC l, .d (sD s)] (.d (nI (findA l s))) := by
  refine CallOk.of tysOk mixed od28 Tryz.func28 rfl rfl code28 ?_
  refine W.call [0] (by decide) (by simp) (by simp) rfl rfl (ok60 (fun x => sEq x.nm s) 61 [sD s] l hl (fun x _ => ok61 x s)) ?_
  rintro v s' ⟨rfl, rfl⟩
  refine W.ret ?_
  exact RetQ.pure rfl rfl
def od80 : Ords := []
theorem code80 : codeB Tryz.f80.ntmps od80 (match Tryz.f80.body with | some c => c | none => .skip) = true := by kernel_rfl
theorem ok80 (x a : Att) : CallOk Tryz.prog 80 [.d (.agg (atC x)), .ptr 0 0] [bD (atC a)] (fun v s' => v = bI (sEq x.nm a.nm) ∧ s' = [bD (atC a)]) := by
  refine CallOk.of tysOk mixed od80 Tryz.func80 rfl rfl code80 ?_
  refine W.ret ?_
  exact RetQ.part [0] (by decide) (by simp) (by intro j hj; have : j = 0 := (by simp at hj; omega); subst this; rfl) ⟨rfl, rfl⟩
def od81 : Ords := []
theorem code81 : codeB Tryz.f81.ntmps od81 (match Tryz.f81.body with | some c => c | none => .skip) = true := by kernel_rfl
def od57 : Ords := []
theorem code57 : codeB Tryz.f57.ntmps od57 (match Tryz.f57.body with | some c => c | none => .skip) = true := by kernel_rfl
def od58 : Ords := []
theorem code58 : codeB Tryz.f58.ntmps od58 (match Tryz.f58.body with | some c => c | none => .skip) = true := by kernel_rfl
theorem ok81 (p : Prd → Bool) (g : Nat) (ds : List D) (l : List Prd) (hl : l.length ≤ 4611686018427387904) (hp : ∀ x ∈ l, CallOk Tryz.prog g [.d (.agg (prC x)), .ptr 0 0] [bD ds] (fun v s => v = bI (p x) ∧ s = [bD ds])) :
    CallOk Tryz.prog 81 [slF prC l, .fn g [.ptr 0 0]] [bD ds] (fun v s => v = .d (nI (ixF p l 0)) ∧ s = [bD ds]) := by
  refine CallOk.of tysOk mixed od81 Tryz.func81 rfl rfl code81 ?_
  have fin : ∀ {n : Int}, n = ixF p l 0 → RetQ [bD ds].length (fun v s => v = .d (nI (ixF p l 0)) ∧ s = [bD ds]) .ret [(0, mkRet [.d (.lit (.int .i64 n))])] [bD ds] := fun {n} h => by
    subst h
    exact RetQ.part [0] (by decide) (by simp) (by intro j hj; have : j = 0 := (by simp at hj; omega); subst this; rfl) ⟨rfl, subS_bD ds⟩
  refine W.loop (fun k fr σ => ∃ i : Nat, fr = [(0, slF prC l), (1, .fn g [.ptr 0 0]), (7, .d (nI l.length)), (8, .d (nI i))] ∧ σ = [bD ds] ∧ i ≤ l.length ∧ ixF p (l.drop i) i = ixF p l 0 ∧ k = l.length - i) l.length
    (Start.of [0, 1, 7, 8] [] (by simp)) ⟨0, rfl, rfl, by omega, rfl, rfl⟩ ?_
  rintro k fr σ ⟨i, rfl, rfl, hi, hr, rfl⟩
  refine W.ite (fun c1 => ?_) (fun c1 => ?_)
  · have hil : i < l.length := by have := of_decide_eq_true c1; omega
    obtain ⟨x, hx⟩ : ∃ x, l[i]? = some x := ⟨_, List.getElem?_eq_getElem hil⟩
    have hmem := List.mem_of_getElem? hx
    rw [drop_cons hx, ixF] at hr
    refine W.need (ix_ok prC_len (by decide) hil) ?_
    refine W.ld (prE hx) ?_
    refine W.call [0] (by decide) (by simp) (by simp) rfl (subS_bD ds) (hp x hmem) ?_
    rintro v s ⟨rfl, rfl⟩
    rw [merge_bD]
    refine W.ite (fun c2 => ?_) (fun c2 => ?_)
    · refine W.ret ?_
      rw [if_pos c2] at hr
      exact W.ret (fin hr)
    · rw [if_neg (by rw [c2]; decide)] at hr
      have g1 : IntKind.i64.wrap ((i : Int) + 1) = ((i + 1 : Nat) : Int) := by rw [wrap64 (by omega) (by omega)]; rfl
      refine W.ret ⟨_, _, _, ?_, Trim.of [0, 1, 7, 8] [0] (by decide) (by simp) (by intro j hj; have : j = 0 := (by simp at hj; omega); subst this; rfl), i + 1, ?_, subS_bD ds, by omega, hr, rfl⟩
      · omega
      · rw [← g1]; rfl
  · have hil : l.drop i = [] := by have := of_decide_eq_false c1; exact List.drop_of_length_le (by omega)
    rw [hil] at hr
    exact W.ret (W.ret (fin hr))
theorem ok57 (p : Prd → Bool) (g : Nat) (ds : List D) (l : List Prd) (hl : l.length ≤ 4611686018427387904) (hp : ∀ x ∈ l, CallOk Tryz.prog g [.d (.agg (prC x)), .ptr 0 0] [bD ds] (fun v s => v = bI (p x) ∧ s = [bD ds])) :
    CallOk Tryz.prog 57 [slF prC l, .fn g [.ptr 0 0]] [bD ds] (fun v s => v = bI (l.any p) ∧ s = [bD ds]) := by
  refine CallOk.of tysOk mixed od57 Tryz.func57 rfl rfl code57 ?_
  refine W.call [0] (by decide) (by simp) (by simp) rfl (subS_bD ds) (ok81 p g ds l hl hp) ?_
  rintro v s ⟨rfl, rfl⟩
  rw [merge_bD]
  refine W.ret ?_
  refine RetQ.part [0] (by decide) (by simp) (by intro j hj; have : j = 0 := (by simp at hj; omega); subst this; rfl) ⟨?_, subS_bD ds⟩
  rw [← ixF_any p l 0]
  rfl
theorem ok58 (x a : Prd) : CallOk Tryz.prog 58 [.d (.agg (prC x)), .ptr 0 0] [bD (prC a)] (fun v s' => v = bI (sEq x.nm a.nm) ∧ s' = [bD (prC a)]) := by
  refine CallOk.of tysOk mixed od58 Tryz.func58 rfl rfl code58 ?_
  refine W.ret ?_
  exact RetQ.part [0] (by decide) (by simp) (by intro j hj; have : j = 0 := (by simp at hj; omega); subst this; rfl) ⟨rfl, rfl⟩
end Go.Proofs.YtbjjimllnffcpaaGreatDoor.Va

set_option maxRecDepth 100000
set_option linter.unusedVariables false
set_option linter.unusedSimpArgs false
namespace Go.Proofs.YtbjjimllnffcpaaGreatDoor.Va
open Go Go.Am
abbrev faultE (i c : Int) : D := .iface 138 (.box [sD (txt [118, 97, 108, 117, 101]), nI i, .iface 52 (nI c)] 0)
/-- No error, or that at a place. -/
def errV : Option Nat → D
  | none => .lit .nilIface
  | some i => faultE i 3
def od56 : Ords := []
theorem code56 : codeB Tryz.f56.ntmps od56 (match Tryz.f56.body with | some c => c | none => .skip) = true := by kernel_rfl
theorem ok56 (i c : Int) : Go.Am.Pure Tryz.prog 56 [.d (nI i), .d (nI c)] (.d (faultE i c)) := by
  refine CallOk.of tysOk mixed od56 Tryz.func56 rfl rfl code56 ?_
  refine W.ret ?_
  exact RetQ.pure rfl rfl
/-- Takes a predicate a value? -/
def takeV (p : Prd) (v : Val) : Bool := if p.o = 1 then decide (v.num ≥ p.lo) && decide (v.num ≤ p.hi) else if p.o = 2 then sEq v.str p.str else prefOk v.str p.str
def od66 : Ords := []
theorem code66 : codeB Tryz.f66.ntmps od66 (match Tryz.f66.body with | some c => c | none => .skip) = true := by kernel_rfl
/-- Is a value one of an attribute's? -/
def fitV (a : Att) (v : Val) : Bool := if a.k = 1 then (sEq v.str (txt []) && decide (v.num ≥ a.mn)) && decide (v.num ≤ a.mx) else (v.num == 0) && strOk v.str
theorem ok66 (a : Att) (v : Val) : Go.Am.Pure Tryz.prog 66 [.d (.agg (atC a)), .d (.agg (vaC v))] (bI (fitV a v)) := by
  refine CallOk.of tysOk mixed od66 Tryz.func66 rfl rfl code66 ?_
  refine W.ite (fun c1 => ?_) (fun c1 => ?_)
  · have h1 : a.k = 1 := by simpa using c1
    have hv : fitV a v = ((sEq v.str (txt []) && decide (v.num ≥ a.mn)) && decide (v.num ≤ a.mx)) := by unfold fitV; rw [if_pos h1]
    rw [hv]
    refine W.ite (fun c2 => ?_) (fun c2 => ?_)
    · have c2 : sEq v.str (txt []) = true := c2
      repeat (first | refine W.ite_t rfl ?_ | refine W.ite_f rfl ?_ | refine W.ite_t c2 ?_)
      refine W.ite (fun c3 => ?_) (fun c3 => ?_)
      · repeat (first | refine W.ite_t rfl ?_ | refine W.ite_f rfl ?_ | refine W.ite_t c2 ?_ | refine W.ite_t c3 ?_)
        refine W.ret (RetQ.pure rfl (ret_bI ?_))
        rw [c2, c3]
        rfl
      · repeat (first | refine W.ite_t rfl ?_ | refine W.ite_f rfl ?_ | refine W.ite_t c2 ?_ | refine W.ite_f c3 ?_)
        refine W.ret (RetQ.pure rfl (ret_bI ?_))
        rw [c2, c3]
        rfl
    · have c2 : sEq v.str (txt []) = false := c2
      repeat (first | refine W.ite_t rfl ?_ | refine W.ite_f rfl ?_ | refine W.ite_f c2 ?_)
      refine W.ret (RetQ.pure rfl (ret_bI ?_))
      rw [c2]
      rfl
  · have h1 : ¬ a.k = 1 := by simpa using c1
    have hv : fitV a v = ((v.num == 0) && strOk v.str) := by unfold fitV; rw [if_neg h1]
    rw [hv]
    refine W.ite (fun c2 => ?_) (fun c2 => ?_)
    · have c2 : (v.num == 0) = true := c2
      repeat (first | refine W.ite_t rfl ?_ | refine W.ite_f rfl ?_ | refine W.ite_t c2 ?_)
      refine W.pure (ok59 v.str) rfl rfl ?_
      repeat (first | refine W.ite_t rfl ?_ | refine W.ite_f rfl ?_ | refine W.ite_t c2 ?_)
      refine W.ret (RetQ.pure rfl (ret_bI ?_))
      rw [c2]
      rfl
    · have c2 : (v.num == 0) = false := c2
      repeat (first | refine W.ite_t rfl ?_ | refine W.ite_f rfl ?_ | refine W.ite_f c2 ?_)
      refine W.ret (RetQ.pure rfl (ret_bI ?_))
      rw [c2]
      rfl
def od35 : Ords := [(6, [0, 1, 2, 3, 4, 5, 1006, 7])]
theorem code35 : codeB Tryz.f35.ntmps od35 (match Tryz.f35.body with | some c => c | none => .skip) = true := by kernel_rfl
structure Evt where
  vals : List Val
  pay : ByteArray
def evC (e : Evt) : List D := [.sl e.vals.length (flat vaC e.vals), sD e.pay]
def fitsFrom : List Att → List Val → Nat → Option Nat
  | a :: r, v :: s, i => if fitV a v then fitsFrom r s (i + 1) else some i
  | _, _, _ => none
/-- Where an event isn't one of a schema's. -/
def evtErr (s : List Att) (e : Evt) : Option Nat := if e.vals.length ≠ s.length ∨ (e.pay.size : Int) > 200 then some 0 else fitsFrom s e.vals 0
theorem ok35 (s : List Att) (hs : s.length ≤ 4611686018427387904) (e : Evt) : Go.Am.Pure Tryz.prog 35 [slF atC s, .d (.agg (evC e))] (.d (errV (evtErr s e))) := by
  refine CallOk.of tysOk mixed od35 Tryz.func35 rfl rfl code35 ?_
  have bad : (e.vals.length ≠ s.length ∨ (e.pay.size : Int) > 200) → ∀ {σ : Store}, RetQ ([] : Store).length (fun v s' => v = .d (errV (evtErr s e)) ∧ s' = []) .ret [(0, mkRet [.d (faultE 0 3)])] σ := fun h σ => by
    refine RetQ.pure rfl ?_
    unfold evtErr
    rw [if_pos h]
    rfl
  refine W.ite (fun c1 => ?_) (fun c1 => ?_)
  · have h1 : e.vals.length ≠ s.length := by have : ((e.vals.length : Int) != s.length) = true := c1; intro h; rw [h] at this; simp at this
    repeat (first | refine W.ite_t rfl ?_ | refine W.ite_f rfl ?_ | refine W.ite_t c1 ?_)
    refine W.pure (ok56 0 3) rfl rfl ?_
    exact W.ret (bad (.inl h1))
  have h1 : e.vals.length = s.length := by have : ((e.vals.length : Int) != s.length) = false := c1; have : (e.vals.length : Int) = s.length := (by simpa using this); omega
  repeat (first | refine W.ite_t rfl ?_ | refine W.ite_f rfl ?_ | refine W.ite_f c1 ?_)
  refine W.ite (fun c2 => ?_) (fun c2 => ?_)
  · refine W.pure (ok56 0 3) rfl rfl ?_
    exact W.ret (bad (.inr (of_decide_eq_true c2)))
  have h2 := of_decide_eq_false c2
  have hE : evtErr s e = fitsFrom s e.vals 0 := by unfold evtErr; rw [if_neg (by rintro (h | h); exact h h1; exact h2 h)]
  rw [hE]
  clear bad
  refine W.loop (fun k fr σ => ∃ i : Nat, fr = [(3, .ptr 0 0), (20, slF atC s), (21, .d (nI s.length)), (22, .d (nI i))] ∧ σ = [bD (evC e)] ∧ i ≤ s.length ∧ fitsFrom (s.drop i) (e.vals.drop i) i = fitsFrom s e.vals 0 ∧ k = s.length - i) s.length
    (Start.of [3, 20, 21, 22] [] (by simp)) ⟨0, rfl, rfl, by omega, rfl, rfl⟩ ?_
  rintro k fr σ ⟨i, rfl, rfl, hi, hr, rfl⟩
  refine W.ite (fun c3 => ?_) (fun c3 => ?_)
  · have hil : i < s.length := by have := of_decide_eq_true c3; omega
    obtain ⟨a, ha⟩ : ∃ x, s[i]? = some x := ⟨_, List.getElem?_eq_getElem hil⟩
    obtain ⟨v, hv⟩ : ∃ x, e.vals[i]? = some x := ⟨_, List.getElem?_eq_getElem (by omega)⟩
    rw [drop_cons ha, drop_cons hv, fitsFrom] at hr
    refine W.need (ix_ok atC_len (by decide) hil) ?_
    refine W.ld (atE ha) ?_
    refine W.need (ix_ok vaC_len (by decide) (by omega)) ?_
    refine W.ld (vaE hv) ?_
    refine W.pure (ok66 a v) rfl rfl ?_
    refine W.ite (fun c4 => ?_) (fun c4 => ?_)
    · have h4 : fitV a v = false := by simpa using c4
      refine W.pure (ok56 i 3) rfl rfl ?_
      refine W.ret (W.ret ?_)
      refine RetQ.pure rfl ?_
      rw [h4] at hr
      rw [← hr]
      rfl
    · have h4 : fitV a v = true := by simpa using c4
      rw [h4] at hr
      have g1 : IntKind.i64.wrap ((i : Int) + 1) = ((i + 1 : Nat) : Int) := by rw [wrap64 (by omega) (by omega)]; rfl
      refine W.ret ⟨_, _, _, ?_, Trim.of [3, 20, 21, 22] [0] (by decide) (by simp) (by intro j hj; have : j = 0 := (by simp at hj; omega); subst this; rfl), i + 1, ?_, rfl, by omega, hr, rfl⟩
      · omega
      · rw [← g1]; rfl
  · have hil : s.drop i = [] := by have := of_decide_eq_false c3; exact List.drop_of_length_le (by omega)
    rw [hil] at hr
    refine W.ret (W.ret ?_)
    refine RetQ.pure rfl ?_
    rw [← hr]
    rfl
def od55 : Ords := []
theorem code55 : codeB Tryz.f55.ntmps od55 (match Tryz.f55.body with | some c => c | none => .skip) = true := by kernel_rfl
/-- What isn't in form of a schema. -/
def attBad (s : List Att) (i : Nat) (a : Att) : Bool :=
  !nameOk a.nm || ((s.take i).any (fun b => sEq b.nm a.nm) || (if a.k = 1 then decide (a.mn < -2147483648) || (decide (a.mx > 2147483648) || decide (a.mn > a.mx)) else (a.k != 2) || ((a.mn != 0) || (a.mx != 0))))
def chkFrom (s : List Att) : List Att → Nat → Option Nat
  | [], _ => none
  | a :: r, i => if attBad s i a then some i else chkFrom s r (i + 1)
def chkErr (s : List Att) : Option Nat := if (s.length : Int) < 1 ∨ (s.length : Int) > 4 then some 0 else chkFrom s s 0
theorem cutA {s : List Att} {i : Nat} (h : i ≤ s.length) : slF atC (s.take i) = .d (.sl (i - 0) (((flat atC s).drop (0 * 4)).take ((i - 0) * 4))) := by
  rw [Nat.zero_mul, List.drop_zero, Nat.sub_zero, flat_take atC_len]
  unfold slF
  rw [List.length_take, Nat.min_eq_left h]
set_option maxHeartbeats 4000000 in
theorem ok55 (s : List Att) : Go.Am.Pure Tryz.prog 55 [slF atC s] (.d (errV (chkErr s))) := by
  refine CallOk.of tysOk mixed od55 Tryz.func55 rfl rfl code55 ?_
  have bad : ((s.length : Int) < 1 ∨ (s.length : Int) > 4) → ∀ {σ : Store}, RetQ ([] : Store).length (fun v s' => v = .d (errV (chkErr s)) ∧ s' = []) .ret [(0, mkRet [.d (faultE 0 3)])] σ := fun h σ => by
    refine RetQ.pure rfl ?_
    unfold chkErr
    rw [if_pos h]
    rfl
  refine W.ite (fun c1 => ?_) (fun c1 => ?_)
  · repeat (first | refine W.ite_t rfl ?_ | refine W.ite_f rfl ?_ | refine W.ite_t c1 ?_)
    refine W.pure (ok56 0 3) rfl rfl ?_
    exact W.ret (bad (.inl (of_decide_eq_true c1)))
  repeat (first | refine W.ite_t rfl ?_ | refine W.ite_f rfl ?_ | refine W.ite_f c1 ?_)
  refine W.ite (fun c2 => ?_) (fun c2 => ?_)
  · refine W.pure (ok56 0 3) rfl rfl ?_
    exact W.ret (bad (.inr (of_decide_eq_true c2)))
  have h1 := of_decide_eq_false c1
  have h2 := of_decide_eq_false c2
  have hE : chkErr s = chkFrom s s 0 := by unfold chkErr; rw [if_neg (by rintro (h | h); exact h1 h; exact h2 h)]
  rw [hE]
  clear bad
  refine W.loop (fun k fr σ => ∃ i : Nat, fr = [(0, slF atC s), (14, slF atC s), (15, .d (nI s.length)), (16, .d (nI i))] ∧ σ = [] ∧ i ≤ s.length ∧ chkFrom s (s.drop i) i = chkFrom s s 0 ∧ k = s.length - i) s.length
    (Start.of [0, 14, 15, 16] [] (by simp)) ⟨0, rfl, rfl, by omega, rfl, rfl⟩ ?_
  rintro k fr σ ⟨i, rfl, rfl, hi, hr, rfl⟩
  refine W.ite (fun c3 => ?_) (fun c3 => ?_)
  · have hil : i < s.length := by have := of_decide_eq_true c3; omega
    obtain ⟨a, ha⟩ : ∃ x, s[i]? = some x := ⟨_, List.getElem?_eq_getElem hil⟩
    rw [drop_cons ha, chkFrom] at hr
    have g1 : IntKind.i64.wrap ((i : Int) + 1) = ((i + 1 : Nat) : Int) := by rw [wrap64 (by omega) (by omega)]; rfl
    have isBad : attBad s i a = true → ∀ {σ : Store}, RetQ ([] : Store).length (fun v s' => v = .d (errV (chkFrom s s 0)) ∧ s' = []) .ret [(0, mkRet [.d (faultE i 3)])] σ := fun h σ => by
      refine RetQ.pure rfl ?_
      rw [h] at hr
      rw [← hr]
      rfl
    have isGood : attBad s i a = false → ∀ {fr : Fr} {b : Blk}, fr.get 0 = slF atC s → fr.get 14 = slF atC s → fr.get 15 = .d (nI s.length) → fr.get 16 = .d (nI (IntKind.i64.wrap ((i : Int) + 1))) →
        ∃ m fr' σ', m < s.length - i ∧ Trim ([] : Store).length fr [b] fr' σ' ∧ ∃ i : Nat, fr' = [(0, slF atC s), (14, slF atC s), (15, .d (nI s.length)), (16, .d (nI i))] ∧ σ' = [] ∧ i ≤ s.length ∧ chkFrom s (s.drop i) i = chkFrom s s 0 ∧ m = s.length - i := fun h {fr b} h0 h14 h15 h16 => by
      rw [h] at hr
      rw [g1] at h16
      refine ⟨_, _, _, ?_, Trim.of [0, 14, 15, 16] [] (by decide) (by simp) (by simp), i + 1, ?_, rfl, by omega, hr, rfl⟩
      · omega
      · simp only [keepFr, h0, h14, h15, h16]; rfl
    refine W.need (ix_ok atC_len (by decide) hil) ?_
    refine W.ld (atE ha) ?_
    refine W.pure (ok43 a.nm) rfl rfl ?_
    refine W.ite (fun c4 => ?_) (fun c4 => ?_)
    · refine W.ite_t c4 ?_
      refine W.pure (ok56 i 3) rfl rfl ?_
      exact W.ret (W.ret (isBad (by unfold attBad; rw [c4]; rfl)))
    refine W.need ⟨by omega, by omega⟩ ?_
    refine W.call [0] (by decide) (by simp) (by simp) (args' := [slF atC (s.take i), .fn 80 [.ptr 0 0]]) (by rw [cutA hi]; rfl) rfl (ok79 (fun b => sEq b.nm a.nm) 80 (atC a) (s.take i) (by rw [List.length_take]; omega) (fun x _ => ok80 x a)) ?_
    rintro v s' ⟨rfl, rfl⟩
    refine W.ite (fun c5 => ?_) (fun c5 => ?_)
    · refine W.pure (ok56 i 3) rfl rfl ?_
      exact W.ret (W.ret (isBad (by unfold attBad; rw [c4, c5]; rfl)))
    refine W.ite (fun c6 => ?_) (fun c6 => ?_)
    · have hk : a.k = 1 := by simpa using c6
      have hb : attBad s i a = (decide (a.mn < -2147483648) || (decide (a.mx > 2147483648) || decide (a.mn > a.mx))) := by unfold attBad; rw [c4, c5, if_pos hk]; rfl
      refine W.ite (fun c7 => ?_) (fun c7 => ?_)
      · repeat (first | refine W.ite_t rfl ?_ | refine W.ite_f rfl ?_ | refine W.ite_t c7 ?_)
        refine W.pure (ok56 i 3) rfl rfl ?_
        exact W.ret (W.ret (isBad (by rw [hb, c7]; rfl)))
      repeat (first | refine W.ite_t rfl ?_ | refine W.ite_f rfl ?_ | refine W.ite_f c7 ?_)
      refine W.ite (fun c8 => ?_) (fun c8 => ?_)
      · repeat (first | refine W.ite_t rfl ?_ | refine W.ite_f rfl ?_ | refine W.ite_f c7 ?_ | refine W.ite_t c8 ?_)
        refine W.pure (ok56 i 3) rfl rfl ?_
        exact W.ret (W.ret (isBad (by rw [hb, c7, c8]; rfl)))
      repeat (first | refine W.ite_t rfl ?_ | refine W.ite_f rfl ?_ | refine W.ite_f c7 ?_ | refine W.ite_f c8 ?_)
      refine W.ite (fun c9 => ?_) (fun c9 => ?_)
      · refine W.pure (ok56 i 3) rfl rfl ?_
        exact W.ret (W.ret (isBad (by rw [hb, c7, c8, c9]; rfl)))
      · exact W.ret (isGood (by rw [hb, c7, c8, c9]; rfl) rfl rfl rfl rfl)
    · have hk : ¬ a.k = 1 := by simpa using c6
      have hb : attBad s i a = ((a.k != 2) || ((a.mn != 0) || (a.mx != 0))) := by unfold attBad; rw [c4, c5, if_neg hk]; rfl
      refine W.ite (fun c7 => ?_) (fun c7 => ?_)
      · refine W.ite_t c7 ?_
        refine W.pure (ok56 i 3) rfl rfl ?_
        exact W.ret (W.ret (isBad (by rw [hb, show (a.k != 2) = true from c7]; rfl)))
      refine W.ite (fun c8 => ?_) (fun c8 => ?_)
      · refine W.ite_t c8 ?_
        refine W.pure (ok56 i 3) rfl rfl ?_
        exact W.ret (W.ret (isBad (by rw [hb, show (a.k != 2) = false from c7, show (a.mn != 0) = true from c8]; rfl)))
      refine W.ite (fun c9 => ?_) (fun c9 => ?_)
      · refine W.pure (ok56 i 3) rfl rfl ?_
        exact W.ret (W.ret (isBad (by rw [hb, show (a.k != 2) = false from c7, show (a.mn != 0) = false from c8, show (a.mx != 0) = true from c9]; rfl)))
      · exact W.ret (isGood (by rw [hb, show (a.k != 2) = false from c7, show (a.mn != 0) = false from c8, show (a.mx != 0) = false from c9]; rfl) rfl rfl rfl rfl)
  · have hil : s.drop i = [] := by have := of_decide_eq_false c3; exact List.drop_of_length_le (by omega)
    rw [hil] at hr
    refine W.ret (W.ret ?_)
    refine RetQ.pure rfl ?_
    rw [← hr]
    rfl
end Go.Proofs.YtbjjimllnffcpaaGreatDoor.Va

set_option maxRecDepth 100000
set_option linter.unusedVariables false
set_option linter.unusedSimpArgs false
namespace Go.Proofs.YtbjjimllnffcpaaGreatDoor.Va
open Go Go.Am
def od26 : Ords := [(14, [0, 1, 2, 3, 4, 5, 6, 7, 8, 9, 10, 11, 12, 13, 14, 15, 16, 17, 18, 19, 20, 21, 22, 23, 24, 25, 26, 27, 28, 29, 30, 31, 32, 33, 34, 35, 36, 37, 38])]
theorem code26 : codeB Tryz.f26.ntmps od26 (match Tryz.f26.body with | some c => c | none => .skip) = true := by kernel_rfl
theorem atF0 {l : List Att} {i : Nat} {a : Att} (h : l[i]? = some a) : Elem (flat atC l) [.str] (i * 4 + 0) 1 [sD a.nm] := Elem.of atC_len h [.str] 0 rfl (by decide) ⟨rfl, True.intro⟩ rfl
theorem atF1 {l : List Att} {i : Nat} {a : Att} (h : l[i]? = some a) : Elem (flat atC l) [.int .i64] (i * 4 + 1) 1 [nI a.k] := Elem.of atC_len h [.int .i64] 1 rfl (by decide) ⟨rfl, True.intro⟩ rfl
theorem atF2 {l : List Att} {i : Nat} {a : Att} (h : l[i]? = some a) : Elem (flat atC l) [.int .i64] (i * 4 + 2) 1 [nI a.mn] := Elem.of atC_len h [.int .i64] 2 rfl (by decide) ⟨rfl, True.intro⟩ rfl
theorem atF3 {l : List Att} {i : Nat} {a : Att} (h : l[i]? = some a) : Elem (flat atC l) [.int .i64] (i * 4 + 3) 1 [nI a.mx] := Elem.of atC_len h [.int .i64] 3 rfl (by decide) ⟨rfl, True.intro⟩ rfl
def noAtt : Att := ⟨txt [], 0, 0, 0⟩
/-- The attribute that a predicate asks. -/
def attOf (s : List Att) (nm : ByteArray) : Att := (s[(findA s nm).toNat]?).getD noAtt
def textOk (a : Att) (p : Prd) : Bool := (((a.k == 2) && (p.lo == 0)) && (p.hi == 0)) && strOk p.str
def numOk (a : Att) (p : Prd) : Bool := ((((a.k == 1) && decide (p.lo ≥ a.mn)) && decide (p.hi ≤ a.mx)) && decide (p.lo ≤ p.hi)) && sEq p.str (txt [])
def prdOk (a : Att) (p : Prd) : Bool := if p.o = 1 then numOk a p else if p.o = 3 then (if sEq p.str (txt []) then false else textOk a p) else if p.o = 2 then textOk a p else false
def prdBad (s : List Att) (f : List Prd) (i : Nat) (p : Prd) : Bool := decide (findA s p.nm < 0) || ((f.take i).any (fun q => sEq q.nm p.nm) || !prdOk (attOf s p.nm) p)
def fltFrom (s : List Att) (f : List Prd) : List Prd → Nat → Option Nat
  | [], _ => none
  | p :: r, i => if prdBad s f i p then some i else fltFrom s f r (i + 1)
def fltErr (s : List Att) (f : List Prd) : Option Nat := if (f.length : Int) < 1 ∨ (f.length : Int) > 4 then some 0 else fltFrom s f f 0
theorem cutP {s : List Prd} {i : Nat} (h : i ≤ s.length) : slF prC (s.take i) = .d (.sl (i - 0) (((flat prC s).drop (0 * 5)).take ((i - 0) * 5))) := by
  rw [Nat.zero_mul, List.drop_zero, Nat.sub_zero, flat_take prC_len]
  unfold slF
  rw [List.length_take, Nat.min_eq_left h]
theorem findA_spec (s : List Att) (nm : ByteArray) : findA s nm = -1 ∨ ∃ (k : Nat) (a : Att), findA s nm = (k : Int) ∧ s[k]? = some a ∧ attOf s nm = a := by
  rcases ixF_spec (fun x => sEq x.nm nm) s 0 with h | ⟨k, a, h1, h2, _⟩
  · exact .inl h
  · refine .inr ⟨k, a, by unfold findA; rw [h1]; simp, h2, ?_⟩
    unfold attOf findA
    rw [h1]
    simp [h2]
set_option maxHeartbeats 8000000 in
theorem ok26 (s : List Att) (hs : s.length ≤ 4611686018427387904) (f : List Prd) : Go.Am.Pure Tryz.prog 26 [slF atC s, slF prC f] (.d (errV (fltErr s f))) := by
  refine CallOk.of tysOk mixed od26 Tryz.func26 rfl rfl code26 ?_
  have bad : ((f.length : Int) < 1 ∨ (f.length : Int) > 4) → ∀ {σ : Store}, RetQ ([] : Store).length (fun v s' => v = .d (errV (fltErr s f)) ∧ s' = []) .ret [(0, mkRet [.d (faultE 0 3)])] σ := fun h σ => by
    refine RetQ.pure rfl ?_
    unfold fltErr
    rw [if_pos h]
    rfl
  refine W.ite (fun c1 => ?_) (fun c1 => ?_)
  · repeat (first | refine W.ite_t rfl ?_ | refine W.ite_f rfl ?_ | refine W.ite_t c1 ?_)
    refine W.pure (ok56 0 3) rfl rfl ?_
    exact W.ret (bad (.inl (of_decide_eq_true c1)))
  repeat (first | refine W.ite_t rfl ?_ | refine W.ite_f rfl ?_ | refine W.ite_f c1 ?_)
  refine W.ite (fun c2 => ?_) (fun c2 => ?_)
  · refine W.pure (ok56 0 3) rfl rfl ?_
    exact W.ret (bad (.inr (of_decide_eq_true c2)))
  have h1 := of_decide_eq_false c1
  have h2 := of_decide_eq_false c2
  have hE : fltErr s f = fltFrom s f f 0 := by unfold fltErr; rw [if_neg (by rintro (h | h); exact h1 h; exact h2 h)]
  rw [hE]
  clear bad
  refine W.loop (fun k fr σ => ∃ i : Nat, fr = [(0, slF atC s), (1, slF prC f), (18, slF prC f), (19, .d (nI f.length)), (20, .d (nI i))] ∧ σ = [] ∧ i ≤ f.length ∧ fltFrom s f (f.drop i) i = fltFrom s f f 0 ∧ k = f.length - i) f.length
    (Start.of [0, 1, 18, 19, 20] [] (by simp)) ⟨0, rfl, rfl, by omega, rfl, rfl⟩ ?_
  rintro k fr σ ⟨i, rfl, rfl, hi, hr, rfl⟩
  refine W.ite (fun c3 => ?_) (fun c3 => ?_)
  · have hil : i < f.length := by have := of_decide_eq_true c3; omega
    obtain ⟨p, hp⟩ : ∃ x, f[i]? = some x := ⟨_, List.getElem?_eq_getElem hil⟩
    rw [drop_cons hp, fltFrom] at hr
    have g1 : IntKind.i64.wrap ((i : Int) + 1) = ((i + 1 : Nat) : Int) := by rw [wrap64 (by omega) (by omega)]; rfl
    have isBad : prdBad s f i p = true → ∀ {σ : Store}, RetQ ([] : Store).length (fun v s' => v = .d (errV (fltFrom s f f 0)) ∧ s' = []) .ret [(0, mkRet [.d (faultE i 3)])] σ := fun h σ => by
      refine RetQ.pure rfl ?_
      rw [h] at hr
      rw [← hr]
      rfl
    have isGood : prdBad s f i p = false → ∀ {fr : Fr} {b : Blk}, fr.get 0 = slF atC s → fr.get 1 = slF prC f → fr.get 18 = slF prC f → fr.get 19 = .d (nI f.length) → fr.get 20 = .d (nI (IntKind.i64.wrap ((i : Int) + 1))) →
        ∃ m fr' σ', m < f.length - i ∧ Trim ([] : Store).length fr [b] fr' σ' ∧ ∃ i : Nat, fr' = [(0, slF atC s), (1, slF prC f), (18, slF prC f), (19, .d (nI f.length)), (20, .d (nI i))] ∧ σ' = [] ∧ i ≤ f.length ∧ fltFrom s f (f.drop i) i = fltFrom s f f 0 ∧ m = f.length - i := fun h {fr b} h0 h1 h18 h19 h20 => by
      rw [h] at hr
      rw [g1] at h20
      refine ⟨_, _, _, ?_, Trim.of [0, 1, 18, 19, 20] [] (by decide) (by simp) (by simp), i + 1, ?_, rfl, by omega, hr, rfl⟩
      · omega
      · simp only [keepFr, h0, h1, h18, h19, h20]; rfl
    refine W.need (ix_ok prC_len (by decide) hil) ?_
    refine W.ld (prE hp) ?_
    rcases findA_spec s p.nm with hk | ⟨k, a, hk, ha, hat⟩
    · refine W.pure (hk ▸ ok28 s hs p.nm) rfl rfl ?_
      repeat (first | refine W.ite_t rfl ?_ | refine W.ite_f rfl ?_)
      refine W.pure (ok56 i 3) rfl rfl ?_
      exact W.ret (W.ret (isBad (by unfold prdBad; rw [hk]; rfl)))
    · have hks := (List.getElem?_eq_some_iff.1 ha).1
      have d0 : decide ((k : Int) < 0) = false := decide_eq_false (by omega)
      refine W.pure (hk ▸ ok28 s hs p.nm) rfl rfl ?_
      repeat (first | refine W.ite_t rfl ?_ | refine W.ite_f rfl ?_ | refine W.ite_f d0 ?_)
      refine W.need ⟨by omega, by omega⟩ ?_
      repeat (first | refine W.ite_t rfl ?_ | refine W.ite_f rfl ?_ | refine W.ite_f d0 ?_)
      refine W.call [0] (by decide) (by simp) (by simp) (args' := [slF prC (f.take i), .fn 58 [.ptr 0 0]]) (by rw [cutP hi]; rfl) rfl (ok57 (fun q => sEq q.nm p.nm) 58 (prC p) (f.take i) (by rw [List.length_take]; omega) (fun x _ => ok58 x p)) ?_
      rintro v s' ⟨rfl, rfl⟩
      repeat (first | refine W.ite_t rfl ?_ | refine W.ite_f rfl ?_ | refine W.ite_f d0 ?_)
      refine W.ite (fun c4 => ?_) (fun c4 => ?_)
      · refine W.pure (ok56 i 3) rfl rfl ?_
        exact W.ret (W.ret (isBad (by unfold prdBad; rw [c4]; simp)))
      have hb : prdBad s f i p = !prdOk a p := by unfold prdBad; rw [c4, hk, hat, d0]; rfl
      have hix := ix_ok atC_len (by decide) hks
      refine W.ite (fun c5 => ?_) (fun c5 => ?_)
      · have ho : p.o = 1 := by simpa using c5
        have hpo : prdOk a p = numOk a p := by unfold prdOk; rw [if_pos ho]
        rw [hpo] at hb
        unfold numOk at hb
        refine W.need hix ?_
        refine W.ld (atF1 ha) ?_
        refine W.ite (fun e1 => ?_) (fun e1 => ?_)
        · have e1 : (a.k == 1) = true := e1
          repeat (first | refine W.ite_t rfl ?_ | refine W.ite_f rfl ?_ | refine W.ite_t e1 ?_ | refine W.need hix ?_ | refine W.ld (atF2 ha) ?_)
          refine W.ite (fun e2 => ?_) (fun e2 => ?_)
          · repeat (first | refine W.ite_t rfl ?_ | refine W.ite_f rfl ?_ | refine W.ite_t e1 ?_ | refine W.ite_t e2 ?_ | refine W.need hix ?_ | refine W.ld (atF3 ha) ?_)
            refine W.ite (fun e3 => ?_) (fun e3 => ?_)
            · repeat (first | refine W.ite_t rfl ?_ | refine W.ite_f rfl ?_ | refine W.ite_t e1 ?_ | refine W.ite_t e2 ?_ | refine W.ite_t e3 ?_)
              refine W.ite (fun e4 => ?_) (fun e4 => ?_)
              · repeat (first | refine W.ite_t rfl ?_ | refine W.ite_f rfl ?_ | refine W.ite_t e1 ?_ | refine W.ite_t e2 ?_ | refine W.ite_t e3 ?_ | refine W.ite_t e4 ?_)
                refine W.ite (fun e5 => ?_) (fun e5 => ?_)
                · refine W.pure (ok56 i 3) rfl rfl ?_
                  have e5 : sEq p.str (txt []) = false := by have : (!sEq p.str (txt [])) = true := e5; simpa using this
                  exact W.ret (W.ret (isBad (by rw [hb, e5]; simp)))
                · have e5 : sEq p.str (txt []) = true := by have : (!sEq p.str (txt [])) = false := e5; simpa using this
                  exact W.ret (isGood (by rw [hb, e1, e2, e3, e4, e5]; rfl) rfl rfl rfl rfl rfl)
              · repeat (first | refine W.ite_t rfl ?_ | refine W.ite_f rfl ?_ | refine W.ite_t e1 ?_ | refine W.ite_t e2 ?_ | refine W.ite_t e3 ?_ | refine W.ite_f e4 ?_)
                refine W.pure (ok56 i 3) rfl rfl ?_
                exact W.ret (W.ret (isBad (by rw [hb, e4]; simp)))
            · repeat (first | refine W.ite_t rfl ?_ | refine W.ite_f rfl ?_ | refine W.ite_t e1 ?_ | refine W.ite_t e2 ?_ | refine W.ite_f e3 ?_)
              refine W.pure (ok56 i 3) rfl rfl ?_
              exact W.ret (W.ret (isBad (by rw [hb, e3]; simp)))
          · repeat (first | refine W.ite_t rfl ?_ | refine W.ite_f rfl ?_ | refine W.ite_t e1 ?_ | refine W.ite_f e2 ?_)
            refine W.pure (ok56 i 3) rfl rfl ?_
            exact W.ret (W.ret (isBad (by rw [hb, e2]; simp)))
        · have e1 : (a.k == 1) = false := e1
          repeat (first | refine W.ite_t rfl ?_ | refine W.ite_f rfl ?_ | refine W.ite_f e1 ?_)
          refine W.pure (ok56 i 3) rfl rfl ?_
          exact W.ret (W.ret (isBad (by rw [hb, e1]; simp)))
      · have ho : ¬ p.o = 1 := by simpa using c5
        have five : ∀ (hpo : prdOk a p = textOk a p), prdBad s f i p = !((((a.k == 2) && (p.lo == 0)) && (p.hi == 0)) && strOk p.str) := fun hpo => by rw [hb, hpo]; rfl
        refine W.ite (fun c6 => ?_) (fun c6 => ?_)
        · have ho3 : p.o = 3 := by simpa using c6
          refine W.ite (fun c7 => ?_) (fun c7 => ?_)
          · have c7 : sEq p.str (txt []) = true := c7
            repeat (first | refine W.ite_t rfl ?_ | refine W.ite_f rfl ?_)
            refine W.pure (ok56 i 3) rfl rfl ?_
            exact W.ret (W.ret (isBad (by rw [hb]; unfold prdOk; rw [if_neg ho, if_pos ho3, c7]; rfl)))
          have c7 : sEq p.str (txt []) = false := c7
          have hb := five (by unfold prdOk; rw [if_neg ho, if_pos ho3, c7]; rfl)
          refine W.need hix ?_
          refine W.ld (atF1 ha) ?_
          refine W.ite (fun e1 => ?_) (fun e1 => ?_)
          · have e1 : (a.k == 2) = true := e1
            repeat (first | refine W.ite_t rfl ?_ | refine W.ite_f rfl ?_ | refine W.ite_t e1 ?_)
            refine W.ite (fun e2 => ?_) (fun e2 => ?_)
            · have e2 : (p.lo == 0) = true := e2
              repeat (first | refine W.ite_t rfl ?_ | refine W.ite_f rfl ?_ | refine W.ite_t e1 ?_ | refine W.ite_t e2 ?_)
              refine W.ite (fun e3 => ?_) (fun e3 => ?_)
              · have e3 : (p.hi == 0) = true := e3
                repeat (first | refine W.ite_t rfl ?_ | refine W.ite_f rfl ?_ | refine W.ite_t e1 ?_ | refine W.ite_t e2 ?_ | refine W.ite_t e3 ?_)
                refine W.pure (ok59 p.str) rfl rfl ?_
                repeat (first | refine W.ite_t rfl ?_ | refine W.ite_f rfl ?_ | refine W.ite_t e1 ?_ | refine W.ite_t e2 ?_ | refine W.ite_t e3 ?_)
                refine W.ite (fun e4 => ?_) (fun e4 => ?_)
                · refine W.pure (ok56 i 3) rfl rfl ?_
                  exact W.ret (W.ret (isBad (by rw [hb, e1, e2, e3]; simpa using e4)))
                · exact W.ret (isGood (by rw [hb, e1, e2, e3]; simpa using e4) rfl rfl rfl rfl rfl)
              · have e3 : (p.hi == 0) = false := e3
                repeat (first | refine W.ite_t rfl ?_ | refine W.ite_f rfl ?_ | refine W.ite_t e1 ?_ | refine W.ite_t e2 ?_ | refine W.ite_f e3 ?_)
                refine W.pure (ok56 i 3) rfl rfl ?_
                exact W.ret (W.ret (isBad (by rw [hb, e3]; simp)))
            · have e2 : (p.lo == 0) = false := e2
              repeat (first | refine W.ite_t rfl ?_ | refine W.ite_f rfl ?_ | refine W.ite_t e1 ?_ | refine W.ite_f e2 ?_)
              refine W.pure (ok56 i 3) rfl rfl ?_
              exact W.ret (W.ret (isBad (by rw [hb, e2]; simp)))
          · have e1 : (a.k == 2) = false := e1
            repeat (first | refine W.ite_t rfl ?_ | refine W.ite_f rfl ?_ | refine W.ite_f e1 ?_)
            refine W.pure (ok56 i 3) rfl rfl ?_
            exact W.ret (W.ret (isBad (by rw [hb, e1]; simp)))
        refine W.ite (fun c7 => ?_) (fun c7 => ?_)
        · have ho3 : ¬ p.o = 3 := by simpa using c6
          have ho2 : p.o = 2 := by simpa using c7
          have hb := five (by unfold prdOk; rw [if_neg ho, if_neg ho3, if_pos ho2])
          refine W.need hix ?_
          refine W.ld (atF1 ha) ?_
          refine W.ite (fun e1 => ?_) (fun e1 => ?_)
          · have e1 : (a.k == 2) = true := e1
            repeat (first | refine W.ite_t rfl ?_ | refine W.ite_f rfl ?_ | refine W.ite_t e1 ?_)
            refine W.ite (fun e2 => ?_) (fun e2 => ?_)
            · have e2 : (p.lo == 0) = true := e2
              repeat (first | refine W.ite_t rfl ?_ | refine W.ite_f rfl ?_ | refine W.ite_t e1 ?_ | refine W.ite_t e2 ?_)
              refine W.ite (fun e3 => ?_) (fun e3 => ?_)
              · have e3 : (p.hi == 0) = true := e3
                repeat (first | refine W.ite_t rfl ?_ | refine W.ite_f rfl ?_ | refine W.ite_t e1 ?_ | refine W.ite_t e2 ?_ | refine W.ite_t e3 ?_)
                refine W.pure (ok59 p.str) rfl rfl ?_
                repeat (first | refine W.ite_t rfl ?_ | refine W.ite_f rfl ?_ | refine W.ite_t e1 ?_ | refine W.ite_t e2 ?_ | refine W.ite_t e3 ?_)
                refine W.ite (fun e4 => ?_) (fun e4 => ?_)
                · refine W.pure (ok56 i 3) rfl rfl ?_
                  exact W.ret (W.ret (isBad (by rw [hb, e1, e2, e3]; simpa using e4)))
                · exact W.ret (isGood (by rw [hb, e1, e2, e3]; simpa using e4) rfl rfl rfl rfl rfl)
              · have e3 : (p.hi == 0) = false := e3
                repeat (first | refine W.ite_t rfl ?_ | refine W.ite_f rfl ?_ | refine W.ite_t e1 ?_ | refine W.ite_t e2 ?_ | refine W.ite_f e3 ?_)
                refine W.pure (ok56 i 3) rfl rfl ?_
                exact W.ret (W.ret (isBad (by rw [hb, e3]; simp)))
            · have e2 : (p.lo == 0) = false := e2
              repeat (first | refine W.ite_t rfl ?_ | refine W.ite_f rfl ?_ | refine W.ite_t e1 ?_ | refine W.ite_f e2 ?_)
              refine W.pure (ok56 i 3) rfl rfl ?_
              exact W.ret (W.ret (isBad (by rw [hb, e2]; simp)))
          · have e1 : (a.k == 2) = false := e1
            repeat (first | refine W.ite_t rfl ?_ | refine W.ite_f rfl ?_ | refine W.ite_f e1 ?_)
            refine W.pure (ok56 i 3) rfl rfl ?_
            exact W.ret (W.ret (isBad (by rw [hb, e1]; simp)))
        · have ho3 : ¬ p.o = 3 := by simpa using c6
          have ho2 : ¬ p.o = 2 := by simpa using c7
          repeat (first | refine W.ite_t rfl ?_ | refine W.ite_f rfl ?_)
          refine W.pure (ok56 i 3) rfl rfl ?_
          exact W.ret (W.ret (isBad (by rw [hb]; unfold prdOk; rw [if_neg ho, if_neg ho3, if_neg ho2]; rfl)))
  · have hil : f.drop i = [] := by have := of_decide_eq_false c3; exact List.drop_of_length_le (by omega)
    rw [hil] at hr
    refine W.ret (W.ret ?_)
    refine RetQ.pure rfl ?_
    rw [← hr]
    rfl
end Go.Proofs.YtbjjimllnffcpaaGreatDoor.Va

set_option maxRecDepth 100000
set_option linter.unusedVariables false
set_option linter.unusedSimpArgs false
namespace Go.Proofs.YtbjjimllnffcpaaGreatDoor.Va
open Go Go.Am
def noVal : Val := ⟨0, txt []⟩
/-- The value that a predicate asks. -/
def valOf (s : List Att) (e : Evt) (nm : ByteArray) : Val := (e.vals[(findA s nm).toNat]?).getD noVal
def matchV (s : List Att) (f : List Prd) (e : Evt) : Bool := if fltErr s f ≠ none ∨ evtErr s e ≠ none then false else !(f.any fun p => !takeV p (valOf s e p.nm))
theorem fltFrom_none (s : List Att) (f : List Prd) : ∀ (r : List Prd) (i : Nat), fltFrom s f r i = none → ∀ (j : Nat) (p : Prd), r[j]? = some p → prdBad s f (i + j) p = false
  | [], i, _, j, p, hp => by simp at hp
  | q :: r, i, h, j, p, hp => by
    unfold fltFrom at h
    split at h
    · cases h
    · rename_i hq
      cases j with
      | zero =>
        obtain rfl : q = p := by simpa using hp
        simpa using hq
      | succ j =>
        have := fltFrom_none s f r (i + 1) h j p (by simpa using hp)
        rw [show i + (j + 1) = i + 1 + j from by omega]
        exact this
theorem fltErr_none {s : List Att} {f : List Prd} (h : fltErr s f = none) : 1 ≤ f.length ∧ f.length ≤ 4 ∧ ∀ (j : Nat) (p : Prd), f[j]? = some p → prdBad s f j p = false := by
  unfold fltErr at h
  split at h
  · cases h
  · rename_i hn
    refine ⟨by omega, by omega, fun j p hp => ?_⟩
    have := fltFrom_none s f f 0 h j p hp
    rwa [Nat.zero_add] at this
theorem prd_found {s : List Att} {f : List Prd} (h : fltErr s f = none) {p : Prd} (hp : p ∈ f) : findA s p.nm ≠ -1 ∧ prdOk (attOf s p.nm) p = true := by
  obtain ⟨j, hj⟩ := List.getElem?_of_mem hp
  have := (fltErr_none h).2.2 j p hj
  unfold prdBad at this
  simp only [Bool.or_eq_false_iff, Bool.not_eq_false'] at this
  refine ⟨fun e => ?_, this.2.2⟩
  rw [e] at this
  exact absurd this.1 (by decide)
theorem evtErr_none {s : List Att} {e : Evt} (h : evtErr s e = none) : e.vals.length = s.length := by
  unfold evtErr at h
  split at h
  · cases h
  · rename_i hn
    exact Decidable.byContradiction fun h' => hn (.inl h')
end Go.Proofs.YtbjjimllnffcpaaGreatDoor.Va

set_option maxRecDepth 100000
set_option linter.unusedVariables false
set_option linter.unusedSimpArgs false
namespace Go.Proofs.YtbjjimllnffcpaaGreatDoor.Va
open Go Go.Am
def od17 : Ords := []
theorem code17 : codeB Tryz.f17.ntmps od17 (match Tryz.f17.body with | some c => c | none => .skip) = true := by kernel_rfl
/-- A text, cut. -/
def cutN (s : ByteArray) (n : Nat) : ByteArray := if s.size > n then s.extract 0 n else s
theorem cutN_le (s : ByteArray) (n : Nat) : (cutN s n).size ≤ n := by
  unfold cutN
  split
  · simp [ByteArray.size_extract]; omega
  · omega
theorem ok17 (s : ByteArray) (n : Nat) : Go.Am.Pure Tryz.prog 17 [.d (sD s), .d (nI n)] (.d (sD (cutN s n))) := by
  refine CallOk.of tysOk mixed od17 Tryz.func17 rfl rfl code17 ?_
  refine W.ite (fun h => ?_) (fun h => ?_)
  · have h1 : (s.size : Int) > n := of_decide_eq_true h
    refine W.need ⟨by omega, by omega⟩ ?_
    refine W.ret (RetQ.pure rfl ?_)
    have : cutN s n = s.extract 0 n := by unfold cutN; rw [if_pos (by omega)]
    rw [this]
    rfl
  · have h1 : ¬ (s.size : Int) > n := of_decide_eq_false h
    refine W.ret (RetQ.pure rfl ?_)
    have : cutN s n = s := by unfold cutN; rw [if_neg (by omega)]
    rw [this]
    rfl
theorem atC_one (a : Att) : ∀ d ∈ atC a, d.one = true := by
  intro d h
  simp only [atC, List.mem_cons, List.not_mem_nil, or_false] at h
  rcases h with rfl | rfl | rfl | rfl <;> rfl
theorem prC_one (a : Prd) : ∀ d ∈ prC a, d.one = true := by
  intro d h
  simp only [prC, List.mem_cons, List.not_mem_nil, or_false] at h
  rcases h with rfl | rfl | rfl | rfl | rfl <;> rfl
theorem vaC_one (a : Val) : ∀ d ∈ vaC a, d.one = true := by
  intro d h
  simp only [vaC, List.mem_cons, List.not_mem_nil, or_false] at h
  rcases h with rfl | rfl <;> rfl
def od5 : Ords := []
theorem code5 : codeB Tryz.f5.ntmps od5 (match Tryz.f5.body with | some c => c | none => .skip) = true := by kernel_rfl
def cutA20 (a : Att) : Att := { a with nm := cutN a.nm 20 }
/-- The first six attributes, their names cut. -/
def att6 (s : List Att) : List Att := (s.take 6).map cutA20
theorem att6_len (s : List Att) : (att6 s).length ≤ 6 := by simp [att6]; omega
theorem take_succ_of {α β : Type} {f : α → β} {l : List α} {i : Nat} {a : α} (h : l[i]? = some a) : (l.take (i + 1)).map f = (l.take i).map f ++ [f a] := by
  obtain ⟨h1, h2⟩ := List.getElem?_eq_some_iff.1 h
  rw [List.take_add_one, List.map_append, h]
  rfl
set_option maxHeartbeats 4000000 in
theorem ok5 (s : List Att) : Go.Am.Pure Tryz.prog 5 [slF atC s] (.tuple [slF atC (att6 s), slF atC (att6 s)]) := by
  refine CallOk.of tysOk mixed od5 Tryz.func5 rfl rfl code5 ?_
  have fin : ∀ {L : List Att}, L = att6 s → RetQ ([] : Store).length (fun v s' => v = .tuple [slF atC (att6 s), slF atC (att6 s)] ∧ s' = []) .ret [(0, mkRet [.vec 0 L.length, .vec 1 L.length])] [.vec 4 L.length (flat atC L), .vec 4 L.length (flat atC L)] := fun {L} h => by
    subst h
    refine RetQ.part [] (by decide) (by simp) (by simp) ⟨?_, rfl⟩
    show AV.tuple [.d (.sl (att6 s).length ((flat atC (att6 s)).take ((att6 s).length * 4))), .d (.sl (att6 s).length ((flat atC (att6 s)).take ((att6 s).length * 4)))] = _
    rw [flat_all atC_len]
    rfl
  refine W.loop (fun k fr σ => ∃ (i : Nat) (L : List Att), fr = [(0, slF atC s), (4, .vec 0 L.length), (5, .vec 1 L.length), (6, .d (nI i))] ∧ σ = [.vec 4 L.length (flat atC L), .vec 4 L.length (flat atC L)] ∧ i ≤ s.length ∧ i ≤ 6 ∧ L = (s.take i).map cutA20 ∧ k = 6 - i) 6
    (Start.of [0, 4, 5, 6] [] (by simp)) ⟨0, [], rfl, rfl, by omega, by omega, by simp, rfl⟩ ?_
  rintro k fr σ ⟨i, L, rfl, rfl, hi, hi6, hL, rfl⟩
  have hlen : L.length = i := by rw [hL]; simp; omega
  have over : ¬ ((i : Int) < s.length ∧ (i : Int) < 6) → L = att6 s := fun h => by
    rw [hL]
    unfold att6
    congr 1
    by_cases h6 : i = 6
    · rw [h6]
    · have : i = s.length := by omega
      rw [List.take_of_length_le (by omega), List.take_of_length_le (by omega)]
  refine W.ite (fun c1 => ?_) (fun c1 => ?_)
  · have h1 := of_decide_eq_true c1
    repeat (first | refine W.ite_t rfl ?_ | refine W.ite_f rfl ?_ | refine W.ite_t c1 ?_)
    refine W.ite (fun c2 => ?_) (fun c2 => ?_)
    · have h2 := of_decide_eq_true c2
      obtain ⟨a, ha⟩ : ∃ a, s[i]? = some a := ⟨_, List.getElem?_eq_getElem (by omega)⟩
      refine W.need (ix_ok atC_len (by decide) (by omega)) ?_
      refine W.ld (atE ha) ?_
      refine W.pure (ok17 a.nm 20) rfl rfl ?_
      refine W.alt_l ?_
      refine W.need ⟨rfl, rfl, rfl, by omega, by omega, atC_one (cutA20 a)⟩ ?_
      refine W.alt_l ?_
      refine W.need ⟨rfl, rfl, rfl, by omega, by omega, atC_one (cutA20 a)⟩ ?_
      have g1 : IntKind.i64.wrap ((i : Int) + 1) = ((i + 1 : Nat) : Int) := by rw [wrap64 (by omega) (by omega)]; rfl
      have hl1 : (L ++ [cutA20 a]).length = L.length + 1 := by simp
      have hf1 : flat atC (L ++ [cutA20 a]) = flat atC L ++ atC (cutA20 a) := by rw [flat_append]; simp [flat]
      refine W.ret ⟨_, _, _, ?_, Trim.of [0, 4, 5, 6] [0, 1] (by decide) (by simp) (by intro j hj; have : j = 0 ∨ j = 1 := (by simp at hj; omega); rcases this with rfl | rfl <;> rfl), i + 1, L ++ [cutA20 a], ?_, ?_, by omega, by omega, ?_, rfl⟩
      · omega
      · rw [hl1, ← g1]; rfl
      · rw [hl1, hf1]; rfl
      · rw [take_succ_of ha, hL]
    · have h2 := of_decide_eq_false c2
      exact W.ret (W.ret (fin (over (by omega))))
  · have h1 := of_decide_eq_false c1
    repeat (first | refine W.ite_t rfl ?_ | refine W.ite_f rfl ?_ | refine W.ite_f c1 ?_)
    exact W.ret (W.ret (fin (over (by omega))))
def od6 : Ords := []
theorem code6 : codeB Tryz.f6.ntmps od6 (match Tryz.f6.body with | some c => c | none => .skip) = true := by kernel_rfl
def cutP20 (p : Prd) : Prd := { p with nm := cutN p.nm 20, str := cutN p.str 50 }
/-- The first six predicates, their texts cut. -/
def prd6 (f : List Prd) : List Prd := (f.take 6).map cutP20
theorem prd6_len (s : List Prd) : (prd6 s).length ≤ 6 := by simp [prd6]; omega
set_option maxHeartbeats 4000000 in
theorem ok6 (s : List Prd) : Go.Am.Pure Tryz.prog 6 [slF prC s] (.tuple [slF prC (prd6 s), slF prC (prd6 s)]) := by
  refine CallOk.of tysOk mixed od6 Tryz.func6 rfl rfl code6 ?_
  have fin : ∀ {L : List Prd}, L = prd6 s → RetQ ([] : Store).length (fun v s' => v = .tuple [slF prC (prd6 s), slF prC (prd6 s)] ∧ s' = []) .ret [(0, mkRet [.vec 0 L.length, .vec 1 L.length])] [.vec 5 L.length (flat prC L), .vec 5 L.length (flat prC L)] := fun {L} h => by
    subst h
    refine RetQ.part [] (by decide) (by simp) (by simp) ⟨?_, rfl⟩
    show AV.tuple [.d (.sl (prd6 s).length ((flat prC (prd6 s)).take ((prd6 s).length * 5))), .d (.sl (prd6 s).length ((flat prC (prd6 s)).take ((prd6 s).length * 5)))] = _
    rw [flat_all prC_len]
    rfl
  refine W.loop (fun k fr σ => ∃ (i : Nat) (L : List Prd), fr = [(0, slF prC s), (4, .vec 0 L.length), (5, .vec 1 L.length), (6, .d (nI i))] ∧ σ = [.vec 5 L.length (flat prC L), .vec 5 L.length (flat prC L)] ∧ i ≤ s.length ∧ i ≤ 6 ∧ L = (s.take i).map cutP20 ∧ k = 6 - i) 6
    (Start.of [0, 4, 5, 6] [] (by simp)) ⟨0, [], rfl, rfl, by omega, by omega, by simp, rfl⟩ ?_
  rintro k fr σ ⟨i, L, rfl, rfl, hi, hi6, hL, rfl⟩
  have hlen : L.length = i := by rw [hL]; simp; omega
  have over : ¬ ((i : Int) < s.length ∧ (i : Int) < 6) → L = prd6 s := fun h => by
    rw [hL]
    unfold prd6
    congr 1
    by_cases h6 : i = 6
    · rw [h6]
    · have : i = s.length := by omega
      rw [List.take_of_length_le (by omega), List.take_of_length_le (by omega)]
  refine W.ite (fun c1 => ?_) (fun c1 => ?_)
  · have h1 := of_decide_eq_true c1
    repeat (first | refine W.ite_t rfl ?_ | refine W.ite_f rfl ?_ | refine W.ite_t c1 ?_)
    refine W.ite (fun c2 => ?_) (fun c2 => ?_)
    · have h2 := of_decide_eq_true c2
      obtain ⟨a, ha⟩ : ∃ a, s[i]? = some a := ⟨_, List.getElem?_eq_getElem (by omega)⟩
      refine W.need (ix_ok prC_len (by decide) (by omega)) ?_
      refine W.ld (prE ha) ?_
      refine W.pure (ok17 a.nm 20) rfl rfl ?_
      refine W.pure (ok17 a.str 50) rfl rfl ?_
      refine W.alt_l ?_
      refine W.need ⟨rfl, rfl, rfl, by omega, by omega, prC_one (cutP20 a)⟩ ?_
      refine W.alt_l ?_
      refine W.need ⟨rfl, rfl, rfl, by omega, by omega, prC_one (cutP20 a)⟩ ?_
      have g1 : IntKind.i64.wrap ((i : Int) + 1) = ((i + 1 : Nat) : Int) := by rw [wrap64 (by omega) (by omega)]; rfl
      have hl1 : (L ++ [cutP20 a]).length = L.length + 1 := by simp
      have hf1 : flat prC (L ++ [cutP20 a]) = flat prC L ++ prC (cutP20 a) := by rw [flat_append]; simp [flat]
      refine W.ret ⟨_, _, _, ?_, Trim.of [0, 4, 5, 6] [0, 1] (by decide) (by simp) (by intro j hj; have : j = 0 ∨ j = 1 := (by simp at hj; omega); rcases this with rfl | rfl <;> rfl), i + 1, L ++ [cutP20 a], ?_, ?_, by omega, by omega, ?_, rfl⟩
      · omega
      · rw [hl1, ← g1]; rfl
      · rw [hl1, hf1]; rfl
      · rw [take_succ_of ha, hL]
    · have h2 := of_decide_eq_false c2
      exact W.ret (W.ret (fin (over (by omega))))
  · have h1 := of_decide_eq_false c1
    repeat (first | refine W.ite_t rfl ?_ | refine W.ite_f rfl ?_ | refine W.ite_f c1 ?_)
    exact W.ret (W.ret (fin (over (by omega))))
end Go.Proofs.YtbjjimllnffcpaaGreatDoor.Va

set_option maxRecDepth 100000
set_option linter.unusedVariables false
set_option linter.unusedSimpArgs false
namespace Go.Proofs.YtbjjimllnffcpaaGreatDoor.Va
open Go Go.Am
def od7 : Ords := []
theorem code7 : codeB Tryz.f7.ntmps od7 (match Tryz.f7.body with | some c => c | none => .skip) = true := by kernel_rfl
def cutV50 (v : Val) : Val := { v with str := cutN v.str 50 }
/-- The first six values, their texts cut. -/
def evt6 (e : Evt) : Evt := ⟨(e.vals.take 6).map cutV50, cutN e.pay 210⟩
/-- Its values so far, as a slice. -/
def valsA (k : Nat) (L : List Val) : AV := match L with | [] => .d (.lit (.slice none 0 0)) | _ :: _ => .vec k L.length
def valsB (L : List Val) : List Blk := match L with | [] => [] | _ :: _ => [.vec 2 L.length (flat vaC L)]
theorem tk {i n : Nat} {T : List Nat} (hT : ∀ j, j < n → T[j]? = some j) : ∀ j, j < n → T[j]? = some j := hT
theorem four_ix {i : Nat} (h : i < 4) (r : List Nat) : (0 :: 1 :: 2 :: 3 :: r)[i]? = some i := by
  have : i = 0 ∨ i = 1 ∨ i = 2 ∨ i = 3 := by omega
  rcases this with rfl | rfl | rfl | rfl <;> rfl
set_option maxHeartbeats 8000000 in
theorem ok7 (e : Evt) : Go.Am.Pure Tryz.prog 7 [.d (.agg (evC e))] (.tuple [.d (.agg (evC (evt6 e))), slF vaC (evt6 e).vals]) := by
  refine CallOk.weak (R := fun v s => v = .tuple [.d (.agg [(match (evt6 e).vals with | [] => .lit (.slice none 0 0) | _ :: _ => .sl (evt6 e).vals.length (flat vaC (evt6 e).vals)), sD (evt6 e).pay]), slF vaC (evt6 e).vals] ∧ s = []) ?_ ?_
  · refine CallOk.of tysOk mixed od7 Tryz.func7 rfl rfl code7 ?_
    refine W.pure (ok17 e.pay 210) rfl rfl ?_
    generalize hpay : cutN e.pay 210 = pay
    refine W.loop (fun k fr σ => ∃ (i : Nat) (L : List Val), fr = [(1, .ptr 0 0), (2, .ptr 1 0), (4, .ptr 3 0), (5, .vec 2 L.length), (6, .d (nI i))] ∧
        σ = bD (evC e) :: .var [.d (.lit (.slice none 0 0)), .d (sD ⟨#[]⟩)] :: .vec 2 L.length (flat vaC L) :: .var [valsA 4 L, .d (sD pay)] :: valsB L ∧ i ≤ e.vals.length ∧ i ≤ 6 ∧ L = (e.vals.take i).map cutV50 ∧ k = 6 - i) 6
      (Start.of [1, 2, 4, 5, 6] [] (by simp)) ⟨0, [], rfl, rfl, by omega, by omega, by simp, rfl⟩ ?_
    rintro k fr σ ⟨i, L, rfl, rfl, hi, hi6, hL, rfl⟩
    have hlen : L.length = i := by rw [hL]; simp; omega
    have over : ¬ ((i : Int) < e.vals.length ∧ (i : Int) < 6) → L = (evt6 e).vals := fun h => by
      rw [hL]
      unfold evt6
      dsimp only
      congr 1
      by_cases h6 : i = 6
      · rw [h6]
      · have : i = e.vals.length := by omega
        rw [List.take_of_length_le (by omega), List.take_of_length_le (by omega)]
    have fin : ∀ {L : List Val} {σ : Store}, L = (evt6 e).vals → σ = bD (evC e) :: .var [valsA 4 L, .d (sD pay)] :: .vec 2 L.length (flat vaC L) :: .var [valsA 4 L, .d (sD pay)] :: valsB L →
        RetQ ([] : Store).length (fun v s => v = .tuple [.d (.agg [(match (evt6 e).vals with | [] => .lit (.slice none 0 0) | _ :: _ => .sl (evt6 e).vals.length (flat vaC (evt6 e).vals)), sD (evt6 e).pay]), slF vaC (evt6 e).vals] ∧ s = []) .ret
          [(0, .tuple [mkAgg [valsA 4 L, .d (sD pay)], .vec 2 L.length])] σ := fun {L σ} hL hσ => by
      subst hσ
      have hp : (evt6 e).pay = pay := hpay
      rw [hp, ← hL]
      refine RetQ.part [] (by decide) (by simp) (by simp) ⟨?_, rfl⟩
      cases L with
      | nil =>
        show AV.tuple [.d (.agg [.lit (.slice none 0 0), sD pay]), .d (.sl 0 ((flat vaC []).take (0 * 2)))] = _
        rfl
      | cons x r =>
        show AV.tuple [.d (.agg [.sl (x :: r).length ((flat vaC (x :: r)).take ((x :: r).length * 2)), sD pay]), .d (.sl (x :: r).length ((flat vaC (x :: r)).take ((x :: r).length * 2)))] = _
        rw [flat_all vaC_len]
        rfl
    have stop : ∀ {L : List Val}, L = (evt6 e).vals → True := fun _ => True.intro
    refine W.ite (fun c1 => ?_) (fun c1 => ?_)
    · have h1 := of_decide_eq_true c1
      repeat (first | refine W.ite_t rfl ?_ | refine W.ite_f rfl ?_ | refine W.ite_t c1 ?_)
      refine W.ite (fun c2 => ?_) (fun c2 => ?_)
      · have h2 := of_decide_eq_true c2
        obtain ⟨v, hv⟩ : ∃ v, e.vals[i]? = some v := ⟨_, List.getElem?_eq_getElem (by omega)⟩
        have g1 : IntKind.i64.wrap ((i : Int) + 1) = ((i + 1 : Nat) : Int) := by rw [wrap64 (by omega) (by omega)]; rfl
        have hl1 : (L ++ [cutV50 v]).length = L.length + 1 := by simp
        have hf1 : flat vaC (L ++ [cutV50 v]) = flat vaC L ++ vaC (cutV50 v) := by rw [flat_append]; simp [flat]
        have hL1 : L ++ [cutV50 v] = (e.vals.take (i + 1)).map cutV50 := by rw [take_succ_of hv, hL]
        refine W.need (ix_ok vaC_len (by decide) (by omega)) ?_
        cases L with
        | nil =>
          refine W.ld (vaE hv) ?_
          refine W.pure (ok17 v.str 50) rfl rfl ?_
          refine W.alt_l ?_
          refine W.need ⟨rfl, by decide, by decide, vaC_one (cutV50 v)⟩ ?_
          refine W.alt_l ?_
          refine W.need ⟨rfl, rfl, rfl, by decide, by decide, vaC_one (cutV50 v)⟩ ?_
          refine W.ret ⟨_, _, _, ?_, Trim.of [1, 2, 4, 5, 6] [0, 1, 2, 3, 5] (by decide) (by simp) (fun j hj => four_ix (by simpa [valsB] using hj) _), i + 1, [] ++ [cutV50 v], ?_, rfl, by omega, by omega, hL1, rfl⟩
          · omega
          · rw [← g1]; rfl
        | cons x r =>
          refine W.ld (vaE hv) ?_
          refine W.pure (ok17 v.str 50) rfl rfl ?_
          refine W.alt_l ?_
          refine W.need ⟨rfl, rfl, rfl, by simp at hlen ⊢; omega, by simp at hlen ⊢; omega, vaC_one (cutV50 v)⟩ ?_
          refine W.alt_l ?_
          refine W.need ⟨rfl, rfl, rfl, by simp at hlen ⊢; omega, by simp at hlen ⊢; omega, vaC_one (cutV50 v)⟩ ?_
          refine W.ret ⟨_, _, _, ?_, Trim.of [1, 2, 4, 5, 6] [0, 1, 2, 3, 4] (by decide) (by simp) ?_, i + 1, (x :: r) ++ [cutV50 v], ?_, ?_, by omega, by omega, hL1, rfl⟩
          · omega
          · intro j hj
            have : j = 0 ∨ j = 1 ∨ j = 2 ∨ j = 3 ∨ j = 4 := by simp [valsB] at hj; omega
            rcases this with rfl | rfl | rfl | rfl | rfl <;> rfl
          · rw [hl1, ← g1]; rfl
          · rw [hl1, hf1]
            show _ = bD (evC e) :: .var [.d (.lit (.slice none 0 0)), .d (sD ⟨#[]⟩)] :: .vec 2 ((x :: r).length + 1) (flat vaC (x :: r) ++ vaC (cutV50 v)) :: .var [.vec 4 ((x :: r) ++ [cutV50 v]).length, .d (sD pay)] :: [.vec 2 ((x :: r) ++ [cutV50 v]).length (flat vaC ((x :: r) ++ [cutV50 v]))]
            rw [hl1, hf1]
            rfl
      · have h2 := of_decide_eq_false c2
        have hov := over (by omega)
        refine W.ret ?_
        cases L with
        | nil => exact W.ret (fin hov rfl)
        | cons x r => exact W.ret (fin hov rfl)
    · have h1 := of_decide_eq_false c1
      have hov := over (by omega)
      repeat (first | refine W.ite_t rfl ?_ | refine W.ite_f rfl ?_ | refine W.ite_f c1 ?_)
      refine W.ret ?_
      cases L with
      | nil => exact W.ret (fin hov rfl)
      | cons x r => exact W.ret (fin hov rfl)
  · rintro v s ⟨rfl, rfl⟩
    refine ⟨_, fun g x h => ?_, rfl, rfl⟩
    obtain ⟨vs, rfl, a, r, rfl, ha, k⟩ := h
    refine ⟨_, rfl, a, r, rfl, ?_, k⟩
    obtain ⟨us, rfl, b, t, rfl, hb, kb⟩ := ha
    refine ⟨_, rfl, b, t, rfl, ?_, kb⟩
    cases hv : (evt6 e).vals with
    | nil =>
      rw [hv] at hb
      exact ⟨none, 0, hb, Nat.le_refl _, .inl rfl⟩
    | cons y ys =>
      rw [hv] at hb
      exact hb
end Go.Proofs.YtbjjimllnffcpaaGreatDoor.Va

set_option maxRecDepth 100000
set_option linter.unusedVariables false
set_option linter.unusedSimpArgs false
/- The reference of layer 5: texts and names. -/
namespace Go.Proofs.YtbjjimllnffcpaaGreatDoor.Va
open Go Go.Am
def od67 : Ords := []
theorem code67 : codeB Tryz.f67.ntmps od67 (match Tryz.f67.body with | some c => c | none => .skip) = true := by kernel_rfl
def od47 : Ords := []
theorem code47 : codeB Tryz.f47.ntmps od47 (match Tryz.f47.body with | some c => c | none => .skip) = true := by kernel_rfl
/-- Has a text a byte of a kind? -/
def anyB (p : Int → Bool) (s : ByteArray) : Bool := s.data.toList.any fun b => p ((b.toNat : Nat) : Int)
def byteI (s : ByteArray) (i : Nat) : Int := ((s.data.getD i 0).toNat : Int)
theorem getD_eq {s : ByteArray} {i : Nat} (h : i < s.data.size) : s.data.getD i 0 = s.data[i] := by
  unfold Array.getD
  exact dif_pos h
theorem get_lt {s : ByteArray} {i : Nat} (h : i < s.size) : s.data.toList[i]? = some (s.data.getD i 0) := by
  have h : i < s.data.size := h
  rw [getD_eq h, Array.getElem?_toList, Array.getElem?_eq_getElem h]
theorem get_bang {s : ByteArray} {i : Nat} (h : i < s.size) : s.get! (i + 0) = s.data.getD i 0 := by
  have h : i < s.data.size := h
  rw [getD_eq h]
  show s.data[i]! = _
  rw [getElem!_pos s.data i h]
theorem dec_lo {s : ByteArray} {i : Nat} (h : i < s.size) (hb : (s.data.getD i 0).toNat < 128) : Utf8.decode s i = ((s.data.getD i 0).toNat, 1) := by
  have e : s.get! (i + 0) = s.data.getD i 0 := get_bang h
  simp only [Utf8.decode, e]
  rw [if_pos hb]
theorem dec_hi {s : ByteArray} {i : Nat} (h : i < s.size) (hb : ¬ (s.data.getD i 0).toNat < 128) : 128 ≤ (Utf8.decode s i).1 := by
  have e : s.get! (i + 0) = s.data.getD i 0 := get_bang h
  simp only [Utf8.decode, e]
  rw [if_neg hb]
  repeat' split
  all_goals simp_all [Utf8.runeError]
  all_goals omega
theorem runeIx_any (p : Int → Bool) (hp : ∀ r, 128 ≤ r → p r = true) (s : ByteArray) : ∀ f pos, pos ≤ s.size → s.size - pos < f →
    decide (runeIx p s f pos ≥ 0) = (s.data.toList.drop pos).any fun b => p ((b.toNat : Nat) : Int)
  | 0, pos, _, h => by omega
  | f + 1, pos, hle, h => by
    unfold runeIx
    by_cases hs : pos < s.size
    · rw [if_pos hs]
      have hg := get_lt hs
      rw [List.drop_eq_getElem_cons (by simpa using hs), List.any_cons]
      have hb : s.data.toList[pos]'(by simpa using hs) = s.data.getD pos 0 := by
        rw [List.getElem?_eq_getElem (by simpa using hs)] at hg
        exact Option.some.inj hg
      rw [hb]
      by_cases h128 : (s.data.getD pos 0).toNat < 128
      · rw [dec_lo hs h128]
        dsimp only
        cases hpb : p (((s.data.getD pos 0).toNat : Nat) : Int) with
        | true => rw [if_pos rfl]; simp
        | false =>
          rw [if_neg (by decide), Bool.false_or]
          exact runeIx_any p hp s f (pos + 1) (by omega) (by omega)
      · rw [hp _ (by omega : (128 : Int) ≤ (((s.data.getD pos 0).toNat : Nat) : Int)), Bool.true_or]
        have := dec_hi hs h128
        rw [hp _ (by omega), if_pos rfl]
        simp
    · rw [if_neg hs, List.drop_eq_nil_of_le (by simp; omega)]
      rfl
theorem hasRune_any (p : Int → Bool) (hp : ∀ r, 128 ≤ r → p r = true) (s : ByteArray) : hasRune p s = anyB p s := by
  unfold hasRune
  rw [runeIx_any p hp s _ 0 (by omega) (by omega), List.drop_zero]
  rfl
theorem badStr_hi (r : Int) (h : 128 ≤ r) : badStr r = true := by simp [badStr]; omega
theorem badName_hi (r : Int) (h : 128 ≤ r) : badName r = true := by simp [badName]; omega
theorem any_next {p : Int → Bool} {s : ByteArray} {i : Nat} (h : i < s.size) : ((s.data.toList.take (i + 1)).any fun b => p ((b.toNat : Nat) : Int)) = (((s.data.toList.take i).any fun b => p ((b.toNat : Nat) : Int)) || p (byteI s i)) := by
  rw [List.take_add_one, get_lt h, List.any_append]
  simp [byteI]
theorem any_all {p : Int → Bool} {s : ByteArray} : ((s.data.toList.take s.size).any fun b => p ((b.toNat : Nat) : Int)) = anyB p s := by
  rw [List.take_of_length_le (by simp)]; rfl
theorem any_hit {p : Int → Bool} {s : ByteArray} {i : Nat} (h : i < s.size) (hb : p (byteI s i) = true) : anyB p s = true := by
  unfold anyB
  rw [List.any_eq_true]
  exact ⟨_, List.mem_of_getElem? (get_lt h), hb⟩
theorem wrapN {i : Nat} (h : i < 4611686018427387904) : IntKind.i64.wrap ((i : Int) + 1) = ((i + 1 : Nat) : Int) := by rw [wrap64 (by omega) (by omega)]; omega
theorem strOk_any (s : ByteArray) : strOk s = (decide ((s.size : Int) ≤ 40) && !(anyB badStr s)) := by
  unfold strOk; rw [hasRune_any _ badStr_hi]
theorem ok67 (s : ByteArray) (hs : s.size ≤ 1000000) : Go.Am.Pure Tryz.prog 67 [.d (sD s)] (bI (strOk s)) := by
  rw [strOk_any]
  refine CallOk.of tysOk mixed od67 Tryz.func67 rfl rfl code67 ?_
  refine W.loop (fun k fr σ => ∃ i : Nat, fr = [(0, .d (sD s)), (3, .d (nI i))] ∧ σ = [] ∧ i ≤ s.size ∧ ((s.data.toList.take i).any fun b => badStr ((b.toNat : Nat) : Int)) = false ∧ k = s.size - i) s.size
    (Start.of [0, 3] [] (by simp)) ⟨0, rfl, rfl, by omega, rfl, rfl⟩ ?_
  rintro k fr σ ⟨i, rfl, rfl, hi, hq, rfl⟩
  refine W.ite (fun c1 => ?_) (fun c1 => ?_)
  · have hil : i < s.size := by have := of_decide_eq_true c1; omega
    have hix : (0 : Int) ≤ (i : Int) ∧ (i : Int) < s.size := by omega
    repeat (first | refine W.need hix ?_ | refine W.ite_t rfl ?_ | refine W.ite_f rfl ?_)
    refine W.ite (fun c2 => ?_) (fun c2 => ?_)
    · have hb : badStr (byteI s i) = true := by unfold badStr; rw [show decide (byteI s i < 32) = true from c2]; rfl
      repeat (first | refine W.need hix ?_ | refine W.ite_t c2 ?_ | refine W.ite_t rfl ?_ | refine W.ite_f rfl ?_)
      refine W.ret (W.ret ?_)
      refine RetQ.pure rfl (ret_bI ?_)
      rw [any_hit hil hb]; simp
    · repeat (first | refine W.need hix ?_ | refine W.ite_f c2 ?_ | refine W.ite_t rfl ?_ | refine W.ite_f rfl ?_)
      refine W.ite (fun c3 => ?_) (fun c3 => ?_)
      · have hb : badStr (byteI s i) = true := by unfold badStr; rw [show decide (byteI s i > 126) = true from c3]; simp
        refine W.ret (W.ret ?_)
        refine RetQ.pure rfl (ret_bI ?_)
        rw [any_hit hil hb]; simp
      · have hb : badStr (byteI s i) = false := by unfold badStr; rw [show decide (byteI s i < 32) = false from c2, show decide (byteI s i > 126) = false from c3]; rfl
        refine W.ret ⟨_, _, _, ?_, Trim.of [0, 3] [] (by decide) (by simp) (by simp), i + 1, ?_, rfl, by omega, by rw [any_next hil, hq, hb]; rfl, rfl⟩
        · omega
        · rw [← wrapN (by omega)]; rfl
  · have hil : i = s.size := by have := of_decide_eq_false c1; omega
    subst hil
    rw [any_all] at hq
    refine W.ret ?_
    refine W.ret ?_
    refine RetQ.pure rfl (ret_bI ?_)
    rw [hq]; simp
/-- A name, byte by byte. -/
theorem nameOk_any (s : ByteArray) : nameOk s = (if (s.size : Int) = 0 ∨ (s.size : Int) > 12 ∨ (s.toList == (txt [105, 110]).toList) = true ∨ (s.toList == (txt [97, 110, 100]).toList) = true then false
    else (!(decide (byteI s 0 < 97) || decide (byteI s 0 > 122)) && !(anyB badName s))) := by
  unfold nameOk
  rw [hasRune_any _ badName_hi]
  have e0 : (s.toList == (txt []).toList) = true ↔ (s.size : Int) = 0 := by
    constructor
    · intro h
      have h := eq_of_beq h
      rw [ByteArray.toList_eq, ByteArray.toList_eq] at h
      have h2 : s.data.toList.length = 0 := by rw [h]; rfl
      have h3 : s.data.toList.length = s.size := Array.length_toList
      omega
    · intro h
      have h3 : s.data.toList.length = s.size := Array.length_toList
      have : s.data.toList = [] := List.eq_nil_of_length_eq_zero (by omega)
      rw [ByteArray.toList_eq, ByteArray.toList_eq, this]; rfl
  have eb : byteI s 0 = byte0 s := rfl
  rw [eb]
  by_cases h1 : (s.size : Int) = 0
  · rw [if_pos (.inl (e0.2 h1)), if_pos (.inl h1)]
  by_cases h2 : (s.size : Int) > 12
  · rw [if_pos (.inr (.inl h2)), if_pos (.inr (.inl h2))]
  by_cases h3 : (s.toList == (txt [105, 110]).toList) = true
  · rw [if_pos (.inr (.inr (.inr (.inr (.inl h3))))), if_pos (.inr (.inr (.inl h3)))]
  by_cases h4 : (s.toList == (txt [97, 110, 100]).toList) = true
  · rw [if_pos (.inr (.inr (.inr (.inr (.inr h4))))), if_pos (.inr (.inr (.inr h4)))]
  rw [if_neg (c := (s.size : Int) = 0 ∨ _) (by rintro (h | h | h | h) <;> contradiction)]
  by_cases h5 : byte0 s < 97
  · rw [if_pos (.inr (.inr (.inl h5)))]; simp [h5]
  by_cases h6 : byte0 s > 122
  · rw [if_pos (.inr (.inr (.inr (.inl h6))))]; simp [h6]
  rw [if_neg (fun h => h.elim (fun h => h1 (e0.1 h)) fun h => h.elim h2 fun h => h.elim h5 fun h => h.elim h6 fun h => h.elim h3 h4)]
  simp [h5, h6]
theorem not_of2 {b : Bool} (h : b = true) : (!b) = false := by subst h; rfl
theorem not_of' {b : Bool} (h : b = false) : (!b) = true := by subst h; rfl
set_option maxHeartbeats 4000000 in
theorem ok47 (s : ByteArray) (hs : s.size ≤ 1000000) : Go.Am.Pure Tryz.prog 47 [.d (sD s)] (bI (nameOk s)) := by
  rw [nameOk_any]
  refine CallOk.of tysOk mixed od47 Tryz.func47 rfl rfl code47 ?_
  cases c1 : ((s.size : Int) == 0) with
  | true =>
    repeat (first | refine W.ite_t c1 ?_ | refine W.ite_t rfl ?_ | refine W.ite_f rfl ?_)
    refine W.ret ?_
    refine RetQ.pure rfl (ret_bI ?_)
    rw [if_pos (.inl (eq_of_beq c1))]
  | false =>
  have d1 : ¬ (s.size : Int) = 0 := by simpa using c1
  repeat (first | refine W.ite_f c1 ?_ | refine W.ite_t rfl ?_ | refine W.ite_f rfl ?_)
  cases c2 : decide ((s.size : Int) > 12) with
  | true =>
    repeat (first | refine W.ite_t c2 ?_ | refine W.ite_f c1 ?_ | refine W.ite_t rfl ?_ | refine W.ite_f rfl ?_)
    refine W.ret ?_
    refine RetQ.pure rfl (ret_bI ?_)
    rw [if_pos (.inr (.inl (of_decide_eq_true c2)))]
  | false =>
  have d2 := of_decide_eq_false c2
  repeat (first | refine W.ite_f c2 ?_ | refine W.ite_f c1 ?_ | refine W.ite_t rfl ?_ | refine W.ite_f rfl ?_)
  cases c3 : (s.toList == (txt [105, 110]).toList) with
  | true =>
    repeat (first | refine W.ite_t c3 ?_ | refine W.ite_f c2 ?_ | refine W.ite_f c1 ?_ | refine W.ite_t rfl ?_ | refine W.ite_f rfl ?_)
    refine W.ret ?_
    refine RetQ.pure rfl (ret_bI ?_)
    rw [if_pos (.inr (.inr (.inl rfl)))]
  | false =>
  repeat (first | refine W.ite_f c3 ?_ | refine W.ite_f c2 ?_ | refine W.ite_f c1 ?_ | refine W.ite_t rfl ?_ | refine W.ite_f rfl ?_)
  cases c4 : (s.toList == (txt [97, 110, 100]).toList) with
  | true =>
    repeat (first | refine W.ite_t c4 ?_ | refine W.ite_f c3 ?_ | refine W.ite_f c2 ?_ | refine W.ite_f c1 ?_ | refine W.ite_t rfl ?_ | refine W.ite_f rfl ?_)
    refine W.ret ?_
    refine RetQ.pure rfl (ret_bI ?_)
    rw [if_pos (.inr (.inr (.inr rfl)))]
  | false =>
  repeat (first | refine W.ite_f c4 ?_ | refine W.ite_f c3 ?_ | refine W.ite_f c2 ?_ | refine W.ite_f c1 ?_ | refine W.ite_t rfl ?_ | refine W.ite_f rfl ?_)
  rw [if_neg (fun h => h.elim d1 fun h => h.elim d2 fun h => h.elim (fun h => absurd h (by decide)) (fun h => absurd h (by decide)))]
  refine W.loop (fun k fr σ => ∃ i : Nat, fr = [(0, .d (sD s)), (3, .d (nI i))] ∧ σ = [] ∧ i ≤ s.size ∧ ((s.data.toList.take i).any fun b => badName ((b.toNat : Nat) : Int)) = false ∧ (i = 0 ∨ (decide (byteI s 0 < 97) = false ∧ decide (byteI s 0 > 122) = false)) ∧ k = s.size - i) s.size
    (Start.of [0, 3] [] (by simp)) ⟨0, rfl, rfl, by omega, rfl, .inl rfl, rfl⟩ ?_
  rintro k fr σ ⟨i, rfl, rfl, hi, hq, hz, rfl⟩
  refine W.ite (fun k1 => ?_) (fun k1 => ?_)
  · have hil : i < s.size := by have := of_decide_eq_true k1; omega
    have hix : (0 : Int) ≤ (i : Int) ∧ (i : Int) < s.size := by omega
    have hbn : badName (byteI s i) = true ↔ ((byteI s i < 97 ∨ byteI s i > 122) ∧ (byteI s i < 48 ∨ byteI s i > 57)) := by simp [badName]
    have go : ¬ ((byteI s i < 97 ∨ byteI s i > 122) ∧ (byteI s i < 48 ∨ byteI s i > 57)) → (i = 0 → ¬ (byteI s i < 97 ∨ byteI s i > 122)) →
        (((s.data.toList.take (i + 1)).any fun b => badName ((b.toNat : Nat) : Int)) = false ∧ (i + 1 = 0 ∨ (decide (byteI s 0 < 97) = false ∧ decide (byteI s 0 > 122) = false))) := fun h1 h2 => by
      have hb : badName (byteI s i) = false := by
        rw [Bool.eq_false_iff]; exact fun h => h1 (hbn.1 h)
      refine ⟨by rw [any_next hil, hq, hb]; rfl, .inr (hz.elim (fun h0 => ?_) id)⟩
      subst h0
      have h2 := h2 rfl
      exact ⟨decide_eq_false fun h => h2 (.inl h), decide_eq_false fun h => h2 (.inr h)⟩
    have rf : (((byteI s i < 97 ∨ byteI s i > 122) ∧ (byteI s i < 48 ∨ byteI s i > 57)) ∨ (i = 0 ∧ (byteI s i < 97 ∨ byteI s i > 122))) → (!(decide (byteI s 0 < 97) || decide (byteI s 0 > 122)) && !(anyB badName s)) = false := fun h => by
      rcases h with h | ⟨h0, h⟩
      · rw [any_hit hil (hbn.2 h)]; simp
      · subst h0
        rcases h with h | h <;> simp [h]
    cases e5 : decide (byteI s i ≥ 97) <;> cases e6 : decide (byteI s i ≤ 122) <;> cases e7 : decide (byteI s i ≥ 48) <;> cases e8 : decide (byteI s i ≤ 57) <;> cases e9 : ((i : Int) == 0)
    all_goals
      repeat (first | refine W.need hix ?_ | refine W.ite_t rfl ?_ | refine W.ite_f rfl ?_ | refine W.ite_t e5 ?_ | refine W.ite_f e5 ?_ | refine W.ite_t e6 ?_ | refine W.ite_f e6 ?_ | refine W.ite_t e7 ?_ | refine W.ite_f e7 ?_ | refine W.ite_t e8 ?_ | refine W.ite_f e8 ?_ | refine W.ite_t e9 ?_ | refine W.ite_f e9 ?_ | refine W.ite_t (not_of' e6) ?_ | refine W.ite_f (not_of2 e6) ?_ | refine W.ite_t (not_of' e8) ?_ | refine W.ite_f (not_of2 e8) ?_)
      simp only [decide_eq_true_eq, decide_eq_false_iff_not, beq_iff_eq, beq_eq_false_iff_ne, ne_eq] at e5 e6 e7 e8 e9
      first
      | (refine W.ret (W.ret ?_)
         refine RetQ.pure rfl (ret_bI ?_)
         rw [rf (by omega)])
      | (obtain ⟨g1, g2⟩ := go (by omega) (by omega)
         refine W.ret ⟨_, _, _, ?_, Trim.of [0, 3] [] (by decide) (by simp) (by simp), i + 1, ?_, rfl, by omega, g1, g2, rfl⟩
         · omega
         · rw [← wrapN (by omega)]; rfl)
  · have hil : i = s.size := by have := of_decide_eq_false k1; omega
    subst hil
    rw [any_all] at hq
    refine W.ret (W.ret ?_)
    refine RetQ.pure rfl (ret_bI ?_)
    have h0 : ¬ s.size = 0 := by omega
    rw [hq, (hz.resolve_left h0).1, (hz.resolve_left h0).2]
    rfl
end Go.Proofs.YtbjjimllnffcpaaGreatDoor.Va

set_option maxRecDepth 100000
set_option linter.unusedVariables false
set_option linter.unusedSimpArgs false
/- The reference of layer 5: schemas, events, filters. -/
namespace Go.Proofs.YtbjjimllnffcpaaGreatDoor.Va
open Go Go.Am
def od32 : Ords := []
theorem code32 : codeB Tryz.f32.ntmps od32 (match Tryz.f32.body with | some c => c | none => .skip) = true := by kernel_rfl
def od62 : Ords := []
theorem code62 : codeB Tryz.f62.ntmps od62 (match Tryz.f62.body with | some c => c | none => .skip) = true := by kernel_rfl
def od38 : Ords := []
theorem code38 : codeB Tryz.f38.ntmps od38 (match Tryz.f38.body with | some c => c | none => .skip) = true := by kernel_rfl
def od30 : Ords := [(13, [0, 1, 2, 3, 4, 5, 6, 7, 1008, 9, 10])]
theorem code30 : codeB Tryz.f30.ntmps od30 (match Tryz.f30.body with | some c => c | none => .skip) = true := by kernel_rfl
def od63 : Ords := []
theorem code63 : codeB Tryz.f63.ntmps od63 (match Tryz.f63.body with | some c => c | none => .skip) = true := by kernel_rfl
/-- Where an error lies, as a number. -/
def atN : Option Nat → Int
  | none => -1
  | some i => i
theorem sEq_comm (a b : ByteArray) : sEq a b = sEq b a := by
  unfold sEq
  rw [Bool.eq_iff_iff]
  simp only [beq_iff_eq]
  exact eq_comm
theorem ok32 (l : List Att) (hl : l.length ≤ 1000000) (s : ByteArray) : Go.Am.Pure Tryz.prog 32 [slF atC l, .d (sD s)] (.d (nI (findA l s))) := by
  refine CallOk.of tysOk mixed od32 Tryz.func32 rfl rfl code32 ?_
  refine W.loop (fun k fr σ => ∃ i : Nat, fr = [(1, .d (sD s)), (7, slF atC l), (8, .d (nI l.length)), (9, .d (nI i))] ∧ σ = [] ∧ i ≤ l.length ∧ ixF (fun x : Att => sEq x.nm s) (l.drop i) i = findA l s ∧ k = l.length - i) l.length
    (Start.of [1, 7, 8, 9] [] (by simp)) ⟨0, rfl, rfl, by omega, rfl, rfl⟩ ?_
  rintro k fr σ ⟨i, rfl, rfl, hi, hr, rfl⟩
  refine W.ite (fun c1 => ?_) (fun c1 => ?_)
  · have hil : i < l.length := by have := of_decide_eq_true c1; omega
    obtain ⟨x, hx⟩ : ∃ x, l[i]? = some x := ⟨_, List.getElem?_eq_getElem hil⟩
    rw [drop_cons hx, ixF] at hr
    refine W.need (ix_ok atC_len (by decide) hil) ?_
    refine W.ld (atE hx) ?_
    refine W.ite (fun c2 => ?_) (fun c2 => ?_)
    · rw [if_pos (show sEq x.nm s = true from c2)] at hr
      refine W.ret (W.ret ?_)
      refine RetQ.pure rfl ?_
      rw [← hr]; rfl
    · rw [if_neg (by rw [show sEq x.nm s = false from c2]; decide)] at hr
      refine W.ret ⟨_, _, _, ?_, Trim.of [1, 7, 8, 9] [] (by decide) (by simp) (by simp), i + 1, ?_, rfl, by omega, hr, rfl⟩
      · omega
      · rw [← wrapN (by omega)]; rfl
  · have hil : l.drop i = [] := by have := of_decide_eq_false c1; exact List.drop_of_length_le (by omega)
    rw [hil] at hr
    refine W.ret (W.ret ?_)
    refine RetQ.pure rfl ?_
    rw [← hr]; rfl
def nmB (s : List Att) (i j : Nat) (a : Att) : Bool := nameOk a.nm && !(((s.take i).take j).any fun b => sEq b.nm a.nm)
def attG (a : Att) : Bool := if a.k = 1 then decide (a.mn < -2147483648) || (decide (a.mx > 2147483648) || decide (a.mn > a.mx)) else (a.k != 2) || ((a.mn != 0) || (a.mx != 0))
theorem attG_t (a : Att) : attG a = true ↔ ((a.k = 1 ∧ (a.mn < -2147483648 ∨ a.mx > 2147483648 ∨ a.mn > a.mx)) ∨ (a.k ≠ 1 ∧ (a.k ≠ 2 ∨ a.mn ≠ 0 ∨ a.mx ≠ 0))) := by
  unfold attG
  by_cases h : a.k = 1
  · rw [if_pos h]; simp [h]
  · rw [if_neg h]; simp [h]
theorem attBad_eq (s : List Att) (i : Nat) (a : Att) : attBad s i a = !(nmB s i i a && !attG a) := by
  unfold attBad nmB attG
  rw [List.take_take, Nat.min_self]
  cases nameOk a.nm <;> cases ((s.take i).any fun b => sEq b.nm a.nm) <;> simp
theorem nmB0 (s : List Att) (i : Nat) (a : Att) : nmB s i 0 a = nameOk a.nm := by unfold nmB; simp
theorem nmB_next {s : List Att} {i j : Nat} {a b : Att} (hb : (s.take i)[j]? = some b) : nmB s i (j + 1) a = (nmB s i j a && !(sEq a.nm b.nm)) := by
  unfold nmB
  rw [List.take_add_one, hb, List.any_append, sEq_comm a.nm]
  cases nameOk a.nm <;> simp
theorem tr1v {T : List Nat} {n : Nat} (h : n = 1) : ∀ i, i < n → (0 :: T)[i]? = some i := fun i hi => by
  have : i = 0 := by omega
  subst this; rfl
set_option maxHeartbeats 16000000 in
theorem ok62 (s : List Att) (hs : ∀ a ∈ s, a.nm.size ≤ 1000000) : Go.Am.Pure Tryz.prog 62 [slF atC s] (.d (nI (atN (chkErr s)))) := by
  refine CallOk.of tysOk mixed od62 Tryz.func62 rfl rfl code62 ?_
  refine W.ite (fun c1 => ?_) (fun c1 => ?_)
  · repeat (first | refine W.ite_t c1 ?_ | refine W.ite_t rfl ?_ | refine W.ite_f rfl ?_)
    refine W.ret ?_
    refine RetQ.pure rfl ?_
    unfold chkErr
    rw [if_pos (.inl (of_decide_eq_true c1))]
    rfl
  repeat (first | refine W.ite_f c1 ?_ | refine W.ite_t rfl ?_ | refine W.ite_f rfl ?_)
  refine W.ite (fun c2 => ?_) (fun c2 => ?_)
  · refine W.ret ?_
    refine RetQ.pure rfl ?_
    unfold chkErr
    rw [if_pos (.inr (of_decide_eq_true c2))]
    rfl
  have h1 := of_decide_eq_false c1
  have h2 := of_decide_eq_false c2
  have hE : chkErr s = chkFrom s s 0 := by unfold chkErr; rw [if_neg (by rintro (h | h); exact h1 h; exact h2 h)]
  rw [hE]
  refine W.loop (fun k fr σ => ∃ i : Nat, fr = [(0, slF atC s), (16, slF atC s), (17, .d (nI s.length)), (18, .d (nI i))] ∧ σ = [] ∧ i ≤ s.length ∧ chkFrom s (s.drop i) i = chkFrom s s 0 ∧ k = s.length - i) s.length
    (Start.of [0, 16, 17, 18] [] (by simp)) ⟨0, rfl, rfl, by omega, rfl, rfl⟩ ?_
  rintro k fr σ ⟨i, rfl, rfl, hi, hr, rfl⟩
  refine W.ite (fun c3 => ?_) (fun c3 => ?_)
  · have hil : i < s.length := by have := of_decide_eq_true c3; omega
    obtain ⟨a, ha⟩ : ∃ x, s[i]? = some x := ⟨_, List.getElem?_eq_getElem hil⟩
    rw [drop_cons ha, chkFrom, attBad_eq] at hr
    refine W.need (ix_ok atC_len (by decide) hil) ?_
    refine W.ld (atE ha) ?_
    refine W.pure (ok47 a.nm (hs a (List.mem_of_getElem? ha))) rfl rfl ?_
    refine W.need ⟨by omega, by omega⟩ ?_
    refine W.loop (fun k fr σ => ∃ j : Nat, fr = [(0, slF atC s), (3, .d (nI i)), (4, .ptr 0 0), (5, .d (.lit (.bool (nmB s i j a)))), (16, slF atC s), (17, .d (nI s.length)), (18, .d (nI i)), (28, slF atC (s.take i)), (29, .d (nI i)), (30, .d (nI j))] ∧ σ = [bD (atC a)] ∧ j ≤ i ∧ k = i - j) i
      (Start.of [0, 3, 4, 5, 16, 17, 18, 28, 29, 30] [] (by simp)) ⟨0, ?_, rfl, by omega, rfl⟩ ?_
    · rw [cutA (Nat.le_of_lt hil), nmB0]; rfl
    rintro k fr σ ⟨j, rfl, rfl, hj, rfl⟩
    refine W.ite (fun c4 => ?_) (fun c4 => ?_)
    · have hji : j < i := by have := of_decide_eq_true c4; omega
      have hlen : (s.take i).length = i := by simp; omega
      obtain ⟨b, hb⟩ : ∃ b, (s.take i)[j]? = some b := ⟨_, List.getElem?_eq_getElem (by omega)⟩
      refine W.need (ix_ok atC_len (by decide) (by omega)) ?_
      refine W.ld (atE hb) ?_
      have hn := nmB_next (a := a) hb
      cases hB : nmB s i j a with
      | true =>
        rw [hB, Bool.true_and] at hn
        refine W.ite_t rfl ?_
        repeat (first | refine W.ite_t rfl ?_ | refine W.ite_f rfl ?_)
        refine W.ret ⟨_, _, _, ?_, Trim.of [0, 3, 4, 5, 16, 17, 18, 28, 29, 30] [0] (by decide) (by simp) (tr1v rfl), j + 1, ?_, rfl, by omega, rfl⟩
        · omega
        · rw [hn, ← wrapN (by omega)]; rfl
      | false =>
        rw [hB, Bool.false_and] at hn
        repeat (first | refine W.ite_t rfl ?_ | refine W.ite_f rfl ?_)
        refine W.ret ⟨_, _, _, ?_, Trim.of [0, 3, 4, 5, 16, 17, 18, 28, 29, 30] [0] (by decide) (by simp) (tr1v rfl), j + 1, ?_, rfl, by omega, rfl⟩
        · omega
        · rw [hn, ← wrapN (by omega)]; rfl
    · have hji : j = i := by have := of_decide_eq_false c4; omega
      subst hji
      refine W.ret ?_
      have stop : nmB s j j a = false ∨ ((a.k = 1 ∧ (a.mn < -2147483648 ∨ a.mx > 2147483648 ∨ a.mn > a.mx)) ∨ (a.k ≠ 1 ∧ (a.k ≠ 2 ∨ a.mn ≠ 0 ∨ a.mx ≠ 0))) → atN (chkFrom s s 0) = j := fun h => by
        have h : (nmB s j j a && !attG a) = false := by
          rcases h with h | h
          · rw [h]; rfl
          · rw [(attG_t a).2 h]; simp
        rw [h] at hr; rw [← hr]; rfl
      have next : nmB s j j a = true → ¬ ((a.k = 1 ∧ (a.mn < -2147483648 ∨ a.mx > 2147483648 ∨ a.mn > a.mx)) ∨ (a.k ≠ 1 ∧ (a.k ≠ 2 ∨ a.mn ≠ 0 ∨ a.mx ≠ 0))) → chkFrom s (s.drop (j + 1)) (j + 1) = chkFrom s s 0 := fun h0 h => by
        have h : (nmB s j j a && !attG a) = true := by
          rw [h0, Bool.eq_false_iff.2 fun e => h ((attG_t a).1 e)]; rfl
        rw [h] at hr; exact hr
      cases hB : nmB s j j a with
      | false =>
        have stop := stop (.inl hB)
        repeat' (first | refine W.ite_t rfl ?_ | refine W.ite_f rfl ?_ | refine W.ite_t (by assumption) ?_ | refine W.ite_f (by assumption) ?_ | refine W.ite (fun c => ?_) (fun c => ?_))
        all_goals
          refine W.ret (W.ret ?_)
          refine RetQ.pure rfl ?_
          rw [stop]
          rfl
      | true =>
        have stop := fun h => stop (.inr h)
        have next := next hB
        repeat' (first | refine W.ite_t rfl ?_ | refine W.ite_f rfl ?_ | refine W.ite_t (by assumption) ?_ | refine W.ite_f (by assumption) ?_ | refine W.ite (fun c => ?_) (fun c => ?_))
        all_goals
          simp only [decide_eq_true_eq, decide_eq_false_iff_not, beq_iff_eq, beq_eq_false_iff_ne, ne_eq, Bool.not_eq_true', Bool.not_eq_false', bne_iff_ne] at *
        all_goals first
          | (refine W.ret (W.ret ?_)
             refine RetQ.pure rfl ?_
             rw [stop (by omega)]
             rfl)
          | (refine W.ret ⟨_, _, _, ?_, Trim.of [0, 16, 17, 18] [] (by decide) (by simp) (by simp), j + 1, ?_, rfl, by omega, next (by omega), rfl⟩
             · omega
             · rw [← wrapN (by omega)]; rfl)
  · have hil : s.drop i = [] := by have := of_decide_eq_false c3; exact List.drop_of_length_le (by omega)
    rw [hil] at hr
    refine W.ret (W.ret ?_)
    refine RetQ.pure rfl ?_
    rw [← hr]
    rfl
theorem fit_f (a : Att) (v : Val) : fitV a v = false ↔ ((a.k = 1 ∧ (sEq v.str (txt []) = false ∨ v.num < a.mn ∨ v.num > a.mx)) ∨ (a.k ≠ 1 ∧ (v.num ≠ 0 ∨ strOk v.str = false))) := by
  unfold fitV
  by_cases h : a.k = 1
  · rw [if_pos h]
    cases sEq v.str (txt []) <;> simp [h] <;> omega
  · rw [if_neg h]
    cases strOk v.str <;> simp [h]
set_option maxHeartbeats 16000000 in
theorem ok38 (s : List Att) (hs : s.length ≤ 1000000) (e : Evt) (hv : ∀ v ∈ e.vals, v.str.size ≤ 1000000) : Go.Am.Pure Tryz.prog 38 [slF atC s, slF vaC e.vals, .d (nI e.pay.size)] (.d (nI (atN (evtErr s e)))) := by
  refine CallOk.of tysOk mixed od38 Tryz.func38 rfl rfl code38 ?_
  refine W.ite (fun c1 => ?_) (fun c1 => ?_)
  · have h1 : e.vals.length ≠ s.length := by have : ((e.vals.length : Int) != s.length) = true := c1; intro h; rw [h] at this; simp at this
    repeat (first | refine W.ite_t c1 ?_ | refine W.ite_t rfl ?_ | refine W.ite_f rfl ?_)
    refine W.ret ?_
    refine RetQ.pure rfl ?_
    unfold evtErr
    rw [if_pos (.inl h1)]
    rfl
  have h1 : e.vals.length = s.length := by have : ((e.vals.length : Int) != s.length) = false := c1; have : (e.vals.length : Int) = s.length := (by simpa using this); omega
  repeat (first | refine W.ite_f c1 ?_ | refine W.ite_t rfl ?_ | refine W.ite_f rfl ?_)
  refine W.ite (fun c2 => ?_) (fun c2 => ?_)
  · refine W.ret ?_
    refine RetQ.pure rfl ?_
    unfold evtErr
    rw [if_pos (.inr (of_decide_eq_true c2))]
    rfl
  have h2 := of_decide_eq_false c2
  have hE : evtErr s e = fitsFrom s e.vals 0 := by unfold evtErr; rw [if_neg (by rintro (h | h); exact h h1; exact h2 h)]
  rw [hE]
  refine W.loop (fun k fr σ => ∃ i : Nat, fr = [(1, slF vaC e.vals), (19, slF atC s), (20, .d (nI s.length)), (21, .d (nI i))] ∧ σ = [] ∧ i ≤ s.length ∧ fitsFrom (s.drop i) (e.vals.drop i) i = fitsFrom s e.vals 0 ∧ k = s.length - i) s.length
    (Start.of [1, 19, 20, 21] [] (by simp)) ⟨0, rfl, rfl, by omega, rfl, rfl⟩ ?_
  rintro k fr σ ⟨i, rfl, rfl, hi, hr, rfl⟩
  refine W.ite (fun c3 => ?_) (fun c3 => ?_)
  · have hil : i < s.length := by have := of_decide_eq_true c3; omega
    obtain ⟨a, ha⟩ : ∃ x, s[i]? = some x := ⟨_, List.getElem?_eq_getElem hil⟩
    obtain ⟨v, hv1⟩ : ∃ x, e.vals[i]? = some x := ⟨_, List.getElem?_eq_getElem (by omega)⟩
    rw [drop_cons ha, drop_cons hv1, fitsFrom] at hr
    have ks := ok67 v.str (hv v (List.mem_of_getElem? hv1))
    have stop : (fitV a v) = false → atN (fitsFrom s e.vals 0) = i := fun h => by rw [h] at hr; rw [← hr]; rfl
    have next : ¬ (fitV a v) = false → fitsFrom (s.drop (i + 1)) (e.vals.drop (i + 1)) (i + 1) = fitsFrom s e.vals 0 := fun h => by rw [show fitV a v = true from by simpa using h] at hr; exact hr
    rw [fit_f] at stop next
    have hcut : ((v.str.toList == (txt []).toList)) = sEq v.str (txt []) := rfl
    refine W.need (ix_ok atC_len (by decide) hil) ?_
    refine W.ld (atE ha) ?_
    refine W.need (ix_ok vaC_len (by decide) (by omega)) ?_
    refine W.ld (vaE hv1) ?_
    cases q1 : sEq v.str (txt []) <;> cases q2 : strOk v.str
    all_goals
      rw [q1, q2] at stop next
      rw [q2] at ks
      have q1 : (v.str.toList == (txt []).toList) = _ := q1
      repeat' (first | refine W.ite_t rfl ?_ | refine W.ite_f rfl ?_ | refine W.ite_t (by assumption) ?_ | refine W.ite_f (by assumption) ?_ | refine W.ite_t (show (!(v.str.toList == (txt []).toList)) = true by rw [q1]; rfl) ?_ | refine W.ite_f (show (!(v.str.toList == (txt []).toList)) = false by rw [q1]; rfl) ?_ | refine W.pure ks rfl rfl ?_ | refine W.ite (fun c => ?_) (fun c => ?_))
    all_goals
      simp only [decide_eq_true_eq, decide_eq_false_iff_not, beq_iff_eq, beq_eq_false_iff_ne, ne_eq, Bool.not_eq_true', Bool.not_eq_false', bne_iff_ne, bne_eq_false_iff_eq, reduceCtorEq, or_false, false_or, or_true, true_or, and_true] at *
    all_goals first
      | (refine W.ret (W.ret ?_)
         refine RetQ.pure rfl ?_
         rw [stop (by omega)]
         rfl)
      | (refine W.ret ⟨_, _, _, ?_, Trim.of [1, 19, 20, 21] [] (by decide) (by simp) (by simp), i + 1, ?_, rfl, by omega, next (by omega), rfl⟩
         · omega
         · rw [← wrapN (by omega)]; rfl)
  · have hil : s.drop i = [] := by have := of_decide_eq_false c3; exact List.drop_of_length_le (by omega)
    rw [hil] at hr
    refine W.ret (W.ret ?_)
    refine RetQ.pure rfl ?_
    rw [← hr]
    rfl
theorem pr_t (a : Att) (p : Prd) : prdOk a p = true ↔ ((p.o = 1 ∧ a.k = 1 ∧ p.lo ≥ a.mn ∧ p.hi ≤ a.mx ∧ p.lo ≤ p.hi ∧ sEq p.str (txt []) = true) ∨ ((p.o = 2 ∨ (p.o = 3 ∧ sEq p.str (txt []) = false)) ∧ a.k = 2 ∧ p.lo = 0 ∧ p.hi = 0 ∧ strOk p.str = true)) := by
  unfold prdOk numOk textOk
  by_cases h1 : p.o = 1
  · rw [if_pos h1]; simp [h1, and_assoc]
  · rw [if_neg h1]
    by_cases h3 : p.o = 3
    · rw [if_pos h3]; cases sEq p.str (txt []) <;> simp [h3, and_assoc]
    · rw [if_neg h3]
      by_cases h2 : p.o = 2
      · rw [if_pos h2]; simp [h2, and_assoc]
      · rw [if_neg h2]; simp [h1, h2, h3]
set_option maxHeartbeats 16000000 in
theorem ok63 (a : Att) (p : Prd) (hp : p.str.size ≤ 1000000) : Go.Am.Pure Tryz.prog 63 [.d (.agg (atC a)), .d (.agg (prC p))] (bI (prdOk a p)) := by
  refine CallOk.of tysOk mixed od63 Tryz.func63 rfl rfl code63 ?_
  have ks := ok67 p.str hp
  have yes := fun h => (pr_t a p).2 h
  have no := fun (h : ¬ _) => Bool.eq_false_iff.2 fun e => h ((pr_t a p).1 e)
  cases q1 : sEq p.str (txt []) <;> cases q2 : strOk p.str
  all_goals
    rw [q1, q2] at yes no
    rw [q2] at ks
    have q1 : (p.str.toList == (txt []).toList) = _ := q1
    repeat' (first | refine W.ite_t rfl ?_ | refine W.ite_f rfl ?_ | refine W.ite_t (by assumption) ?_ | refine W.ite_f (by assumption) ?_ | refine W.ite_t (show (!(p.str.toList == (txt []).toList)) = true by rw [q1]; rfl) ?_ | refine W.ite_f (show (!(p.str.toList == (txt []).toList)) = false by rw [q1]; rfl) ?_ | refine W.pure ks rfl rfl ?_ | refine W.ite (fun c => ?_) (fun c => ?_))
  all_goals
    refine W.ret ?_
    refine RetQ.pure rfl (ret_bI ?_)
    try rw [show (p.str.toList == (⟨#[]⟩ : ByteArray).toList) = _ from q1]
    simp only [decide_eq_true_eq, decide_eq_false_iff_not, beq_iff_eq, beq_eq_false_iff_ne, ne_eq, Bool.not_eq_true', Bool.not_eq_false', bne_iff_ne, bne_eq_false_iff_eq, reduceCtorEq, or_false, false_or, or_true, true_or, and_true, and_false, false_and, true_and] at *
    first
    | exact (yes (by first | omega | trivial)).symm
    | exact (no (by first | omega | simp)).symm
end Go.Proofs.YtbjjimllnffcpaaGreatDoor.Va

set_option maxRecDepth 100000
set_option linter.unusedVariables false
set_option linter.unusedSimpArgs false
/- The reference of layer 5: filters. -/
namespace Go.Proofs.YtbjjimllnffcpaaGreatDoor.Va
open Go Go.Am
def pmB (s : List Att) (f : List Prd) (i j : Nat) (p : Prd) : Bool := decide (findA s p.nm ≥ 0) && !(((f.take i).take j).any fun q => sEq q.nm p.nm)
theorem pmB0 (s : List Att) (f : List Prd) (i : Nat) (p : Prd) : pmB s f i 0 p = decide (findA s p.nm ≥ 0) := by unfold pmB; simp
theorem pmB_next {s : List Att} {f : List Prd} {i j : Nat} {p q : Prd} (hq : (f.take i)[j]? = some q) : pmB s f i (j + 1) p = (pmB s f i j p && !(sEq p.nm q.nm)) := by
  unfold pmB
  rw [List.take_add_one, hq, List.any_append, sEq_comm p.nm]
  cases decide (findA s p.nm ≥ 0) <;> simp
theorem prdBad_eq (s : List Att) (f : List Prd) (i : Nat) (p : Prd) : prdBad s f i p = !(pmB s f i i p && prdOk (attOf s p.nm) p) := by
  unfold prdBad pmB
  rw [List.take_take, Nat.min_self, show decide (findA s p.nm < 0) = !(decide (findA s p.nm ≥ 0)) from by by_cases h : findA s p.nm < 0 <;> simp [h] <;> omega]
  cases decide (findA s p.nm ≥ 0) <;> cases ((f.take i).any fun q => sEq q.nm p.nm) <;> simp
set_option maxHeartbeats 16000000 in
theorem ok30 (s : List Att) (hs : s.length ≤ 1000000) (f : List Prd) (hf : ∀ p ∈ f, p.str.size ≤ 1000000) : Go.Am.Pure Tryz.prog 30 [slF atC s, slF prC f] (.d (nI (atN (fltErr s f)))) := by
  refine CallOk.of tysOk mixed od30 Tryz.func30 rfl rfl code30 ?_
  refine W.ite (fun c1 => ?_) (fun c1 => ?_)
  · repeat (first | refine W.ite_t c1 ?_ | refine W.ite_t rfl ?_ | refine W.ite_f rfl ?_)
    refine W.ret ?_
    refine RetQ.pure rfl ?_
    unfold fltErr
    rw [if_pos (.inl (of_decide_eq_true c1))]
    rfl
  repeat (first | refine W.ite_f c1 ?_ | refine W.ite_t rfl ?_ | refine W.ite_f rfl ?_)
  refine W.ite (fun c2 => ?_) (fun c2 => ?_)
  · refine W.ret ?_
    refine RetQ.pure rfl ?_
    unfold fltErr
    rw [if_pos (.inr (of_decide_eq_true c2))]
    rfl
  have h1 := of_decide_eq_false c1
  have h2 := of_decide_eq_false c2
  have hE : fltErr s f = fltFrom s f f 0 := by unfold fltErr; rw [if_neg (by rintro (h | h); exact h1 h; exact h2 h)]
  rw [hE]
  refine W.loop (fun k fr σ => ∃ i : Nat, fr = [(0, slF atC s), (1, slF prC f), (19, slF prC f), (20, .d (nI f.length)), (21, .d (nI i))] ∧ σ = [] ∧ i ≤ f.length ∧ fltFrom s f (f.drop i) i = fltFrom s f f 0 ∧ k = f.length - i) f.length
    (Start.of [0, 1, 19, 20, 21] [] (by simp)) ⟨0, rfl, rfl, by omega, rfl, rfl⟩ ?_
  rintro k fr σ ⟨i, rfl, rfl, hi, hr, rfl⟩
  refine W.ite (fun c3 => ?_) (fun c3 => ?_)
  · have hil : i < f.length := by have := of_decide_eq_true c3; omega
    obtain ⟨p, hp⟩ : ∃ x, f[i]? = some x := ⟨_, List.getElem?_eq_getElem hil⟩
    rw [drop_cons hp, fltFrom, prdBad_eq] at hr
    have hps := hf p (List.mem_of_getElem? hp)
    refine W.need (ix_ok prC_len (by decide) hil) ?_
    refine W.ld (prE hp) ?_
    refine W.pure (ok32 s hs p.nm) rfl rfl ?_
    refine W.need ⟨by omega, by omega⟩ ?_
    refine W.loop (fun k fr σ => ∃ j : Nat, fr = [(0, slF atC s), (1, slF prC f), (5, .d (nI i)), (6, .ptr 0 0), (7, .d (nI (findA s p.nm))), (8, .d (.lit (.bool (pmB s f i j p)))), (19, slF prC f), (20, .d (nI f.length)), (21, .d (nI i)), (34, slF prC (f.take i)), (35, .d (nI i)), (36, .d (nI j))] ∧ σ = [bD (prC p)] ∧ j ≤ i ∧ k = i - j) i
      (Start.of [0, 1, 5, 6, 7, 8, 19, 20, 21, 34, 35, 36] [] (by simp)) ⟨0, by rw [cutP (Nat.le_of_lt hil), pmB0]; rfl, rfl, by omega, rfl⟩ ?_
    rintro k fr σ ⟨j, rfl, rfl, hj, rfl⟩
    refine W.ite (fun c4 => ?_) (fun c4 => ?_)
    · have hji : j < i := by have := of_decide_eq_true c4; omega
      have hlen : (f.take i).length = i := by simp; omega
      obtain ⟨b, hb⟩ : ∃ b, (f.take i)[j]? = some b := ⟨_, List.getElem?_eq_getElem (by omega)⟩
      refine W.need (ix_ok prC_len (by decide) (by omega)) ?_
      refine W.ld (prE hb) ?_
      have hn := pmB_next (s := s) (p := p) hb
      cases hB : pmB s f i j p with
      | true =>
        rw [hB, Bool.true_and] at hn
        repeat (first | refine W.ite_t rfl ?_ | refine W.ite_f rfl ?_)
        refine W.ret ⟨_, _, _, ?_, Trim.of [0, 1, 5, 6, 7, 8, 19, 20, 21, 34, 35, 36] [0] (by decide) (by simp) (tr1v rfl), j + 1, ?_, rfl, by omega, rfl⟩
        · omega
        · rw [hn, ← wrapN (by omega)]; rfl
      | false =>
        rw [hB, Bool.false_and] at hn
        repeat (first | refine W.ite_t rfl ?_ | refine W.ite_f rfl ?_)
        refine W.ret ⟨_, _, _, ?_, Trim.of [0, 1, 5, 6, 7, 8, 19, 20, 21, 34, 35, 36] [0] (by decide) (by simp) (tr1v rfl), j + 1, ?_, rfl, by omega, rfl⟩
        · omega
        · rw [hn, ← wrapN (by omega)]; rfl
    · have hji : j = i := by have := of_decide_eq_false c4; omega
      subst hji
      refine W.ret ?_
      have stop : (pmB s f j j p && prdOk (attOf s p.nm) p) = false → atN (fltFrom s f f 0) = j := fun h => by
        rw [h] at hr; rw [← hr]; rfl
      have next : (pmB s f j j p && prdOk (attOf s p.nm) p) = true → fltFrom s f (f.drop (j + 1)) (j + 1) = fltFrom s f f 0 := fun h => by
        rw [h] at hr; exact hr
      cases hB : pmB s f j j p with
      | false =>
        have stop := stop (by rw [hB]; rfl)
        repeat (first | refine W.ite_t rfl ?_ | refine W.ite_f rfl ?_)
        refine W.ret (W.ret ?_)
        refine RetQ.pure rfl ?_
        rw [stop]
        rfl
      | true =>
        rw [hB, Bool.true_and] at stop next
        have hge : findA s p.nm ≥ 0 := by
          unfold pmB at hB
          rw [Bool.and_eq_true, decide_eq_true_eq] at hB
          exact hB.1
        rcases findA_spec s p.nm with h | ⟨k, a, h3, h4, h5⟩
        · omega
        rw [h5] at stop next
        have hkl : k < s.length := (List.getElem?_eq_some_iff.1 h4).1
        have kp := ok63 a p hps
        repeat (first | refine W.ite_t rfl ?_ | refine W.ite_f rfl ?_)
        rw [h3]
        refine W.need (ix_ok atC_len (by decide) hkl) ?_
        repeat (first | refine W.ite_t rfl ?_ | refine W.ite_f rfl ?_)
        refine W.ld (atE h4) ?_
        repeat (first | refine W.ite_t rfl ?_ | refine W.ite_f rfl ?_)
        refine W.pure kp rfl rfl ?_
        cases hO : prdOk a p with
        | false =>
          repeat (first | refine W.ite_t rfl ?_ | refine W.ite_f rfl ?_)
          refine W.ret (W.ret ?_)
          refine RetQ.pure rfl ?_
          rw [stop hO]
          rfl
        | true =>
          repeat (first | refine W.ite_t rfl ?_ | refine W.ite_f rfl ?_)
          refine W.ret ⟨_, _, _, ?_, Trim.of [0, 1, 19, 20, 21] [] (by decide) (by simp) (by simp), j + 1, ?_, rfl, by omega, next hO, rfl⟩
          · omega
          · rw [← wrapN (by omega)]; rfl
  · have hil : f.drop i = [] := by have := of_decide_eq_false c3; exact List.drop_of_length_le (by omega)
    rw [hil] at hr
    refine W.ret (W.ret ?_)
    refine RetQ.pure rfl ?_
    rw [← hr]
    rfl
end Go.Proofs.YtbjjimllnffcpaaGreatDoor.Va
