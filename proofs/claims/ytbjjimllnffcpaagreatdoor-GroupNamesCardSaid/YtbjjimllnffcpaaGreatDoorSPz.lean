import Derived.Test.YtbjjimllnffcpaaGreatDoorGNa
import Derived.Test.YtbjjimllnffcpaaGreatDoorAm25
import Derived.Lib.Bytealg
set_option maxRecDepth 100000
set_option linter.unusedVariables false
set_option linter.unusedSimpArgs false
/- strings.Split at full stops. -/
namespace Go.Proofs.YtbjjimllnffcpaaGreatDoor.Gr
open Go Go.Am Va
def tysR : Tys := [(3, ⟨.scalar, false, 1, [.int .i64 0], [.int .i64], false, 0⟩), (9, ⟨.str, false, 1, [.string ⟨#[]⟩], [.str], false, 0⟩), (5, ⟨.scalar, false, 1, [.int .u8 0], [.int .u8], false, 0⟩), (66, ⟨.scalar, false, 1, [.int .u64 0], [.int .u64], false, 0⟩), (73, ⟨.struct [(0, 9), (1, 3), (2, 3), (3, 3)], true, 4, [.string ⟨#[]⟩, .int .i64 0, .int .i64 0, .int .i64 0], [.str, .int .i64, .int .i64, .int .i64], true, 0⟩), (74, ⟨.struct [(0, 9), (1, 3), (2, 3), (3, 3)], true, 4, [.string ⟨#[]⟩, .int .i64 0, .int .i64 0, .int .i64 0], [.str, .int .i64, .int .i64, .int .i64], true, 0⟩), (192, ⟨.scalar, false, 1, [.int .u32 0], [.int .u32], false, 0⟩), (61, ⟨.struct [(0, 3), (1, 3)], true, 2, [.int .i64 0, .int .i64 0], [.int .i64, .int .i64], true, 0⟩), (76, ⟨.struct [(0, 9), (1, 3), (2, 3), (3, 3), (4, 9)], true, 5, [.string ⟨#[]⟩, .int .i64 0, .int .i64 0, .int .i64 0, .string ⟨#[]⟩], [.str, .int .i64, .int .i64, .int .i64, .str], true, 0⟩), (21, ⟨.scalar, false, 1, [.int .i32 0], [.int .i32], false, 0⟩), (57, ⟨.struct [(0, 3), (1, 3)], true, 2, [.int .i64 0, .int .i64 0], [.int .i64, .int .i64], true, 0⟩), (77, ⟨.struct [(0, 9), (1, 3), (2, 3), (3, 3), (4, 9)], true, 5, [.string ⟨#[]⟩, .int .i64 0, .int .i64 0, .int .i64 0, .string ⟨#[]⟩], [.str, .int .i64, .int .i64, .int .i64, .str], true, 0⟩), (142, ⟨.slice 5 1 1 true, false, 1, [.slice none 0 0], [.other], false, 0⟩), (44, ⟨.slice 9 1 16 false, false, 1, [.slice none 0 0], [.other], false, 7⟩), (23, ⟨.slice 73 4 40 false, false, 1, [.slice none 0 0], [.other], false, 0⟩), (79, ⟨.struct [(0, 3), (1, 9)], true, 2, [.int .i64 0, .string ⟨#[]⟩], [.int .i64, .str], true, 0⟩), (29, ⟨.slice 74 4 40 false, false, 1, [.slice none 0 0], [.other], false, 0⟩), (80, ⟨.struct [(0, 3), (1, 9)], true, 2, [.int .i64 0, .string ⟨#[]⟩], [.int .i64, .str], true, 0⟩), (32, ⟨.slice 77 5 56 false, false, 1, [.slice none 0 0], [.other], false, 0⟩), (25, ⟨.slice 76 5 56 false, false, 1, [.slice none 0 0], [.other], false, 0⟩), (28, ⟨.struct [(0, 26), (1, 9)], true, 2, [.slice none 0 0, .string ⟨#[]⟩], [.other, .str], true, 0⟩), (26, ⟨.slice 79 2 24 false, false, 1, [.slice none 0 0], [.other], false, 0⟩), (39, ⟨.iface, false, 1, [.nilIface], [.other], false, 0⟩), (91, ⟨.slice 61 2 16 false, false, 1, [.slice none 0 0], [.other], false, 0⟩), (198, ⟨.struct [(0, 5), (1, 5)], true, 2, [.int .u8 0, .int .u8 0], [.int .u8, .int .u8], true, 0⟩), (89, ⟨.slice 57 2 16 false, false, 1, [.slice none 0 0], [.other], false, 0⟩), (163, ⟨.scalar, false, 1, [.int .i64 0], [.int .i64], false, 0⟩), (193, ⟨.array 65 5 1, true, 65, [.int .u8 0, .int .u8 0, .int .u8 0, .int .u8 0, .int .u8 0, .int .u8 0, .int .u8 0, .int .u8 0, .int .u8 0, .int .u8 0, .int .u8 0, .int .u8 0, .int .u8 0, .int .u8 0, .int .u8 0, .int .u8 0, .int .u8 0, .int .u8 0, .int .u8 0, .int .u8 0, .int .u8 0, .int .u8 0, .int .u8 0, .int .u8 0, .int .u8 0, .int .u8 0, .int .u8 0, .int .u8 0, .int .u8 0, .int .u8 0, .int .u8 0, .int .u8 0, .int .u8 0, .int .u8 0, .int .u8 0, .int .u8 0, .int .u8 0, .int .u8 0, .int .u8 0, .int .u8 0, .int .u8 0, .int .u8 0, .int .u8 0, .int .u8 0, .int .u8 0, .int .u8 0, .int .u8 0, .int .u8 0, .int .u8 0, .int .u8 0, .int .u8 0, .int .u8 0, .int .u8 0, .int .u8 0, .int .u8 0, .int .u8 0, .int .u8 0, .int .u8 0, .int .u8 0, .int .u8 0, .int .u8 0, .int .u8 0, .int .u8 0, .int .u8 0, .int .u8 0], [.int .u8, .int .u8, .int .u8, .int .u8, .int .u8, .int .u8, .int .u8, .int .u8, .int .u8, .int .u8, .int .u8, .int .u8, .int .u8, .int .u8, .int .u8, .int .u8, .int .u8, .int .u8, .int .u8, .int .u8, .int .u8, .int .u8, .int .u8, .int .u8, .int .u8, .int .u8, .int .u8, .int .u8, .int .u8, .int .u8, .int .u8, .int .u8, .int .u8, .int .u8, .int .u8, .int .u8, .int .u8, .int .u8, .int .u8, .int .u8, .int .u8, .int .u8, .int .u8, .int .u8, .int .u8, .int .u8, .int .u8, .int .u8, .int .u8, .int .u8, .int .u8, .int .u8, .int .u8, .int .u8, .int .u8, .int .u8, .int .u8, .int .u8, .int .u8, .int .u8, .int .u8, .int .u8, .int .u8, .int .u8, .int .u8], true, 0⟩), (2, ⟨.scalar, false, 1, [.int .i64 0], [.int .i64], false, 0⟩), (123, ⟨.scalar, false, 1, [.int .u64 0], [.int .u64], false, 0⟩), (35, ⟨.slice 80 2 24 false, false, 1, [.slice none 0 0], [.other], false, 0⟩), (180, ⟨.array 24 5 1, true, 24, [.int .u8 0, .int .u8 0, .int .u8 0, .int .u8 0, .int .u8 0, .int .u8 0, .int .u8 0, .int .u8 0, .int .u8 0, .int .u8 0, .int .u8 0, .int .u8 0, .int .u8 0, .int .u8 0, .int .u8 0, .int .u8 0, .int .u8 0, .int .u8 0, .int .u8 0, .int .u8 0, .int .u8 0, .int .u8 0, .int .u8 0, .int .u8 0], [.int .u8, .int .u8, .int .u8, .int .u8, .int .u8, .int .u8, .int .u8, .int .u8, .int .u8, .int .u8, .int .u8, .int .u8, .int .u8, .int .u8, .int .u8, .int .u8, .int .u8, .int .u8, .int .u8, .int .u8, .int .u8, .int .u8, .int .u8, .int .u8], true, 0⟩), (191, ⟨.array 20 66 1, true, 20, [.int .u64 0, .int .u64 0, .int .u64 0, .int .u64 0, .int .u64 0, .int .u64 0, .int .u64 0, .int .u64 0, .int .u64 0, .int .u64 0, .int .u64 0, .int .u64 0, .int .u64 0, .int .u64 0, .int .u64 0, .int .u64 0, .int .u64 0, .int .u64 0, .int .u64 0, .int .u64 0], [.int .u64, .int .u64, .int .u64, .int .u64, .int .u64, .int .u64, .int .u64, .int .u64, .int .u64, .int .u64, .int .u64, .int .u64, .int .u64, .int .u64, .int .u64, .int .u64, .int .u64, .int .u64, .int .u64, .int .u64], true, 0⟩), (204, ⟨.array 64 5 1, true, 64, [.int .u8 0, .int .u8 0, .int .u8 0, .int .u8 0, .int .u8 0, .int .u8 0, .int .u8 0, .int .u8 0, .int .u8 0, .int .u8 0, .int .u8 0, .int .u8 0, .int .u8 0, .int .u8 0, .int .u8 0, .int .u8 0, .int .u8 0, .int .u8 0, .int .u8 0, .int .u8 0, .int .u8 0, .int .u8 0, .int .u8 0, .int .u8 0, .int .u8 0, .int .u8 0, .int .u8 0, .int .u8 0, .int .u8 0, .int .u8 0, .int .u8 0, .int .u8 0, .int .u8 0, .int .u8 0, .int .u8 0, .int .u8 0, .int .u8 0, .int .u8 0, .int .u8 0, .int .u8 0, .int .u8 0, .int .u8 0, .int .u8 0, .int .u8 0, .int .u8 0, .int .u8 0, .int .u8 0, .int .u8 0, .int .u8 0, .int .u8 0, .int .u8 0, .int .u8 0, .int .u8 0, .int .u8 0, .int .u8 0, .int .u8 0, .int .u8 0, .int .u8 0, .int .u8 0, .int .u8 0, .int .u8 0, .int .u8 0, .int .u8 0, .int .u8 0], [.int .u8, .int .u8, .int .u8, .int .u8, .int .u8, .int .u8, .int .u8, .int .u8, .int .u8, .int .u8, .int .u8, .int .u8, .int .u8, .int .u8, .int .u8, .int .u8, .int .u8, .int .u8, .int .u8, .int .u8, .int .u8, .int .u8, .int .u8, .int .u8, .int .u8, .int .u8, .int .u8, .int .u8, .int .u8, .int .u8, .int .u8, .int .u8, .int .u8, .int .u8, .int .u8, .int .u8, .int .u8, .int .u8, .int .u8, .int .u8, .int .u8, .int .u8, .int .u8, .int .u8, .int .u8, .int .u8, .int .u8, .int .u8, .int .u8, .int .u8, .int .u8, .int .u8, .int .u8, .int .u8, .int .u8, .int .u8, .int .u8, .int .u8, .int .u8, .int .u8, .int .u8, .int .u8, .int .u8, .int .u8], true, 0⟩), (52, ⟨.scalar, false, 1, [.int .i64 0], [.int .i64], false, 0⟩), (140, ⟨.struct [(0, 9), (1, 3), (2, 39)], true, 3, [.string ⟨#[]⟩, .int .i64 0, .nilIface], [.str, .int .i64, .other], false, 0⟩), (203, ⟨.array 32 5 1, true, 32, [.int .u8 0, .int .u8 0, .int .u8 0, .int .u8 0, .int .u8 0, .int .u8 0, .int .u8 0, .int .u8 0, .int .u8 0, .int .u8 0, .int .u8 0, .int .u8 0, .int .u8 0, .int .u8 0, .int .u8 0, .int .u8 0, .int .u8 0, .int .u8 0, .int .u8 0, .int .u8 0, .int .u8 0, .int .u8 0, .int .u8 0, .int .u8 0, .int .u8 0, .int .u8 0, .int .u8 0, .int .u8 0, .int .u8 0, .int .u8 0, .int .u8 0, .int .u8 0], [.int .u8, .int .u8, .int .u8, .int .u8, .int .u8, .int .u8, .int .u8, .int .u8, .int .u8, .int .u8, .int .u8, .int .u8, .int .u8, .int .u8, .int .u8, .int .u8, .int .u8, .int .u8, .int .u8, .int .u8, .int .u8, .int .u8, .int .u8, .int .u8, .int .u8, .int .u8, .int .u8, .int .u8, .int .u8, .int .u8, .int .u8, .int .u8], true, 0⟩), (199, ⟨.array 16 198 2, true, 32, [.int .u8 0, .int .u8 0, .int .u8 0, .int .u8 0, .int .u8 0, .int .u8 0, .int .u8 0, .int .u8 0, .int .u8 0, .int .u8 0, .int .u8 0, .int .u8 0, .int .u8 0, .int .u8 0, .int .u8 0, .int .u8 0, .int .u8 0, .int .u8 0, .int .u8 0, .int .u8 0, .int .u8 0, .int .u8 0, .int .u8 0, .int .u8 0, .int .u8 0, .int .u8 0, .int .u8 0, .int .u8 0, .int .u8 0, .int .u8 0, .int .u8 0, .int .u8 0], [.int .u8, .int .u8, .int .u8, .int .u8, .int .u8, .int .u8, .int .u8, .int .u8, .int .u8, .int .u8, .int .u8, .int .u8, .int .u8, .int .u8, .int .u8, .int .u8, .int .u8, .int .u8, .int .u8, .int .u8, .int .u8, .int .u8, .int .u8, .int .u8, .int .u8, .int .u8, .int .u8, .int .u8, .int .u8, .int .u8, .int .u8, .int .u8], true, 0⟩), (4, ⟨.scalar, false, 1, [.bool false], [.bool], false, 0⟩), (138, ⟨.ptr, false, 1, [.pointer none], [.other], false, 0⟩), (178, ⟨.struct [(0, 9), (1, 9), (2, 39)], true, 3, [.string ⟨#[]⟩, .string ⟨#[]⟩, .nilIface], [.str, .str, .other], false, 0⟩), (186, ⟨.ptr, false, 1, [.pointer none], [.other], false, 0⟩), (109, ⟨.iface, false, 1, [.nilIface], [.other], false, 0⟩), (232, ⟨.ptr, false, 1, [.pointer none], [.other], false, 0⟩), (196, ⟨.array 256 5 1, true, 256, [.int .u8 0, .int .u8 0, .int .u8 0, .int .u8 0, .int .u8 0, .int .u8 0, .int .u8 0, .int .u8 0, .int .u8 0, .int .u8 0, .int .u8 0, .int .u8 0, .int .u8 0, .int .u8 0, .int .u8 0, .int .u8 0, .int .u8 0, .int .u8 0, .int .u8 0, .int .u8 0, .int .u8 0, .int .u8 0, .int .u8 0, .int .u8 0, .int .u8 0, .int .u8 0, .int .u8 0, .int .u8 0, .int .u8 0, .int .u8 0, .int .u8 0, .int .u8 0, .int .u8 0, .int .u8 0, .int .u8 0, .int .u8 0, .int .u8 0, .int .u8 0, .int .u8 0, .int .u8 0, .int .u8 0, .int .u8 0, .int .u8 0, .int .u8 0, .int .u8 0, .int .u8 0, .int .u8 0, .int .u8 0, .int .u8 0, .int .u8 0, .int .u8 0, .int .u8 0, .int .u8 0, .int .u8 0, .int .u8 0, .int .u8 0, .int .u8 0, .int .u8 0, .int .u8 0, .int .u8 0, .int .u8 0, .int .u8 0, .int .u8 0, .int .u8 0, .int .u8 0, .int .u8 0, .int .u8 0, .int .u8 0, .int .u8 0, .int .u8 0, .int .u8 0, .int .u8 0, .int .u8 0, .int .u8 0, .int .u8 0, .int .u8 0, .int .u8 0, .int .u8 0, .int .u8 0, .int .u8 0, .int .u8 0, .int .u8 0, .int .u8 0, .int .u8 0, .int .u8 0, .int .u8 0, .int .u8 0, .int .u8 0, .int .u8 0, .int .u8 0, .int .u8 0, .int .u8 0, .int .u8 0, .int .u8 0, .int .u8 0, .int .u8 0, .int .u8 0, .int .u8 0, .int .u8 0, .int .u8 0, .int .u8 0, .int .u8 0, .int .u8 0, .int .u8 0, .int .u8 0, .int .u8 0, .int .u8 0, .int .u8 0, .int .u8 0, .int .u8 0, .int .u8 0, .int .u8 0, .int .u8 0, .int .u8 0, .int .u8 0, .int .u8 0, .int .u8 0, .int .u8 0, .int .u8 0, .int .u8 0, .int .u8 0, .int .u8 0, .int .u8 0, .int .u8 0, .int .u8 0, .int .u8 0, .int .u8 0, .int .u8 0, .int .u8 0, .int .u8 0, .int .u8 0, .int .u8 0, .int .u8 0, .int .u8 0, .int .u8 0, .int .u8 0, .int .u8 0, .int .u8 0, .int .u8 0, .int .u8 0, .int .u8 0, .int .u8 0, .int .u8 0, .int .u8 0, .int .u8 0, .int .u8 0, .int .u8 0, .int .u8 0, .int .u8 0, .int .u8 0, .int .u8 0, .int .u8 0, .int .u8 0, .int .u8 0, .int .u8 0, .int .u8 0, .int .u8 0, .int .u8 0, .int .u8 0, .int .u8 0, .int .u8 0, .int .u8 0, .int .u8 0, .int .u8 0, .int .u8 0, .int .u8 0, .int .u8 0, .int .u8 0, .int .u8 0, .int .u8 0, .int .u8 0, .int .u8 0, .int .u8 0, .int .u8 0, .int .u8 0, .int .u8 0, .int .u8 0, .int .u8 0, .int .u8 0, .int .u8 0, .int .u8 0, .int .u8 0, .int .u8 0, .int .u8 0, .int .u8 0, .int .u8 0, .int .u8 0, .int .u8 0, .int .u8 0, .int .u8 0, .int .u8 0, .int .u8 0, .int .u8 0, .int .u8 0, .int .u8 0, .int .u8 0, .int .u8 0, .int .u8 0, .int .u8 0, .int .u8 0, .int .u8 0, .int .u8 0, .int .u8 0, .int .u8 0, .int .u8 0, .int .u8 0, .int .u8 0, .int .u8 0, .int .u8 0, .int .u8 0, .int .u8 0, .int .u8 0, .int .u8 0, .int .u8 0, .int .u8 0, .int .u8 0, .int .u8 0, .int .u8 0, .int .u8 0, .int .u8 0, .int .u8 0, .int .u8 0, .int .u8 0, .int .u8 0, .int .u8 0, .int .u8 0, .int .u8 0, .int .u8 0, .int .u8 0, .int .u8 0, .int .u8 0, .int .u8 0, .int .u8 0, .int .u8 0, .int .u8 0, .int .u8 0, .int .u8 0, .int .u8 0, .int .u8 0, .int .u8 0, .int .u8 0, .int .u8 0, .int .u8 0, .int .u8 0, .int .u8 0, .int .u8 0, .int .u8 0, .int .u8 0, .int .u8 0, .int .u8 0, .int .u8 0, .int .u8 0, .int .u8 0, .int .u8 0, .int .u8 0, .int .u8 0], [.int .u8, .int .u8, .int .u8, .int .u8, .int .u8, .int .u8, .int .u8, .int .u8, .int .u8, .int .u8, .int .u8, .int .u8, .int .u8, .int .u8, .int .u8, .int .u8, .int .u8, .int .u8, .int .u8, .int .u8, .int .u8, .int .u8, .int .u8, .int .u8, .int .u8, .int .u8, .int .u8, .int .u8, .int .u8, .int .u8, .int .u8, .int .u8, .int .u8, .int .u8, .int .u8, .int .u8, .int .u8, .int .u8, .int .u8, .int .u8, .int .u8, .int .u8, .int .u8, .int .u8, .int .u8, .int .u8, .int .u8, .int .u8, .int .u8, .int .u8, .int .u8, .int .u8, .int .u8, .int .u8, .int .u8, .int .u8, .int .u8, .int .u8, .int .u8, .int .u8, .int .u8, .int .u8, .int .u8, .int .u8, .int .u8, .int .u8, .int .u8, .int .u8, .int .u8, .int .u8, .int .u8, .int .u8, .int .u8, .int .u8, .int .u8, .int .u8, .int .u8, .int .u8, .int .u8, .int .u8, .int .u8, .int .u8, .int .u8, .int .u8, .int .u8, .int .u8, .int .u8, .int .u8, .int .u8, .int .u8, .int .u8, .int .u8, .int .u8, .int .u8, .int .u8, .int .u8, .int .u8, .int .u8, .int .u8, .int .u8, .int .u8, .int .u8, .int .u8, .int .u8, .int .u8, .int .u8, .int .u8, .int .u8, .int .u8, .int .u8, .int .u8, .int .u8, .int .u8, .int .u8, .int .u8, .int .u8, .int .u8, .int .u8, .int .u8, .int .u8, .int .u8, .int .u8, .int .u8, .int .u8, .int .u8, .int .u8, .int .u8, .int .u8, .int .u8, .int .u8, .int .u8, .int .u8, .int .u8, .int .u8, .int .u8, .int .u8, .int .u8, .int .u8, .int .u8, .int .u8, .int .u8, .int .u8, .int .u8, .int .u8, .int .u8, .int .u8, .int .u8, .int .u8, .int .u8, .int .u8, .int .u8, .int .u8, .int .u8, .int .u8, .int .u8, .int .u8, .int .u8, .int .u8, .int .u8, .int .u8, .int .u8, .int .u8, .int .u8, .int .u8, .int .u8, .int .u8, .int .u8, .int .u8, .int .u8, .int .u8, .int .u8, .int .u8, .int .u8, .int .u8, .int .u8, .int .u8, .int .u8, .int .u8, .int .u8, .int .u8, .int .u8, .int .u8, .int .u8, .int .u8, .int .u8, .int .u8, .int .u8, .int .u8, .int .u8, .int .u8, .int .u8, .int .u8, .int .u8, .int .u8, .int .u8, .int .u8, .int .u8, .int .u8, .int .u8, .int .u8, .int .u8, .int .u8, .int .u8, .int .u8, .int .u8, .int .u8, .int .u8, .int .u8, .int .u8, .int .u8, .int .u8, .int .u8, .int .u8, .int .u8, .int .u8, .int .u8, .int .u8, .int .u8, .int .u8, .int .u8, .int .u8, .int .u8, .int .u8, .int .u8, .int .u8, .int .u8, .int .u8, .int .u8, .int .u8, .int .u8, .int .u8, .int .u8, .int .u8, .int .u8, .int .u8, .int .u8, .int .u8, .int .u8, .int .u8, .int .u8, .int .u8, .int .u8, .int .u8, .int .u8, .int .u8, .int .u8, .int .u8, .int .u8, .int .u8, .int .u8, .int .u8, .int .u8, .int .u8, .int .u8, .int .u8, .int .u8], true, 0⟩), (187, ⟨.ptr, false, 1, [.pointer none], [.other], false, 0⟩), (189, ⟨.struct [(0, 9)], true, 1, [.string ⟨#[]⟩], [.str], true, 0⟩)]
theorem tysROk : TysOk Tryz.prog tysR := TysOk.of (by kernel_rfl)
def od108 : Ords := []
theorem code108 : codeB Tryz.f108.ntmps od108 (match Tryz.f108.body with | some c => c | none => .skip) = true := by kernel_rfl
def od98 : Ords := []
theorem code98 : codeB Tryz.f98.ntmps od98 (match Tryz.f98.body with | some c => c | none => .skip) = true := by kernel_rfl
def od87 : Ords := []
theorem code87 : codeB Tryz.f87.ntmps od87 (match Tryz.f87.body with | some c => c | none => .skip) = true := by kernel_rfl
def od86 : Ords := []
theorem code86 : codeB Tryz.f86.ntmps od86 (match Tryz.f86.body with | some c => c | none => .skip) = true := by kernel_rfl
def od73 : Ords := []
theorem code73 : codeB Tryz.f73.ntmps od73 (match Tryz.f73.body with | some c => c | none => .skip) = true := by kernel_rfl
def od42 : Ords := []
theorem code42 : codeB Tryz.f42.ntmps od42 (match Tryz.f42.body with | some c => c | none => .skip) = true := by kernel_rfl
abbrev b8 (c : UInt8) : D := .lit (.int .u8 (c.toNat : Int))
theorem ok119 (s : ByteArray) (c : UInt8) : Go.Am.Pure Tryz.prog 119 [.d (sD s), .d (b8 c)] (.d (nI (Lib.indexByte s.data.toList c))) := by
  refine Pure.of_extern (e := Extern.BytealgIndexByte.indexByte) Tryz.func119 (by kernel_rfl) (by kernel_rfl) (by kernel_rfl) (by kernel_rfl) fun g w vs hw hv => ?_
  obtain ⟨v1, r, rfl, h1, v2, r2, rfl, h2, hr⟩ := hv
  rw [VRL] at hr
  subst hr
  obtain rfl := h1.lit
  obtain rfl := h2.lit
  refine ⟨_, Lib.run_indexByteString s (c.toNat : Int) w, ?_⟩
  have : ((c.toNat : Int)).toNat.toUInt8 = c := by simp
  rw [this]
  exact vr_lit _
theorem ok97 (s : ByteArray) (c : UInt8) : Go.Am.Pure Tryz.prog 97 [.d (sD s), .d (b8 c)] (.d (nI (Lib.countByte s.data.toList c : Nat))) := by
  refine Pure.of_extern (e := Extern.BytealgCount.count) Tryz.func97 (by kernel_rfl) (by kernel_rfl) (by kernel_rfl) (by kernel_rfl) fun g w vs hw hv => ?_
  obtain ⟨v1, r, rfl, h1, v2, r2, rfl, h2, hr⟩ := hv
  rw [VRL] at hr
  subst hr
  obtain rfl := h1.lit
  obtain rfl := h2.lit
  refine ⟨_, Lib.run_countString s (c.toNat : Int) w, ?_⟩
  have : ((c.toNat : Int)).toNat.toUInt8 = c := by simp
  rw [this]
  exact vr_lit _
theorem ok108 (s : ByteArray) (c : UInt8) : Go.Am.Pure Tryz.prog 108 [.d (sD s), .d (b8 c)] (.d (nI (Lib.indexByte s.data.toList c))) := by
  refine CallOk.of tysOk mixed od108 Tryz.func108 rfl rfl code108 ?_
  exact W.pure (ok119 s c) rfl rfl (W.ret (RetQ.pure rfl rfl))
theorem ok98 (s : ByteArray) : Go.Am.Pure Tryz.prog 98 [.d (sD s), .d (sD dotS)] (.d (nI (Lib.indexByte s.data.toList 46))) := by
  refine CallOk.of tysOk mixed od98 Tryz.func98 rfl rfl code98 ?_
  cases c : (dotS.toList == s.toList) with
  | true =>
    repeat (first | refine W.ite_t c ?_ | refine W.ite_t rfl ?_ | refine W.ite_f rfl ?_)
    refine W.ret (RetQ.pure rfl (ret_nI ?_))
    have h : dotS.toList = s.toList := by simpa using c
    rw [dl, dl] at h
    rw [← h]
    rfl
  | false =>
    repeat (first | refine W.ite_f c ?_ | refine W.ite_t rfl ?_ | refine W.ite_f rfl ?_)
    refine W.need (by decide) ?_
    exact W.pure (ok108 s 46) rfl rfl (W.ret (RetQ.pure rfl rfl))
theorem ok87 (s : ByteArray) : Go.Am.Pure Tryz.prog 87 [.d (sD s), .d (sD dotS)] (.d (nI (Lib.indexByte s.data.toList 46))) := by
  refine CallOk.of tysOk mixed od87 Tryz.func87 rfl rfl code87 ?_
  exact W.pure (ok98 s) rfl rfl (W.ret (RetQ.pure rfl rfl))
theorem ok86 (s : ByteArray) : Go.Am.Pure Tryz.prog 86 [.d (sD s), .d (sD dotS)] (.d (nI (Lib.countByte s.data.toList 46 : Nat))) := by
  refine CallOk.of tysOk mixed od86 Tryz.func86 rfl rfl code86 ?_
  repeat (first | refine W.ite_t rfl ?_ | refine W.ite_f rfl ?_)
  refine W.need (by decide) ?_
  exact W.pure (ok97 s 46) rfl rfl (W.ret (RetQ.pure rfl rfl))
/-! ### parts -/
/-- Bytes between full stops. -/
def splL : List UInt8 → List (List UInt8)
  | [] => [[]]
  | b :: r => if b = 46 then [] :: splL r else match splL r with
    | [] => [[b]]
    | h :: t => (b :: h) :: t
theorem splL_cons (b : UInt8) (r : List UInt8) : splL (b :: r) = if b = 46 then [] :: splL r else match splL r with
    | [] => [[b]]
    | h :: t => (b :: h) :: t := rfl
theorem splL_ne (l : List UInt8) : splL l ≠ [] := by
  cases l with
  | nil => simp [splL]
  | cons b r =>
    unfold splL
    split
    · simp
    · split <;> simp
theorem splL_one : ∀ {l : List UInt8}, 46 ∉ l → splL l = [l]
  | [], _ => rfl
  | b :: r, h => by
    have hb : b ≠ 46 := fun e => h (by rw [e]; exact List.mem_cons_self)
    have hr : 46 ∉ r := fun e => h (List.mem_cons_of_mem _ e)
    rw [splL_cons, if_neg hb, splL_one hr]
theorem splL_cut : ∀ {x y : List UInt8}, 46 ∉ x → splL (x ++ 46 :: y) = x :: splL y
  | [], y, _ => by
    show splL (46 :: y) = _
    rw [splL_cons, if_pos rfl]
  | b :: r, y, h => by
    have hb : b ≠ 46 := fun e => h (by rw [e]; exact List.mem_cons_self)
    have hr : 46 ∉ r := fun e => h (List.mem_cons_of_mem _ e)
    show splL (b :: (r ++ 46 :: y)) = _
    rw [splL_cons, if_neg hb, splL_cut hr]
theorem ix_cut : ∀ (l : List UInt8), (46 ∉ l ∧ Lib.indexByte l 46 = -1) ∨ ∃ x y, l = x ++ 46 :: y ∧ 46 ∉ x ∧ Lib.indexByte l 46 = (x.length : Int)
  | [] => .inl ⟨by simp, rfl⟩
  | b :: r => by
    unfold Lib.indexByte
    by_cases hb : b = 46
    · subst hb
      exact .inr ⟨[], r, rfl, by simp, by simp⟩
    · have hb' : (b == (46 : UInt8)) = false := beq_eq_false_iff_ne.2 hb
      rw [hb']
      rcases ix_cut r with ⟨h1, h2⟩ | ⟨x, y, h1, h2, h3⟩
      · refine .inl ⟨fun e => ?_, ?_⟩
        · rcases List.mem_cons.1 e with e | e
          · exact hb e.symm
          · exact h1 e
        · rw [h2]; rfl
      · refine .inr ⟨b :: x, y, by rw [h1]; rfl, fun e => ?_, ?_⟩
        · rcases List.mem_cons.1 e with e | e
          · exact hb e.symm
          · exact h2 e
        · rw [h3]
          have : ((x.length : Int) == -1) = false := beq_eq_false_iff_ne.2 (by omega)
          rw [this]
          simp
theorem splL_len : ∀ (l : List UInt8), (splL l).length = Lib.countByte l 46 + 1
  | [] => rfl
  | b :: r => by
    have := splL_len r
    rw [splL_cons]
    unfold Lib.countByte at *
    by_cases hb : b = 46
    · rw [if_pos hb, hb, List.count_cons_self, List.length_cons, this]
    · rw [if_neg hb, List.count_cons_of_ne hb]
      cases hs : splL r with
      | nil => exact absurd hs (splL_ne r)
      | cons h t => rw [hs] at this; simpa using this
def oB (l : List UInt8) : ByteArray := ⟨l.toArray⟩
def splB (s : ByteArray) : List ByteArray := (splL s.data.toList).map oB
theorem oB_data (l : List UInt8) : (oB l).data.toList = l := by simp [oB]
theorem oB_size (l : List UInt8) : (oB l).size = l.length := by simp [oB, ByteArray.size]
theorem oB_self (s : ByteArray) : oB s.data.toList = s := by
  cases s with
  | mk d => simp [oB]
theorem oB_extract (l : List UInt8) (a b : Nat) : (oB l).extract a b = oB ((l.take b).drop a) := by
  have h : ((oB l).extract a b).data.toList = (l.take b).drop a := by
    rw [ByteArray.data_extract, Array.toList_extract, List.extract, oB_data, List.drop_take]
  rw [← oB_self ((oB l).extract a b), h]
theorem putS : ∀ {ps : List ByteArray} {i : Nat} (h : i < ps.length) (x : ByteArray), (flat sC ps).take (0 + i * 1) ++ [sD x] ++ (flat sC ps).drop (0 + i * 1 + 1) = flat sC (ps.set i x)
  | [], i, h, x => by simp at h
  | z :: r, 0, h, x => by simp [flat, sC]
  | z :: r, i + 1, h, x => by
    have := putS (ps := r) (i := i) (by simpa using h) x
    simp only [Nat.zero_add, Nat.mul_one] at this ⊢
    simp only [flat, sC, List.set_cons_succ, List.singleton_append, List.take_succ_cons, List.drop_succ_cons, List.cons_append]
    rw [← this]
    simp
theorem take_set_snoc {α : Type} : ∀ {l : List α} {i : Nat} (x : α), i < l.length → (l.set i x).take (i + 1) = l.take i ++ [x]
  | a :: r, 0, x, _ => by simp
  | a :: r, i + 1, x, h => by
    simp only [List.set_cons_succ, List.take_succ_cons, List.cons_append]
    rw [take_set_snoc x (by simpa using h)]
  | [], _, _, h => by simp at h
theorem flat_rep (n : Nat) : List.replicate n (D.lit (.string ⟨#[]⟩)) = flat sC (List.replicate n ⟨#[]⟩) := by
  induction n with
  | zero => rfl
  | succ n ih => rw [List.replicate_succ, List.replicate_succ, ih]; rfl
set_option maxHeartbeats 4000000 in
theorem ok73 (s : ByteArray) (hs : s.size ≤ 1000000) : Go.Am.Pure Tryz.prog 73 [.d (sD s), .d (sD dotS), .d (nI 0), .d (nI (-1))] (slS (splB s)) := by
  refine CallOk.freeze ?_
  refine CallOk.of tysROk mixed od73 Tryz.func73 rfl rfl code73 ?_
  have c0 : (dotS.toList == (⟨#[]⟩ : ByteArray).toList) = false := by rw [dl, dl]; rfl
  repeat (first | refine W.ite_f c0 ?_ | refine W.ite_t rfl ?_ | refine W.ite_f rfl ?_)
  refine W.pure (ok86 s) rfl rfl ?_
  have hlen := splL_len s.data.toList
  have hcle : Lib.countByte s.data.toList 46 ≤ s.size := by
    have : Lib.countByte s.data.toList 46 ≤ s.data.toList.length := List.count_le_length
    simpa using this
  generalize hc : Lib.countByte s.data.toList 46 = c at *
  have e1 : IntKind.i64.wrap ((c : Int) + 1) = ((c + 1 : Nat) : Int) := by rw [wrap64 (by omega) (by omega)]; rfl
  have e2 : IntKind.i64.wrap ((s.size : Int) + 1) = ((s.size + 1 : Nat) : Int) := by rw [wrap64 (by omega) (by omega)]; rfl
  have e3 : (if IntKind.i64.wrap ((s.size : Int) + 1) < IntKind.i64.wrap ((c : Int) + 1) then IntKind.i64.wrap ((s.size : Int) + 1) else IntKind.i64.wrap ((c : Int) + 1)) = ((c + 1 : Nat) : Int) := by
    rw [e1, e2, if_neg (by omega)]
  refine W.need (by rw [e3]; exact ⟨by omega, rfl, rfl, by omega, by omega⟩) ?_
  have e4 : IntKind.i64.wrap ((if IntKind.i64.wrap ((s.size : Int) + 1) < IntKind.i64.wrap ((c : Int) + 1) then IntKind.i64.wrap ((s.size : Int) + 1) else IntKind.i64.wrap ((c : Int) + 1)) - 1) = (c : Int) := by
    rw [e3, wrap64 (by omega) (by omega)]; omega
  refine W.loop (fun k fr σ => ∃ (i : Nat) (r : List UInt8) (ps : List ByteArray), fr = [(0, .d (sD (oB r))), (1, .d (sD dotS)), (2, .d (nI 0)), (3, .d (nI c)), (9, .row 0 0 0 (c + 1)), (10, .d (nI i))] ∧ σ = [.row 1 0 (flat sC ps)] ∧ ps.length = c + 1 ∧ r.length ≤ s.size ∧ i + Lib.countByte r 46 = c ∧ ps.take i ++ (splL r).map oB = splB s ∧ k = c - i) c
    (Start.of [0, 1, 2, 3, 9, 10] [] (by simp)) ⟨0, s.data.toList, List.replicate (c + 1) ⟨#[]⟩, ?_, ?_, by simp, by simp, by rw [hc]; omega, rfl, rfl⟩ ?_
  · have : (if IntKind.i64.wrap ((s.size : Int) + 1) < IntKind.i64.wrap ((c : Int) + 1) then IntKind.i64.wrap ((s.size : Int) + 1) else IntKind.i64.wrap ((c : Int) + 1)).toNat = c + 1 := by rw [e3]; rfl
    rw [e4, this, oB_self]
    rfl
  · have : (if IntKind.i64.wrap ((s.size : Int) + 1) < IntKind.i64.wrap ((c : Int) + 1) then IntKind.i64.wrap ((s.size : Int) + 1) else IntKind.i64.wrap ((c : Int) + 1)).toNat = c + 1 := by rw [e3]; rfl
    rw [← flat_rep, ← this]
    rfl
  rintro k fr σ ⟨i, r, ps, rfl, rfl, hps, hrl, hic, hsp, rfl⟩
  have kI := ok87 (oB r)
  rw [oB_data] at kI
  have gi : IntKind.i64.wrap ((i : Int) + 1) = ((i + 1 : Nat) : Int) := by rw [wrap64 (by omega) (by omega)]; rfl
  have hil : i < ps.length := by omega
  have i0 : (0 : Int) ≤ (i : Int) ∧ (i : Int) < ((c + 1 : Nat) : Int) := ⟨by omega, by omega⟩
  have hst : 0 + (i : Int).toNat * 1 + 1 ≤ (flat sC ps).length := by rw [sl_len]; show 0 + i * 1 + 1 ≤ _; omega
  by_cases hlt : i < c
  · refine W.ite_t (decide_eq_true (by omega)) ?_
    rcases ix_cut r with ⟨h1, h2⟩ | ⟨x, y, rfl, h2, h3⟩
    · exfalso
      have : Lib.countByte r 46 = 0 := List.count_eq_zero.2 h1
      omega
    · rw [h3] at kI
      refine W.pure kI rfl rfl ?_
      refine W.ite_f (decide_eq_false (by omega)) ?_
      simp only [List.length_append, List.length_cons] at hrl
      have hcn : Lib.countByte (x ++ 46 :: y) 46 = Lib.countByte y 46 + 1 := by
        unfold Lib.countByte
        rw [List.count_append, List.count_eq_zero.2 h2, List.count_cons_self]; omega
      have w0 : IntKind.i64.wrap ((x.length : Int) + 0) = (x.length : Int) := by rw [wrap64 (by omega) (by omega)]; omega
      have w1 : IntKind.i64.wrap ((x.length : Int) + (dotS.size : Nat)) = ((x.length + 1 : Nat) : Int) := by rw [show dotS.size = 1 from rfl, wrap64 (by omega) (by omega)]; rfl
      have hsz : (oB (x ++ 46 :: y)).size = x.length + (y.length + 1) := by rw [oB_size]; simp
      refine W.need (by rw [w0, hsz]; omega) ?_
      refine W.need i0 ?_
      refine W.need hst ?_
      refine W.need (by rw [w1, hsz]; omega) ?_
      have x1 : (oB (x ++ 46 :: y)).extract 0 (IntKind.i64.wrap ((x.length : Int) + 0)).toNat = oB x := by
        rw [w0, oB_extract]; simp
      have x2 : (oB (x ++ 46 :: y)).extract (IntKind.i64.wrap ((x.length : Int) + (dotS.size : Nat))).toNat (oB (x ++ 46 :: y)).size = oB y := by
        rw [w1, oB_extract, hsz]
        show oB (((x ++ 46 :: y).take _).drop (x.length + 1)) = _
        rw [List.take_of_length_le (by simp), ← List.drop_drop, List.drop_left' rfl]
        rfl
      refine W.ret ⟨_, _, _, ?_, Trim.of [0, 1, 2, 3, 9, 10] [0] (by decide) (by simp) (by intro q hq; have : q = 0 := (by simpa using hq); subst this; rfl), i + 1, y, ps.set i (oB x), ?_, ?_, by simpa using hps, by omega, by omega, ?_, rfl⟩
      · omega
      · rw [← gi, ← x2]; rfl
      · have := putS hil (oB x)
        rw [← this, ← x1]
        rfl
      · rw [take_set_snoc _ hil, List.append_assoc, ← hsp, splL_cut h2]
        rfl
  · have hic0 : i = c := by omega
    subst hic0
    have hz : Lib.countByte r 46 = 0 := by omega
    have hno : 46 ∉ r := List.count_eq_zero.1 hz
    refine W.ite_f (decide_eq_false (by omega)) ?_
    refine W.ret ?_
    refine W.need i0 ?_
    refine W.need hst ?_
    have hp := putS hil (oB r)
    have hl2 : ((flat sC ps).take (0 + (i : Int).toNat * 1) ++ [sD (oB r)] ++ (flat sC ps).drop (0 + (i : Int).toNat * 1 + 1)).length = i + 1 := by
      have : ((flat sC ps).take (0 + i * 1) ++ [sD (oB r)] ++ (flat sC ps).drop (0 + i * 1 + 1)).length = i + 1 := by rw [hp, sl_len, List.length_set]; omega
      exact this
    refine W.need (show 0 + (i + 1) * 1 ≤ ((flat sC ps).take (0 + (i : Int).toNat * 1) ++ [sD (oB r)] ++ (flat sC ps).drop (0 + (i : Int).toNat * 1 + 1)).length by rw [hl2]; omega) ?_
    refine W.need (show (0 : Int) ≤ IntKind.i64.wrap ((i : Int) + 1) ∧ IntKind.i64.wrap ((i : Int) + 1) ≤ (((((flat sC ps).take (0 + (i : Int).toNat * 1) ++ [sD (oB r)] ++ (flat sC ps).drop (0 + (i : Int).toNat * 1 + 1)).length - 0) / 1 : Nat) : Int) by rw [hl2, gi]; omega) ?_
    have hall : ps.set i (oB r) = splB s := by
      have h1 := take_set_snoc (oB r) hil
      rw [List.take_of_length_le (by rw [List.length_set]; omega)] at h1
      rw [h1, ← hsp, splL_one hno]
      rfl
    refine W.ret (RetQ.all (.inr ⟨[], 0, 0, 0, i + 1, 1, flat sC (splB s), ?_, ?_, ?_, by decide, by simp, fun q hq => by simp at hq, by simp, Nat.le_refl _, ?_, rfl⟩))
    · show AV.row 0 0 (0 + 0 * 1) ((IntKind.i64.wrap ((i : Int) + 1)).toNat - 0) = _
      rw [gi]; rfl
    · rw [← hall, ← hp]; rfl
    · rw [← hall, sl_len, List.length_set]; omega
    · show AV.d (.sl (i + 1) (((flat sC (splB s)).drop 0).take ((i + 1) * 1))) = _
      have hl3 : (splB s).length = i + 1 := by rw [← hall, List.length_set]; omega
      rw [List.drop_zero, ← hl3, flat_all sC_len]
      rfl
theorem ok42 (s : ByteArray) (hs : s.size ≤ 1000000) : Go.Am.Pure Tryz.prog 42 [.d (sD s), .d (sD dotS)] (slS (splB s)) := by
  refine CallOk.of tysOk mixed od42 Tryz.func42 rfl rfl code42 ?_
  exact W.pure (ok73 s hs) rfl rfl (W.ret (RetQ.pure rfl rfl))
end Go.Proofs.YtbjjimllnffcpaaGreatDoor.Gr
