/-
 The table of the program's types, printed by a program of mine; the kernel says that it is the program's.
 Every function with a body is entered by a call; printed by a program of mine.
 The data of topologies as plain Lean data, and as pure values.
-/
import Derived.Test.YtkaobkjcjodffaaGreatDoorProg
import Derived.KernelRfl
import Derived.Test.YtkaobkjcjodffaaGreatDoorSPwCall
import Derived.Test.YtkaobkjcjodffaaGreatDoorSPwFork
import Derived.Test.YtkaobkjcjodffaaGreatDoorSPwMap
namespace Go.Proofs.YtkaobkjcjodffaaGreatDoor
open Go Go.Pw
section
def tys : List TI := [
 ⟨.tup, 1, 0, some [.any]⟩,
 ⟨.fn, 1, 8, some [.nilfn]⟩,
 ⟨.int .i64, 1, 8, some [.int .i64 0]⟩,
 ⟨.int .i64, 1, 8, some [.int .i64 0]⟩,
 ⟨.bool, 1, 1, some [.bool false]⟩,
 ⟨.int .u8, 1, 1, some [.int .u8 0]⟩,
 ⟨.int .u8, 1, 1, some [.int .u8 0]⟩,
 ⟨.strct [(0, 1, false, 2), (1, 1, false, 3), (2, 1, false, 4), (3, 1, false, 6)], 4, 24, some [.int .i64 0, .int .i64 0, .bool false, .int .u8 0]⟩,
 ⟨.strct [(0, 1, false, 2), (1, 1, false, 3), (2, 1, false, 4), (3, 1, false, 6)], 4, 24, some [.int .i64 0, .int .i64 0, .bool false, .int .u8 0]⟩,
 ⟨.str, 1, 16, some [.str []]⟩,
 ⟨.str, 1, 16, some [.str []]⟩,
 ⟨.str, 1, 16, some [.str []]⟩,
 ⟨.int .u64, 1, 8, some [.int .u64 0]⟩,
 ⟨.strct [(0, 1, false, 9), (1, 1, false, 12)], 2, 24, some [.str [], .int .u64 0]⟩,
 ⟨.strct [(0, 1, false, 9), (1, 1, false, 12)], 2, 24, some [.str [], .int .u64 0]⟩,
 ⟨.ptr 281, 1, 8, some [.nilptr]⟩,
 ⟨.ptr 284, 1, 8, some [.nilptr]⟩,
 ⟨.ptr 292, 1, 8, some [.nilptr]⟩,
 ⟨.strct [(0, 1, false, 17)], 1, 8, some [.nilptr]⟩,
 ⟨.strct [(0, 1, false, 17)], 1, 8, some [.nilptr]⟩,
 ⟨.iface, 1, 16, some [.niliface]⟩,
 ⟨.int .i32, 1, 4, some [.int .i32 0]⟩,
 ⟨.sl 3 1 8, 1, 24, some [.nilsl]⟩,
 ⟨.ptr 69, 1, 8, some [.nilptr]⟩,
 ⟨.fn, 1, 8, some [.nilfn]⟩,
 ⟨.int .i64, 1, 8, some [.int .i64 0]⟩,
 ⟨.tup, 1, 0, some [.any]⟩,
 ⟨.fn, 1, 8, some [.nilfn]⟩,
 ⟨.sl 72 2 40, 1, 24, some [.nilsl]⟩,
 ⟨.sl 76 2 40, 1, 24, some [.nilsl]⟩,
 ⟨.sl 61 10 136, 1, 24, some [.nilsl]⟩,
 ⟨.sl 81 6 56, 1, 24, some [.nilsl]⟩,
 ⟨.sl 87 5 48, 1, 24, some [.nilsl]⟩,
 ⟨.strct [(0, 1, false, 28), (1, 1, false, 28), (2, 1, false, 29), (3, 1, false, 30), (4, 1, false, 31), (5, 1, false, 32)], 6, 144, some [.nilsl, .nilsl, .nilsl, .nilsl, .nilsl, .nilsl]⟩,
 ⟨.strct [(0, 1, false, 28), (1, 1, false, 28), (2, 1, false, 29), (3, 1, false, 30), (4, 1, false, 31), (5, 1, false, 32)], 6, 144, some [.nilsl, .nilsl, .nilsl, .nilsl, .nilsl, .nilsl]⟩,
 ⟨.fn, 1, 8, some [.nilfn]⟩,
 ⟨.sl 103 5 48, 1, 24, some [.nilsl]⟩,
 ⟨.sl 105 3 24, 1, 24, some [.nilsl]⟩,
 ⟨.sl 95 6 64, 1, 24, some [.nilsl]⟩,
 ⟨.sl 90 2 16, 1, 24, some [.nilsl]⟩,
 ⟨.strct [(0, 1, false, 36), (1, 1, false, 37), (2, 1, false, 38), (3, 1, false, 39), (4, 1, false, 3)], 5, 104, some [.nilsl, .nilsl, .nilsl, .nilsl, .int .i64 0]⟩,
 ⟨.strct [(0, 1, false, 36), (1, 1, false, 37), (2, 1, false, 38), (3, 1, false, 39), (4, 1, false, 3)], 5, 104, some [.nilsl, .nilsl, .nilsl, .nilsl, .int .i64 0]⟩,
 ⟨.fn, 1, 8, some [.nilfn]⟩,
 ⟨.fn, 1, 8, some [.nilfn]⟩,
 ⟨.fn, 1, 8, some [.nilfn]⟩,
 ⟨.fn, 1, 8, some [.nilfn]⟩,
 ⟨.fn, 1, 8, some [.nilfn]⟩,
 ⟨.fn, 1, 8, some [.nilfn]⟩,
 ⟨.fn, 1, 8, some [.nilfn]⟩,
 ⟨.sl 9 1 16, 1, 24, some [.nilsl]⟩,
 ⟨.tup, 1, 0, some [.any]⟩,
 ⟨.fn, 1, 8, some [.nilfn]⟩,
 ⟨.fn, 1, 8, some [.nilfn]⟩,
 ⟨.sl 57 2 32, 1, 24, some [.nilsl]⟩,
 ⟨.tup, 1, 0, some [.any]⟩,
 ⟨.fn, 1, 8, some [.nilfn]⟩,
 ⟨.strct [(0, 1, false, 3), (1, 1, false, 49)], 2, 32, some [.int .i64 0, .nilsl]⟩,
 ⟨.strct [(0, 1, false, 3), (1, 1, false, 49)], 2, 32, some [.int .i64 0, .nilsl]⟩,
 ⟨.fn, 1, 8, some [.nilfn]⟩,
 ⟨.fn, 1, 8, some [.nilfn]⟩,
 ⟨.strct [(0, 1, false, 4), (1, 1, false, 9), (2, 1, false, 9), (3, 1, false, 9), (4, 1, false, 4), (5, 1, false, 9), (6, 1, false, 9), (7, 1, false, 9), (8, 1, false, 9), (9, 1, false, 3)], 10, 136, some [.bool false, .str [], .str [], .str [], .bool false, .str [], .str [], .str [], .str [], .int .i64 0]⟩,
 ⟨.strct [(0, 1, false, 4), (1, 1, false, 9), (2, 1, false, 9), (3, 1, false, 9), (4, 1, false, 4), (5, 1, false, 9), (6, 1, false, 9), (7, 1, false, 9), (8, 1, false, 9), (9, 1, false, 3)], 10, 136, some [.bool false, .str [], .str [], .str [], .bool false, .str [], .str [], .str [], .str [], .int .i64 0]⟩,
 ⟨.fn, 1, 8, some [.nilfn]⟩,
 ⟨.fn, 1, 8, some [.nilfn]⟩,
 ⟨.fn, 1, 8, some [.nilfn]⟩,
 ⟨.fn, 1, 8, some [.nilfn]⟩,
 ⟨.fn, 1, 8, some [.nilfn]⟩,
 ⟨.fn, 1, 8, some [.nilfn]⟩,
 ⟨.strct [(0, 1, false, 22), (1, 1, false, 3)], 2, 32, some [.nilsl, .int .i64 0]⟩,
 ⟨.strct [(0, 1, false, 22), (1, 1, false, 3)], 2, 32, some [.nilsl, .int .i64 0]⟩,
 ⟨.sl 93 7 56, 1, 24, some [.nilsl]⟩,
 ⟨.strct [(0, 1, false, 9), (1, 1, false, 70)], 2, 40, some [.str [], .nilsl]⟩,
 ⟨.strct [(0, 1, false, 9), (1, 1, false, 70)], 2, 40, some [.str [], .nilsl]⟩,
 ⟨.fn, 1, 8, some [.nilfn]⟩,
 ⟨.sl 85 2 8, 1, 24, some [.nilsl]⟩,
 ⟨.strct [(0, 1, false, 9), (1, 1, false, 74)], 2, 40, some [.str [], .nilsl]⟩,
 ⟨.strct [(0, 1, false, 9), (1, 1, false, 74)], 2, 40, some [.str [], .nilsl]⟩,
 ⟨.fn, 1, 8, some [.nilfn]⟩,
 ⟨.fn, 1, 8, some [.nilfn]⟩,
 ⟨.int .u32, 1, 4, some [.int .u32 0]⟩,
 ⟨.strct [(0, 1, false, 79), (1, 1, false, 3), (2, 1, false, 3), (3, 1, false, 9), (4, 1, false, 79), (5, 1, false, 3)], 6, 56, some [.int .u32 0, .int .i64 0, .int .i64 0, .str [], .int .u32 0, .int .i64 0]⟩,
 ⟨.strct [(0, 1, false, 79), (1, 1, false, 3), (2, 1, false, 3), (3, 1, false, 9), (4, 1, false, 79), (5, 1, false, 3)], 6, 56, some [.int .u32 0, .int .i64 0, .int .i64 0, .str [], .int .u32 0, .int .i64 0]⟩,
 ⟨.fn, 1, 8, some [.nilfn]⟩,
 ⟨.fn, 1, 8, some [.nilfn]⟩,
 ⟨.strct [(0, 1, false, 79), (1, 1, false, 79)], 2, 8, some [.int .u32 0, .int .u32 0]⟩,
 ⟨.strct [(0, 1, false, 79), (1, 1, false, 79)], 2, 8, some [.int .u32 0, .int .u32 0]⟩,
 ⟨.strct [(0, 1, false, 9), (1, 1, false, 9), (2, 1, false, 79), (3, 2, true, 85)], 5, 48, some [.str [], .str [], .int .u32 0, .int .u32 0, .int .u32 0]⟩,
 ⟨.strct [(0, 1, false, 9), (1, 1, false, 9), (2, 1, false, 79), (3, 2, true, 85)], 5, 48, some [.str [], .str [], .int .u32 0, .int .u32 0, .int .u32 0]⟩,
 ⟨.fn, 1, 8, some [.nilfn]⟩,
 ⟨.strct [(0, 1, false, 79), (1, 1, false, 3)], 2, 16, some [.int .u32 0, .int .i64 0]⟩,
 ⟨.strct [(0, 1, false, 79), (1, 1, false, 3)], 2, 16, some [.int .u32 0, .int .i64 0]⟩,
 ⟨.fn, 1, 8, some [.nilfn]⟩,
 ⟨.strct [(0, 1, false, 3), (1, 1, false, 9), (2, 2, true, 90), (4, 1, false, 3), (5, 2, true, 85)], 7, 56, some [.int .i64 0, .str [], .int .u32 0, .int .i64 0, .int .i64 0, .int .u32 0, .int .u32 0]⟩,
 ⟨.strct [(0, 1, false, 3), (1, 1, false, 9), (2, 2, true, 90), (4, 1, false, 3), (5, 2, true, 85)], 7, 56, some [.int .i64 0, .str [], .int .u32 0, .int .i64 0, .int .i64 0, .int .u32 0, .int .u32 0]⟩,
 ⟨.strct [(0, 1, false, 9), (1, 1, false, 3), (2, 1, false, 9), (3, 2, true, 90), (5, 1, false, 4)], 6, 64, some [.str [], .int .i64 0, .str [], .int .u32 0, .int .i64 0, .bool false]⟩,
 ⟨.strct [(0, 1, false, 9), (1, 1, false, 3), (2, 1, false, 9), (3, 2, true, 90), (5, 1, false, 4)], 6, 64, some [.str [], .int .i64 0, .str [], .int .u32 0, .int .i64 0, .bool false]⟩,
 ⟨.fn, 1, 8, some [.nilfn]⟩,
 ⟨.fn, 1, 8, some [.nilfn]⟩,
 ⟨.fn, 1, 8, some [.nilfn]⟩,
 ⟨.tup, 1, 0, some [.any]⟩,
 ⟨.fn, 1, 8, some [.nilfn]⟩,
 ⟨.fn, 1, 8, some [.nilfn]⟩,
 ⟨.strct [(0, 1, false, 9), (1, 1, false, 3), (2, 1, false, 4), (3, 1, false, 4), (4, 1, false, 9)], 5, 48, some [.str [], .int .i64 0, .bool false, .bool false, .str []]⟩,
 ⟨.strct [(0, 1, false, 9), (1, 1, false, 3), (2, 1, false, 4), (3, 1, false, 4), (4, 1, false, 9)], 5, 48, some [.str [], .int .i64 0, .bool false, .bool false, .str []]⟩,
 ⟨.strct [(0, 1, false, 3), (1, 1, false, 3), (2, 1, false, 3)], 3, 24, some [.int .i64 0, .int .i64 0, .int .i64 0]⟩,
 ⟨.strct [(0, 1, false, 3), (1, 1, false, 3), (2, 1, false, 3)], 3, 24, some [.int .i64 0, .int .i64 0, .int .i64 0]⟩,
 ⟨.fn, 1, 8, some [.nilfn]⟩,
 ⟨.sl 5 1 1, 1, 24, some [.nilsl]⟩,
 ⟨.fn, 1, 8, some [.nilfn]⟩,
 ⟨.ptr 28, 1, 8, some [.nilptr]⟩,
 ⟨.fn, 1, 8, some [.nilfn]⟩,
 ⟨.ptr 34, 1, 8, some [.nilptr]⟩,
 ⟨.fn, 1, 8, some [.nilfn]⟩,
 ⟨.fn, 1, 8, some [.nilfn]⟩,
 ⟨.fn, 1, 8, some [.nilfn]⟩,
 ⟨.int .u64, 1, 8, some [.int .u64 0]⟩,
 ⟨.fn, 1, 8, some [.nilfn]⟩,
 ⟨.fn, 1, 8, some [.nilfn]⟩,
 ⟨.fn, 1, 8, some [.nilfn]⟩,
 ⟨.fn, 1, 8, some [.nilfn]⟩,
 ⟨.fn, 1, 8, some [.nilfn]⟩,
 ⟨.fn, 1, 8, some [.nilfn]⟩,
 ⟨.tup, 1, 0, some [.any]⟩,
 ⟨.fn, 1, 8, some [.nilfn]⟩,
 ⟨.fn, 1, 8, some [.nilfn]⟩,
 ⟨.fn, 1, 8, some [.nilfn]⟩,
 ⟨.fn, 1, 8, some [.nilfn]⟩,
 ⟨.fn, 1, 8, some [.nilfn]⟩,
 ⟨.fn, 1, 8, some [.nilfn]⟩,
 ⟨.fn, 1, 8, some [.nilfn]⟩,
 ⟨.fn, 1, 8, some [.nilfn]⟩,
 ⟨.fn, 1, 8, some [.nilfn]⟩,
 ⟨.fn, 1, 8, some [.nilfn]⟩,
 ⟨.fn, 1, 8, some [.nilfn]⟩,
 ⟨.tup, 1, 0, some [.any]⟩,
 ⟨.fn, 1, 8, some [.nilfn]⟩,
 ⟨.fn, 1, 8, some [.nilfn]⟩,
 ⟨.fn, 1, 8, some [.nilfn]⟩,
 ⟨.int .u64, 1, 8, some [.int .u64 0]⟩,
 ⟨.fn, 1, 8, some [.nilfn]⟩,
 ⟨.sl 79 1 4, 1, 24, some [.nilsl]⟩,
 ⟨.tup, 1, 0, some [.any]⟩,
 ⟨.fn, 1, 8, some [.nilfn]⟩,
 ⟨.fn, 1, 8, some [.nilfn]⟩,
 ⟨.sl 49 1 24, 1, 24, some [.nilsl]⟩,
 ⟨.tup, 1, 0, some [.any]⟩,
 ⟨.fn, 1, 8, some [.nilfn]⟩,
 ⟨.tup, 1, 0, some [.any]⟩,
 ⟨.fn, 1, 8, some [.nilfn]⟩,
 ⟨.fn, 1, 8, some [.nilfn]⟩,
 ⟨.tup, 1, 0, some [.any]⟩,
 ⟨.fn, 1, 8, some [.nilfn]⟩,
 ⟨.tup, 1, 0, some [.any]⟩,
 ⟨.fn, 1, 8, some [.nilfn]⟩,
 ⟨.fn, 1, 8, some [.nilfn]⟩,
 ⟨.map 9 3, 1, 8, some [.nilmap]⟩,
 ⟨.tup, 1, 0, some [.any]⟩,
 ⟨.fn, 1, 8, some [.nilfn]⟩,
 ⟨.fn, 1, 8, some [.nilfn]⟩,
 ⟨.fn, 1, 8, some [.nilfn]⟩,
 ⟨.fn, 1, 8, some [.nilfn]⟩,
 ⟨.fn, 1, 8, some [.nilfn]⟩,
 ⟨.ptr 164, 1, 8, some [.nilptr]⟩,
 ⟨.strct [(0, 1, false, 162), (1, 1, false, 107)], 2, 32, some [.nilptr, .nilsl]⟩,
 ⟨.strct [(0, 1, false, 162), (1, 1, false, 107)], 2, 32, some [.nilptr, .nilsl]⟩,
 ⟨.iface, 1, 16, some [.niliface]⟩,
 ⟨.iface, 1, 16, some [.niliface]⟩,
 ⟨.tup, 1, 0, some [.any]⟩,
 ⟨.fn, 1, 8, some [.nilfn]⟩,
 ⟨.fn, 1, 8, some [.nilfn]⟩,
 ⟨.fn, 1, 8, some [.nilfn]⟩,
 ⟨.fn, 1, 8, some [.nilfn]⟩,
 ⟨.fn, 1, 8, some [.nilfn]⟩,
 ⟨.fn, 1, 8, some [.nilfn]⟩,
 ⟨.fn, 1, 8, some [.nilfn]⟩,
 ⟨.fn, 1, 8, some [.nilfn]⟩,
 ⟨.fn, 1, 8, some [.nilfn]⟩,
 ⟨.tup, 1, 0, some [.any]⟩,
 ⟨.fn, 1, 8, some [.nilfn]⟩,
 ⟨.tup, 1, 0, some [.any]⟩,
 ⟨.fn, 1, 8, some [.nilfn]⟩,
 ⟨.tup, 1, 0, some [.any]⟩,
 ⟨.fn, 1, 8, some [.nilfn]⟩,
 ⟨.tup, 1, 0, some [.any]⟩,
 ⟨.fn, 1, 8, some [.nilfn]⟩,
 ⟨.tup, 1, 0, some [.any]⟩,
 ⟨.fn, 1, 8, some [.nilfn]⟩,
 ⟨.tup, 1, 0, some [.any]⟩,
 ⟨.fn, 1, 8, some [.nilfn]⟩,
 ⟨.fn, 1, 8, some [.nilfn]⟩,
 ⟨.fn, 1, 8, some [.nilfn]⟩,
 ⟨.tup, 1, 0, some [.any]⟩,
 ⟨.fn, 1, 8, some [.nilfn]⟩,
 ⟨.fn, 1, 8, some [.nilfn]⟩,
 ⟨.fn, 1, 8, some [.nilfn]⟩,
 ⟨.tup, 1, 0, some [.any]⟩,
 ⟨.fn, 1, 8, some [.nilfn]⟩,
 ⟨.fn, 1, 8, some [.nilfn]⟩,
 ⟨.fn, 1, 8, some [.nilfn]⟩,
 ⟨.fn, 1, 8, some [.nilfn]⟩,
 ⟨.arr 4 79 1, 4, 16, some [.int .u32 0, .int .u32 0, .int .u32 0, .int .u32 0]⟩,
 ⟨.tup, 1, 0, some [.any]⟩,
 ⟨.fn, 1, 8, some [.nilfn]⟩,
 ⟨.arr 7 9 1, 7, 112, some [.str [], .str [], .str [], .str [], .str [], .str [], .str []]⟩,
 ⟨.fn, 1, 8, some [.nilfn]⟩,
 ⟨.ptr 5, 1, 8, some [.nilptr]⟩,
 ⟨.fn, 1, 8, some [.nilfn]⟩,
 ⟨.sl 138 1 8, 1, 24, some [.nilsl]⟩,
 ⟨.fn, 1, 8, some [.nilfn]⟩,
 ⟨.fn, 1, 8, some [.nilfn]⟩,
 ⟨.tup, 1, 0, some [.any]⟩,
 ⟨.fn, 1, 8, some [.nilfn]⟩,
 ⟨.fn, 1, 8, some [.nilfn]⟩,
 ⟨.arr 5 4 1, 5, 5, some [.bool false, .bool false, .bool false, .bool false, .bool false]⟩,
 ⟨.tup, 1, 0, some [.any]⟩,
 ⟨.fn, 1, 8, some [.nilfn]⟩,
 ⟨.fn, 1, 8, some [.nilfn]⟩,
 ⟨.fn, 1, 8, some [.nilfn]⟩,
 ⟨.fn, 1, 8, some [.nilfn]⟩,
 ⟨.fn, 1, 8, some [.nilfn]⟩,
 ⟨.fn, 1, 8, some [.nilfn]⟩,
 ⟨.arr 256 4 1, 256, 256, some (List.replicate 256 (.bool false))⟩,
 ⟨.arr 256 4 1, 256, 256, some (List.replicate 256 (.bool false))⟩,
 ⟨.tup, 1, 0, some [.any]⟩,
 ⟨.fn, 1, 8, some [.nilfn]⟩,
 ⟨.fn, 1, 8, some [.nilfn]⟩,
 ⟨.ptr 222, 1, 8, some [.nilptr]⟩,
 ⟨.fn, 1, 8, some [.nilfn]⟩,
 ⟨.arr 24 5 1, 24, 24, some (List.replicate 24 (.int .u8 0))⟩,
 ⟨.fn, 1, 8, some [.nilfn]⟩,
 ⟨.fn, 1, 8, some [.nilfn]⟩,
 ⟨.tup, 1, 0, some [.any]⟩,
 ⟨.fn, 1, 8, some [.nilfn]⟩,
 ⟨.other, 1, 8, some [.nilptr]⟩,
 ⟨.fn, 1, 8, some [.nilfn]⟩,
 ⟨.fn, 1, 8, some [.nilfn]⟩,
 ⟨.fn, 1, 8, some [.nilfn]⟩,
 ⟨.tup, 1, 0, some [.any]⟩,
 ⟨.fn, 1, 8, some [.nilfn]⟩,
 ⟨.fn, 1, 8, some [.nilfn]⟩,
 ⟨.fn, 1, 8, some [.nilfn]⟩,
 ⟨.fn, 1, 8, some [.nilfn]⟩,
 ⟨.fn, 1, 8, some [.nilfn]⟩,
 ⟨.fn, 1, 8, some [.nilfn]⟩,
 ⟨.sl 74 1 24, 1, 24, some [.nilsl]⟩,
 ⟨.fn, 1, 8, some [.nilfn]⟩,
 ⟨.fn, 1, 8, some [.nilfn]⟩,
 ⟨.fn, 1, 8, some [.nilfn]⟩,
 ⟨.arr 20 138 1, 20, 160, some [.int .u64 0, .int .u64 0, .int .u64 0, .int .u64 0, .int .u64 0, .int .u64 0, .int .u64 0, .int .u64 0, .int .u64 0, .int .u64 0, .int .u64 0, .int .u64 0, .int .u64 0, .int .u64 0, .int .u64 0, .int .u64 0, .int .u64 0, .int .u64 0, .int .u64 0, .int .u64 0]⟩,
 ⟨.arr 65 5 1, 65, 65, some (List.replicate 65 (.int .u8 0))⟩,
 ⟨.fn, 1, 8, some [.nilfn]⟩,
 ⟨.fn, 1, 8, some [.nilfn]⟩,
 ⟨.fn, 1, 8, some [.nilfn]⟩,
 ⟨.fn, 1, 8, some [.nilfn]⟩,
 ⟨.fn, 1, 8, some [.nilfn]⟩,
 ⟨.fn, 1, 8, some [.nilfn]⟩,
 ⟨.arr 256 5 1, 256, 256, some (List.replicate 256 (.int .u8 0))⟩,
 ⟨.strct [(0, 1, false, 5), (1, 1, false, 5)], 2, 2, some [.int .u8 0, .int .u8 0]⟩,
 ⟨.strct [(0, 1, false, 5), (1, 1, false, 5)], 2, 2, some [.int .u8 0, .int .u8 0]⟩,
 ⟨.arr 16 258 2, 32, 32, some (List.replicate 32 (.int .u8 0))⟩,
 ⟨.tup, 1, 0, some [.any]⟩,
 ⟨.fn, 1, 8, some [.nilfn]⟩,
 ⟨.fn, 1, 8, some [.nilfn]⟩,
 ⟨.int .i64, 1, 8, some [.int .i64 0]⟩,
 ⟨.tup, 1, 0, some [.any]⟩,
 ⟨.fn, 1, 8, some [.nilfn]⟩,
 ⟨.fn, 1, 8, some [.nilfn]⟩,
 ⟨.fn, 1, 8, some [.nilfn]⟩,
 ⟨.fn, 1, 8, some [.nilfn]⟩,
 ⟨.fn, 1, 8, some [.nilfn]⟩,
 ⟨.arr 32 5 1, 32, 32, some (List.replicate 32 (.int .u8 0))⟩,
 ⟨.arr 64 5 1, 64, 64, some (List.replicate 64 (.int .u8 0))⟩,
 ⟨.int .u64, 1, 8, some [.int .u64 0]⟩,
 ⟨.fn, 1, 8, some [.nilfn]⟩,
 ⟨.fn, 1, 8, some [.nilfn]⟩,
 ⟨.fn, 1, 8, some [.nilfn]⟩,
 ⟨.ptr 3, 1, 8, some [.nilptr]⟩,
 ⟨.fn, 1, 8, some [.nilfn]⟩,
 ⟨.ptr 272, 1, 8, some [.nilptr]⟩,
 ⟨.fn, 1, 8, some [.nilfn]⟩,
 ⟨.strct [(0, 1, false, 17), (1, 1, false, 17), (2, 1, false, 17), (3, 1, false, 9)], 4, 40, some [.nilptr, .nilptr, .nilptr, .str []]⟩,
 ⟨.strct [(0, 1, false, 17), (1, 1, false, 17), (2, 1, false, 17), (3, 1, false, 9)], 4, 40, some [.nilptr, .nilptr, .nilptr, .str []]⟩,
 ⟨.arr 0 16 1, 0, 0, some []⟩,
 ⟨.strct [(0, 0, true, 282)], 0, 0, some []⟩,
 ⟨.strct [(0, 0, true, 282)], 0, 0, some []⟩,
 ⟨.fn, 1, 8, some [.nilfn]⟩,
 ⟨.int .u8, 1, 1, some [.int .u8 0]⟩,
 ⟨.int .u8, 1, 1, some [.int .u8 0]⟩,
 ⟨.fn, 1, 8, some [.nilfn]⟩,
 ⟨.int .i32, 1, 4, some [.int .i32 0]⟩,
 ⟨.int .i32, 1, 4, some [.int .i32 0]⟩,
 ⟨.strct [(0, 1, false, 12), (1, 1, false, 12), (2, 1, false, 79), (3, 1, false, 286), (4, 1, false, 5), (5, 1, false, 5), (6, 1, false, 287), (7, 1, false, 288), (8, 1, false, 205), (9, 1, false, 289), (10, 1, false, 290)], 11, 48, some [.int .u64 0, .int .u64 0, .int .u32 0, .int .u8 0, .int .u8 0, .int .u8 0, .int .u8 0, .nilfn, .nilptr, .int .i32 0, .int .i32 0]⟩,
 ⟨.strct [(0, 1, false, 12), (1, 1, false, 12), (2, 1, false, 79), (3, 1, false, 286), (4, 1, false, 5), (5, 1, false, 5), (6, 1, false, 287), (7, 1, false, 288), (8, 1, false, 205), (9, 1, false, 289), (10, 1, false, 290)], 11, 48, some [.int .u64 0, .int .u64 0, .int .u32 0, .int .u8 0, .int .u8 0, .int .u8 0, .int .u8 0, .nilfn, .nilptr, .int .i32 0, .int .i32 0]⟩
]
theorem hT : Tys Tryz.prog tys := tys_of _ _ (by kernel_rfl)
theorem e2 : Enters Tryz.prog 2 := Enters.of Tryz.func2 (by kernel_rfl) rfl
theorem e3 : Enters Tryz.prog 3 := Enters.of Tryz.func3 (by kernel_rfl) rfl
theorem e10 : Enters Tryz.prog 10 := Enters.of Tryz.func10 (by kernel_rfl) rfl
theorem e11 : Enters Tryz.prog 11 := Enters.of Tryz.func11 (by kernel_rfl) rfl
theorem e12 : Enters Tryz.prog 12 := Enters.of Tryz.func12 (by kernel_rfl) rfl
theorem e13 : Enters Tryz.prog 13 := Enters.of Tryz.func13 (by kernel_rfl) rfl
theorem e17 : Enters Tryz.prog 17 := Enters.of Tryz.func17 (by kernel_rfl) rfl
theorem e18 : Enters Tryz.prog 18 := Enters.of Tryz.func18 (by kernel_rfl) rfl
theorem e19 : Enters Tryz.prog 19 := Enters.of Tryz.func19 (by kernel_rfl) rfl
theorem e21 : Enters Tryz.prog 21 := Enters.of Tryz.func21 (by kernel_rfl) rfl
theorem e23 : Enters Tryz.prog 23 := Enters.of Tryz.func23 (by kernel_rfl) rfl
theorem e24 : Enters Tryz.prog 24 := Enters.of Tryz.func24 (by kernel_rfl) rfl
theorem e25 : Enters Tryz.prog 25 := Enters.of Tryz.func25 (by kernel_rfl) rfl
theorem e27 : Enters Tryz.prog 27 := Enters.of Tryz.func27 (by kernel_rfl) rfl
theorem e28 : Enters Tryz.prog 28 := Enters.of Tryz.func28 (by kernel_rfl) rfl
theorem e29 : Enters Tryz.prog 29 := Enters.of Tryz.func29 (by kernel_rfl) rfl
theorem e30 : Enters Tryz.prog 30 := Enters.of Tryz.func30 (by kernel_rfl) rfl
theorem e31 : Enters Tryz.prog 31 := Enters.of Tryz.func31 (by kernel_rfl) rfl
theorem e32 : Enters Tryz.prog 32 := Enters.of Tryz.func32 (by kernel_rfl) rfl
theorem e33 : Enters Tryz.prog 33 := Enters.of Tryz.func33 (by kernel_rfl) rfl
theorem e34 : Enters Tryz.prog 34 := Enters.of Tryz.func34 (by kernel_rfl) rfl
theorem e35 : Enters Tryz.prog 35 := Enters.of Tryz.func35 (by kernel_rfl) rfl
theorem e36 : Enters Tryz.prog 36 := Enters.of Tryz.func36 (by kernel_rfl) rfl
theorem e37 : Enters Tryz.prog 37 := Enters.of Tryz.func37 (by kernel_rfl) rfl
theorem e38 : Enters Tryz.prog 38 := Enters.of Tryz.func38 (by kernel_rfl) rfl
theorem e39 : Enters Tryz.prog 39 := Enters.of Tryz.func39 (by kernel_rfl) rfl
theorem e40 : Enters Tryz.prog 40 := Enters.of Tryz.func40 (by kernel_rfl) rfl
theorem e41 : Enters Tryz.prog 41 := Enters.of Tryz.func41 (by kernel_rfl) rfl
theorem e42 : Enters Tryz.prog 42 := Enters.of Tryz.func42 (by kernel_rfl) rfl
theorem e43 : Enters Tryz.prog 43 := Enters.of Tryz.func43 (by kernel_rfl) rfl
theorem e45 : Enters Tryz.prog 45 := Enters.of Tryz.func45 (by kernel_rfl) rfl
theorem e46 : Enters Tryz.prog 46 := Enters.of Tryz.func46 (by kernel_rfl) rfl
theorem e47 : Enters Tryz.prog 47 := Enters.of Tryz.func47 (by kernel_rfl) rfl
theorem e48 : Enters Tryz.prog 48 := Enters.of Tryz.func48 (by kernel_rfl) rfl
theorem e49 : Enters Tryz.prog 49 := Enters.of Tryz.func49 (by kernel_rfl) rfl
theorem e50 : Enters Tryz.prog 50 := Enters.of Tryz.func50 (by kernel_rfl) rfl
theorem e51 : Enters Tryz.prog 51 := Enters.of Tryz.func51 (by kernel_rfl) rfl
theorem e57 : Enters Tryz.prog 57 := Enters.of Tryz.func57 (by kernel_rfl) rfl
theorem e58 : Enters Tryz.prog 58 := Enters.of Tryz.func58 (by kernel_rfl) rfl
theorem e59 : Enters Tryz.prog 59 := Enters.of Tryz.func59 (by kernel_rfl) rfl
theorem e60 : Enters Tryz.prog 60 := Enters.of Tryz.func60 (by kernel_rfl) rfl
theorem e61 : Enters Tryz.prog 61 := Enters.of Tryz.func61 (by kernel_rfl) rfl
theorem e62 : Enters Tryz.prog 62 := Enters.of Tryz.func62 (by kernel_rfl) rfl
theorem e63 : Enters Tryz.prog 63 := Enters.of Tryz.func63 (by kernel_rfl) rfl
theorem e64 : Enters Tryz.prog 64 := Enters.of Tryz.func64 (by kernel_rfl) rfl
theorem e65 : Enters Tryz.prog 65 := Enters.of Tryz.func65 (by kernel_rfl) rfl
theorem e66 : Enters Tryz.prog 66 := Enters.of Tryz.func66 (by kernel_rfl) rfl
theorem e67 : Enters Tryz.prog 67 := Enters.of Tryz.func67 (by kernel_rfl) rfl
theorem e68 : Enters Tryz.prog 68 := Enters.of Tryz.func68 (by kernel_rfl) rfl
theorem e69 : Enters Tryz.prog 69 := Enters.of Tryz.func69 (by kernel_rfl) rfl
theorem e70 : Enters Tryz.prog 70 := Enters.of Tryz.func70 (by kernel_rfl) rfl
theorem e71 : Enters Tryz.prog 71 := Enters.of Tryz.func71 (by kernel_rfl) rfl
theorem e72 : Enters Tryz.prog 72 := Enters.of Tryz.func72 (by kernel_rfl) rfl
theorem e73 : Enters Tryz.prog 73 := Enters.of Tryz.func73 (by kernel_rfl) rfl
theorem e74 : Enters Tryz.prog 74 := Enters.of Tryz.func74 (by kernel_rfl) rfl
theorem e75 : Enters Tryz.prog 75 := Enters.of Tryz.func75 (by kernel_rfl) rfl
theorem e76 : Enters Tryz.prog 76 := Enters.of Tryz.func76 (by kernel_rfl) rfl
theorem e77 : Enters Tryz.prog 77 := Enters.of Tryz.func77 (by kernel_rfl) rfl
theorem e78 : Enters Tryz.prog 78 := Enters.of Tryz.func78 (by kernel_rfl) rfl
theorem e79 : Enters Tryz.prog 79 := Enters.of Tryz.func79 (by kernel_rfl) rfl
theorem e80 : Enters Tryz.prog 80 := Enters.of Tryz.func80 (by kernel_rfl) rfl
theorem e81 : Enters Tryz.prog 81 := Enters.of Tryz.func81 (by kernel_rfl) rfl
theorem e82 : Enters Tryz.prog 82 := Enters.of Tryz.func82 (by kernel_rfl) rfl
theorem e83 : Enters Tryz.prog 83 := Enters.of Tryz.func83 (by kernel_rfl) rfl
theorem e84 : Enters Tryz.prog 84 := Enters.of Tryz.func84 (by kernel_rfl) rfl
theorem e85 : Enters Tryz.prog 85 := Enters.of Tryz.func85 (by kernel_rfl) rfl
theorem e86 : Enters Tryz.prog 86 := Enters.of Tryz.func86 (by kernel_rfl) rfl
theorem e87 : Enters Tryz.prog 87 := Enters.of Tryz.func87 (by kernel_rfl) rfl
theorem e88 : Enters Tryz.prog 88 := Enters.of Tryz.func88 (by kernel_rfl) rfl
theorem e89 : Enters Tryz.prog 89 := Enters.of Tryz.func89 (by kernel_rfl) rfl
theorem e90 : Enters Tryz.prog 90 := Enters.of Tryz.func90 (by kernel_rfl) rfl
theorem e92 : Enters Tryz.prog 92 := Enters.of Tryz.func92 (by kernel_rfl) rfl
theorem e93 : Enters Tryz.prog 93 := Enters.of Tryz.func93 (by kernel_rfl) rfl
theorem e94 : Enters Tryz.prog 94 := Enters.of Tryz.func94 (by kernel_rfl) rfl
theorem e95 : Enters Tryz.prog 95 := Enters.of Tryz.func95 (by kernel_rfl) rfl
theorem e96 : Enters Tryz.prog 96 := Enters.of Tryz.func96 (by kernel_rfl) rfl
theorem e97 : Enters Tryz.prog 97 := Enters.of Tryz.func97 (by kernel_rfl) rfl
theorem e98 : Enters Tryz.prog 98 := Enters.of Tryz.func98 (by kernel_rfl) rfl
theorem e99 : Enters Tryz.prog 99 := Enters.of Tryz.func99 (by kernel_rfl) rfl
theorem e100 : Enters Tryz.prog 100 := Enters.of Tryz.func100 (by kernel_rfl) rfl
theorem e101 : Enters Tryz.prog 101 := Enters.of Tryz.func101 (by kernel_rfl) rfl
theorem e102 : Enters Tryz.prog 102 := Enters.of Tryz.func102 (by kernel_rfl) rfl
theorem e103 : Enters Tryz.prog 103 := Enters.of Tryz.func103 (by kernel_rfl) rfl
theorem e104 : Enters Tryz.prog 104 := Enters.of Tryz.func104 (by kernel_rfl) rfl
theorem e105 : Enters Tryz.prog 105 := Enters.of Tryz.func105 (by kernel_rfl) rfl
theorem e108 : Enters Tryz.prog 108 := Enters.of Tryz.func108 (by kernel_rfl) rfl
theorem e109 : Enters Tryz.prog 109 := Enters.of Tryz.func109 (by kernel_rfl) rfl
theorem e110 : Enters Tryz.prog 110 := Enters.of Tryz.func110 (by kernel_rfl) rfl
theorem e111 : Enters Tryz.prog 111 := Enters.of Tryz.func111 (by kernel_rfl) rfl
theorem e117 : Enters Tryz.prog 117 := Enters.of Tryz.func117 (by kernel_rfl) rfl
theorem e118 : Enters Tryz.prog 118 := Enters.of Tryz.func118 (by kernel_rfl) rfl
theorem e119 : Enters Tryz.prog 119 := Enters.of Tryz.func119 (by kernel_rfl) rfl
theorem e120 : Enters Tryz.prog 120 := Enters.of Tryz.func120 (by kernel_rfl) rfl
theorem e121 : Enters Tryz.prog 121 := Enters.of Tryz.func121 (by kernel_rfl) rfl
theorem e122 : Enters Tryz.prog 122 := Enters.of Tryz.func122 (by kernel_rfl) rfl
theorem e123 : Enters Tryz.prog 123 := Enters.of Tryz.func123 (by kernel_rfl) rfl
theorem e124 : Enters Tryz.prog 124 := Enters.of Tryz.func124 (by kernel_rfl) rfl
theorem e125 : Enters Tryz.prog 125 := Enters.of Tryz.func125 (by kernel_rfl) rfl
theorem e126 : Enters Tryz.prog 126 := Enters.of Tryz.func126 (by kernel_rfl) rfl
theorem e127 : Enters Tryz.prog 127 := Enters.of Tryz.func127 (by kernel_rfl) rfl
theorem e128 : Enters Tryz.prog 128 := Enters.of Tryz.func128 (by kernel_rfl) rfl
theorem e129 : Enters Tryz.prog 129 := Enters.of Tryz.func129 (by kernel_rfl) rfl
theorem e130 : Enters Tryz.prog 130 := Enters.of Tryz.func130 (by kernel_rfl) rfl
theorem e137 : Enters Tryz.prog 137 := Enters.of Tryz.func137 (by kernel_rfl) rfl
theorem e138 : Enters Tryz.prog 138 := Enters.of Tryz.func138 (by kernel_rfl) rfl
theorem e139 : Enters Tryz.prog 139 := Enters.of Tryz.func139 (by kernel_rfl) rfl
theorem e140 : Enters Tryz.prog 140 := Enters.of Tryz.func140 (by kernel_rfl) rfl
theorem e141 : Enters Tryz.prog 141 := Enters.of Tryz.func141 (by kernel_rfl) rfl
theorem e142 : Enters Tryz.prog 142 := Enters.of Tryz.func142 (by kernel_rfl) rfl
theorem e143 : Enters Tryz.prog 143 := Enters.of Tryz.func143 (by kernel_rfl) rfl
theorem e144 : Enters Tryz.prog 144 := Enters.of Tryz.func144 (by kernel_rfl) rfl
theorem e145 : Enters Tryz.prog 145 := Enters.of Tryz.func145 (by kernel_rfl) rfl
theorem e146 : Enters Tryz.prog 146 := Enters.of Tryz.func146 (by kernel_rfl) rfl
theorem e147 : Enters Tryz.prog 147 := Enters.of Tryz.func147 (by kernel_rfl) rfl
theorem e148 : Enters Tryz.prog 148 := Enters.of Tryz.func148 (by kernel_rfl) rfl
theorem e149 : Enters Tryz.prog 149 := Enters.of Tryz.func149 (by kernel_rfl) rfl
theorem e150 : Enters Tryz.prog 150 := Enters.of Tryz.func150 (by kernel_rfl) rfl
theorem e151 : Enters Tryz.prog 151 := Enters.of Tryz.func151 (by kernel_rfl) rfl
theorem e152 : Enters Tryz.prog 152 := Enters.of Tryz.func152 (by kernel_rfl) rfl
theorem e156 : Enters Tryz.prog 156 := Enters.of Tryz.func156 (by kernel_rfl) rfl
theorem e157 : Enters Tryz.prog 157 := Enters.of Tryz.func157 (by kernel_rfl) rfl
theorem e158 : Enters Tryz.prog 158 := Enters.of Tryz.func158 (by kernel_rfl) rfl
theorem e159 : Enters Tryz.prog 159 := Enters.of Tryz.func159 (by kernel_rfl) rfl
theorem e160 : Enters Tryz.prog 160 := Enters.of Tryz.func160 (by kernel_rfl) rfl
theorem e172 : Enters Tryz.prog 172 := Enters.of Tryz.func172 (by kernel_rfl) rfl
theorem e173 : Enters Tryz.prog 173 := Enters.of Tryz.func173 (by kernel_rfl) rfl
theorem e174 : Enters Tryz.prog 174 := Enters.of Tryz.func174 (by kernel_rfl) rfl
theorem e175 : Enters Tryz.prog 175 := Enters.of Tryz.func175 (by kernel_rfl) rfl
theorem e184 : Enters Tryz.prog 184 := Enters.of Tryz.func184 (by kernel_rfl) rfl
theorem e185 : Enters Tryz.prog 185 := Enters.of Tryz.func185 (by kernel_rfl) rfl
theorem e186 : Enters Tryz.prog 186 := Enters.of Tryz.func186 (by kernel_rfl) rfl
theorem e187 : Enters Tryz.prog 187 := Enters.of Tryz.func187 (by kernel_rfl) rfl
theorem e188 : Enters Tryz.prog 188 := Enters.of Tryz.func188 (by kernel_rfl) rfl
theorem e192 : Enters Tryz.prog 192 := Enters.of Tryz.func192 (by kernel_rfl) rfl
theorem e193 : Enters Tryz.prog 193 := Enters.of Tryz.func193 (by kernel_rfl) rfl
theorem e202 : Enters Tryz.prog 202 := Enters.of Tryz.func202 (by kernel_rfl) rfl
theorem e203 : Enters Tryz.prog 203 := Enters.of Tryz.func203 (by kernel_rfl) rfl
theorem e204 : Enters Tryz.prog 204 := Enters.of Tryz.func204 (by kernel_rfl) rfl
theorem e207 : Enters Tryz.prog 207 := Enters.of Tryz.func207 (by kernel_rfl) rfl
theorem hmix : Tryz.prog.follows .mixedOrders = true := by kernel_rfl
def runT {α : Type} (b : Bool) : List Nat → ((List (Nat × Bool) → α) → α) → (List (Nat × Bool) → α) → α
 | [], r, k => r k
 | x :: xs, r, k => runT b xs r fun ys => k ((x, b) :: ys)
def decF {α : Type} : Bool → List (List Nat) → (List (Nat × Bool) → α) → α
 | _, [], k => k []
 | true, l :: ls, k => runT true l (decF false ls) k
 | false, l :: ls, k => runT false l (decF true ls) k
theorem zDr {Gl : Glob} {B : Base} {env : List PV} {st : List PObj} {Q : Post} {id : Nat} {l : List Oper} (q : List (List Nat)) {ord : List (Nat × Bool)} (h : PWO Tryz.prog Gl B l.toArray (atEnd Q) ord env st []) (_hq : (decF true q fun o => (o, ())) = (ord, ()) := by exact rfl) (hB : (ord.length == l.length && okOrd l.toArray ord (Array.replicate l.length false)) = true := by decide +kernel) : PW Tryz.prog Gl B (.region id l.toArray true) env st Q := pw_draw ord hmix hB h
abbrev Str := List UInt8
structure TDev where
 name : Str
 cap : Int
 rng : Bool
 vol : Bool
 cls : Str
structure TLink where
 a : Int
 b : Int
 cost : Int
structure TPfx where
 addr : Int
 bits : Int
structure TEdge where
 name : Str
 dev : Int
 zone : Str
 pfx : TPfx
 planned : Bool
structure Topo where
 devs : List TDev
 links : List TLink
 edges : List TEdge
 pools : List TPfx
 tol : Int
def eDev (d : TDev) : PV := .agg [.str d.name, .int .i64 d.cap, .bool d.rng, .bool d.vol, .str d.cls]
def eLink (l : TLink) : PV := .agg [.int .i64 l.a, .int .i64 l.b, .int .i64 l.cost]
def ePfx (p : TPfx) : PV := .agg [.int .u32 p.addr, .int .i64 p.bits]
def eEdge (e : TEdge) : PV := .agg [.str e.name, .int .i64 e.dev, .str e.zone, .int .u32 e.pfx.addr, .int .i64 e.pfx.bits, .bool e.planned]
def eInt (n : Int) : PV := .int .i64 n
def eTopo (t : Topo) : PV := .agg [.sl (t.devs.map eDev), .sl (t.links.map eLink), .sl (t.edges.map eEdge), .sl (t.pools.map ePfx), .int .i64 t.tol]
def firstAt {α : Type} (p : α → Bool) (l : List α) : Int := match l.findIdx? p with | some i => (i : Int) | none => -1
theorem firstAt_hit {α : Type} {p : α → Bool} {l : List α} {i : Nat} (hi : i < l.length) (h1 : p l[i] = true) (h0 : ∀ (j : Nat) x, j < i → l[j]? = some x → p x = false) : firstAt p l = (i : Int) := by
 unfold firstAt
 rw [show l.findIdx? p = some i from ?_]
 rw [List.findIdx?_eq_some_iff_getElem]
 exact ⟨hi, h1, fun j hj => by simpa using h0 j _ hj (List.getElem?_eq_getElem (by omega))⟩
theorem firstAt_miss {α : Type} {p : α → Bool} {l : List α} (h0 : ∀ (j : Nat) x, l[j]? = some x → p x = false) : firstAt p l = -1 := by
 unfold firstAt
 rw [show l.findIdx? p = none from ?_]
 rw [List.findIdx?_eq_none_iff]
 intro x hx
 obtain ⟨j, hj⟩ := List.mem_iff_getElem?.1 hx
 exact h0 j x hj
def Small {α : Type} (l : List α) : Prop := l.length < 2 ^ 40

end
end Go.Proofs.YtkaobkjcjodffaaGreatDoor