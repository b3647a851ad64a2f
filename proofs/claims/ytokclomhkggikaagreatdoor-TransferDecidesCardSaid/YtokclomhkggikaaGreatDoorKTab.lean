/-
 The table of the program's types, printed by a program of mine; the kernel says that it is the program's.
 Every function with a body is entered by a call; printed by a program of mine.
 The data of topologies as plain Lean data, and as pure values.
 The library functions that the topology's code calls, as contracts over pure values.
-/
import Derived.Test.YtokclomhkggikaaGreatDoorProg
import Derived.KernelRfl
import Derived.Test.YtokclomhkggikaaGreatDoorJPwCall
import Derived.Test.YtokclomhkggikaaGreatDoorJPwFork
import Derived.Test.YtokclomhkggikaaGreatDoorJPwShort
import Derived.Shelf.Strings.SlTrimAscii
import Derived.Shelf.Strings.Cut
import Derived.Shelf.Strings.Split
set_option maxHeartbeats 20000000
namespace Go.Proofs.YtokclomhkggikaaGreatDoor
open Go Go.Pw
section
def tys : List TI := [
 ⟨.tup, 1, 0, some [.any]⟩,
 ⟨.fn, 1, 8, some [.nilfn]⟩,
 ⟨.int .i64, 1, 8, some [.int .i64 0]⟩,
 ⟨.int .i64, 1, 8, some [.int .i64 0]⟩,
 ⟨.bool, 1, 1, some [.bool false]⟩,
 ⟨.int .u8, 1, 1, some [.int .u8 0]⟩,
 ⟨.int .u8, 1, 1, some [.int .u8 0]⟩,
 ⟨.strct [(0, 1, false, 2), (1, 1, false, 3), (2, 1, false, 4), (3, 1, false, 6)], 4, 24, some [.int .i64 0, .int .i64 0, .bool false, .int .u8 0]⟩,
 ⟨.strct [(0, 1, false, 2), (1, 1, false, 3), (2, 1, false, 4), (3, 1, false, 6)], 4, 24, some [.int .i64 0, .int .i64 0, .bool false, .int .u8 0]⟩,
 ⟨.str, 1, 16, some [.str []]⟩,
 ⟨.str, 1, 16, some [.str []]⟩,
 ⟨.str, 1, 16, some [.str []]⟩,
 ⟨.int .u64, 1, 8, some [.int .u64 0]⟩,
 ⟨.strct [(0, 1, false, 9), (1, 1, false, 12)], 2, 24, some [.str [], .int .u64 0]⟩,
 ⟨.strct [(0, 1, false, 9), (1, 1, false, 12)], 2, 24, some [.str [], .int .u64 0]⟩,
 ⟨.ptr 376, 1, 8, some [.nilptr]⟩,
 ⟨.ptr 379, 1, 8, some [.nilptr]⟩,
 ⟨.ptr 388, 1, 8, some [.nilptr]⟩,
 ⟨.strct [(0, 1, false, 17)], 1, 8, some [.nilptr]⟩,
 ⟨.strct [(0, 1, false, 17)], 1, 8, some [.nilptr]⟩,
 ⟨.iface, 1, 16, some [.niliface]⟩,
 ⟨.int .i32, 1, 4, some [.int .i32 0]⟩,
 ⟨.sl 3 1 8, 1, 24, some [.nilsl]⟩,
 ⟨.sl 125 11 44, 1, 24, some [.nilsl]⟩,
 ⟨.sl 125 11 44, 1, 24, some [.nilsl]⟩,
 ⟨.sl 141 20 80, 1, 24, some [.nilsl]⟩,
 ⟨.sl 139 13 52, 1, 24, some [.nilsl]⟩,
 ⟨.sl 137 11 56, 1, 24, some [.nilsl]⟩,
 ⟨.strct [(0, 1, false, 3), (1, 1, false, 24), (2, 1, false, 24), (3, 1, false, 25), (4, 1, false, 26), (5, 1, false, 27)], 6, 128, some [.int .i64 0, .nilsl, .nilsl, .nilsl, .nilsl, .nilsl]⟩,
 ⟨.strct [(0, 1, false, 3), (1, 1, false, 24), (2, 1, false, 24), (3, 1, false, 25), (4, 1, false, 26), (5, 1, false, 27)], 6, 128, some [.int .i64 0, .nilsl, .nilsl, .nilsl, .nilsl, .nilsl]⟩,
 ⟨.int .u32, 1, 4, some [.int .u32 0]⟩,
 ⟨.int .u16, 1, 2, some [.int .u16 0]⟩,
 ⟨.strct [(0, 1, false, 30), (1, 1, false, 30), (2, 1, false, 5), (3, 1, false, 31), (4, 1, false, 31)], 5, 16, some [.int .u32 0, .int .u32 0, .int .u8 0, .int .u16 0, .int .u16 0]⟩,
 ⟨.strct [(0, 1, false, 30), (1, 1, false, 30), (2, 1, false, 5), (3, 1, false, 31), (4, 1, false, 31)], 5, 16, some [.int .u32 0, .int .u32 0, .int .u8 0, .int .u16 0, .int .u16 0]⟩,
 ⟨.ptr 70, 1, 8, some [.nilptr]⟩,
 ⟨.fn, 1, 8, some [.nilfn]⟩,
 ⟨.sl 74 5 48, 1, 24, some [.nilsl]⟩,
 ⟨.sl 76 3 24, 1, 24, some [.nilsl]⟩,
 ⟨.sl 81 6 64, 1, 24, some [.nilsl]⟩,
 ⟨.sl 78 2 16, 1, 24, some [.nilsl]⟩,
 ⟨.strct [(0, 1, false, 36), (1, 1, false, 37), (2, 1, false, 38), (3, 1, false, 39), (4, 1, false, 3)], 5, 104, some [.nilsl, .nilsl, .nilsl, .nilsl, .int .i64 0]⟩,
 ⟨.strct [(0, 1, false, 36), (1, 1, false, 37), (2, 1, false, 38), (3, 1, false, 39), (4, 1, false, 3)], 5, 104, some [.nilsl, .nilsl, .nilsl, .nilsl, .int .i64 0]⟩,
 ⟨.fn, 1, 8, some [.nilfn]⟩,
 ⟨.tup, 1, 0, some [.any]⟩,
 ⟨.fn, 1, 8, some [.nilfn]⟩,
 ⟨.fn, 1, 8, some [.nilfn]⟩,
 ⟨.tup, 1, 0, some [.any]⟩,
 ⟨.fn, 1, 8, some [.nilfn]⟩,
 ⟨.fn, 1, 8, some [.nilfn]⟩,
 ⟨.fn, 1, 8, some [.nilfn]⟩,
 ⟨.fn, 1, 8, some [.nilfn]⟩,
 ⟨.fn, 1, 8, some [.nilfn]⟩,
 ⟨.fn, 1, 8, some [.nilfn]⟩,
 ⟨.sl 112 2 40, 1, 24, some [.nilsl]⟩,
 ⟨.int .i64, 1, 8, some [.int .i64 0]⟩,
 ⟨.tup, 1, 0, some [.any]⟩,
 ⟨.fn, 1, 8, some [.nilfn]⟩,
 ⟨.tup, 1, 0, some [.any]⟩,
 ⟨.fn, 1, 8, some [.nilfn]⟩,
 ⟨.fn, 1, 8, some [.nilfn]⟩,
 ⟨.strct [(0, 1, false, 30), (1, 1, false, 30)], 2, 8, some [.int .u32 0, .int .u32 0]⟩,
 ⟨.strct [(0, 1, false, 30), (1, 1, false, 30)], 2, 8, some [.int .u32 0, .int .u32 0]⟩,
 ⟨.arr 5 61 2, 10, 40, some [.int .u32 0, .int .u32 0, .int .u32 0, .int .u32 0, .int .u32 0, .int .u32 0, .int .u32 0, .int .u32 0, .int .u32 0, .int .u32 0]⟩,
 ⟨.arr 5 61 2, 10, 40, some [.int .u32 0, .int .u32 0, .int .u32 0, .int .u32 0, .int .u32 0, .int .u32 0, .int .u32 0, .int .u32 0, .int .u32 0, .int .u32 0]⟩,
 ⟨.fn, 1, 8, some [.nilfn]⟩,
 ⟨.tup, 1, 0, some [.any]⟩,
 ⟨.fn, 1, 8, some [.nilfn]⟩,
 ⟨.fn, 1, 8, some [.nilfn]⟩,
 ⟨.fn, 1, 8, some [.nilfn]⟩,
 ⟨.strct [(0, 1, false, 22), (1, 1, false, 3)], 2, 32, some [.nilsl, .int .i64 0]⟩,
 ⟨.strct [(0, 1, false, 22), (1, 1, false, 3)], 2, 32, some [.nilsl, .int .i64 0]⟩,
 ⟨.fn, 1, 8, some [.nilfn]⟩,
 ⟨.sl 9 1 16, 1, 24, some [.nilsl]⟩,
 ⟨.strct [(0, 1, false, 9), (1, 1, false, 3), (2, 1, false, 4), (3, 1, false, 4), (4, 1, false, 9)], 5, 48, some [.str [], .int .i64 0, .bool false, .bool false, .str []]⟩,
 ⟨.strct [(0, 1, false, 9), (1, 1, false, 3), (2, 1, false, 4), (3, 1, false, 4), (4, 1, false, 9)], 5, 48, some [.str [], .int .i64 0, .bool false, .bool false, .str []]⟩,
 ⟨.strct [(0, 1, false, 3), (1, 1, false, 3), (2, 1, false, 3)], 3, 24, some [.int .i64 0, .int .i64 0, .int .i64 0]⟩,
 ⟨.strct [(0, 1, false, 3), (1, 1, false, 3), (2, 1, false, 3)], 3, 24, some [.int .i64 0, .int .i64 0, .int .i64 0]⟩,
 ⟨.strct [(0, 1, false, 30), (1, 1, false, 3)], 2, 16, some [.int .u32 0, .int .i64 0]⟩,
 ⟨.strct [(0, 1, false, 30), (1, 1, false, 3)], 2, 16, some [.int .u32 0, .int .i64 0]⟩,
 ⟨.fn, 1, 8, some [.nilfn]⟩,
 ⟨.strct [(0, 1, false, 9), (1, 1, false, 3), (2, 1, false, 9), (3, 2, true, 78), (5, 1, false, 4)], 6, 64, some [.str [], .int .i64 0, .str [], .int .u32 0, .int .i64 0, .bool false]⟩,
 ⟨.strct [(0, 1, false, 9), (1, 1, false, 3), (2, 1, false, 9), (3, 2, true, 78), (5, 1, false, 4)], 6, 64, some [.str [], .int .i64 0, .str [], .int .u32 0, .int .i64 0, .bool false]⟩,
 ⟨.sl 110 1 24, 1, 24, some [.nilsl]⟩,
 ⟨.fn, 1, 8, some [.nilfn]⟩,
 ⟨.fn, 1, 8, some [.nilfn]⟩,
 ⟨.fn, 1, 8, some [.nilfn]⟩,
 ⟨.sl 5 1 1, 1, 24, some [.nilsl]⟩,
 ⟨.fn, 1, 8, some [.nilfn]⟩,
 ⟨.fn, 1, 8, some [.nilfn]⟩,
 ⟨.sl 63 10 40, 1, 24, some [.nilsl]⟩,
 ⟨.sl 63 10 40, 1, 24, some [.nilsl]⟩,
 ⟨.fn, 1, 8, some [.nilfn]⟩,
 ⟨.fn, 1, 8, some [.nilfn]⟩,
 ⟨.fn, 1, 8, some [.nilfn]⟩,
 ⟨.strct [(0, 1, false, 22), (1, 1, false, 22)], 2, 48, some [.nilsl, .nilsl]⟩,
 ⟨.strct [(0, 1, false, 22), (1, 1, false, 22)], 2, 48, some [.nilsl, .nilsl]⟩,
 ⟨.sl 165 1 24, 1, 24, some [.nilsl]⟩,
 ⟨.sl 22 1 24, 1, 24, some [.nilsl]⟩,
 ⟨.strct [(0, 5, true, 41), (5, 2, true, 95), (7, 1, false, 82), (8, 1, false, 96), (9, 1, false, 97)], 10, 224, some [.nilsl, .nilsl, .nilsl, .nilsl, .int .i64 0, .nilsl, .nilsl, .nilsl, .nilsl, .nilsl]⟩,
 ⟨.strct [(0, 5, true, 41), (5, 2, true, 95), (7, 1, false, 82), (8, 1, false, 96), (9, 1, false, 97)], 10, 224, some [.nilsl, .nilsl, .nilsl, .nilsl, .int .i64 0, .nilsl, .nilsl, .nilsl, .nilsl, .nilsl]⟩,
 ⟨.fn, 1, 8, some [.nilfn]⟩,
 ⟨.fn, 1, 8, some [.nilfn]⟩,
 ⟨.fn, 1, 8, some [.nilfn]⟩,
 ⟨.tup, 1, 0, some [.any]⟩,
 ⟨.fn, 1, 8, some [.nilfn]⟩,
 ⟨.sl 114 3 40, 1, 24, some [.nilsl]⟩,
 ⟨.tup, 1, 0, some [.any]⟩,
 ⟨.fn, 1, 8, some [.nilfn]⟩,
 ⟨.sl 29 6 128, 1, 24, some [.nilsl]⟩,
 ⟨.strct [(0, 1, false, 108)], 1, 24, some [.nilsl]⟩,
 ⟨.strct [(0, 1, false, 108)], 1, 24, some [.nilsl]⟩,
 ⟨.strct [(0, 1, false, 9), (1, 1, false, 90)], 2, 40, some [.str [], .nilsl]⟩,
 ⟨.strct [(0, 1, false, 9), (1, 1, false, 90)], 2, 40, some [.str [], .nilsl]⟩,
 ⟨.strct [(0, 1, false, 3), (1, 1, false, 3), (2, 1, false, 90)], 3, 40, some [.int .i64 0, .int .i64 0, .nilsl]⟩,
 ⟨.strct [(0, 1, false, 3), (1, 1, false, 3), (2, 1, false, 90)], 3, 40, some [.int .i64 0, .int .i64 0, .nilsl]⟩,
 ⟨.fn, 1, 8, some [.nilfn]⟩,
 ⟨.fn, 1, 8, some [.nilfn]⟩,
 ⟨.fn, 1, 8, some [.nilfn]⟩,
 ⟨.ptr 120, 1, 8, some [.nilptr]⟩,
 ⟨.strct [(0, 1, false, 90), (1, 1, false, 54)], 2, 32, some [.nilsl, .int .i64 0]⟩,
 ⟨.strct [(0, 1, false, 90), (1, 1, false, 54)], 2, 32, some [.nilsl, .int .i64 0]⟩,
 ⟨.fn, 1, 8, some [.nilfn]⟩,
 ⟨.fn, 1, 8, some [.nilfn]⟩,
 ⟨.fn, 1, 8, some [.nilfn]⟩,
 ⟨.strct [(0, 10, true, 63), (10, 1, false, 4)], 11, 44, some [.int .u32 0, .int .u32 0, .int .u32 0, .int .u32 0, .int .u32 0, .int .u32 0, .int .u32 0, .int .u32 0, .int .u32 0, .int .u32 0, .bool false]⟩,
 ⟨.strct [(0, 10, true, 63), (10, 1, false, 4)], 11, 44, some [.int .u32 0, .int .u32 0, .int .u32 0, .int .u32 0, .int .u32 0, .int .u32 0, .int .u32 0, .int .u32 0, .int .u32 0, .int .u32 0, .bool false]⟩,
 ⟨.arr 5 30 1, 5, 20, some [.int .u32 0, .int .u32 0, .int .u32 0, .int .u32 0, .int .u32 0]⟩,
 ⟨.fn, 1, 8, some [.nilfn]⟩,
 ⟨.fn, 1, 8, some [.nilfn]⟩,
 ⟨.fn, 1, 8, some [.nilfn]⟩,
 ⟨.tup, 1, 0, some [.any]⟩,
 ⟨.fn, 1, 8, some [.nilfn]⟩,
 ⟨.fn, 1, 8, some [.nilfn]⟩,
 ⟨.fn, 1, 8, some [.nilfn]⟩,
 ⟨.fn, 1, 8, some [.nilfn]⟩,
 ⟨.fn, 1, 8, some [.nilfn]⟩,
 ⟨.strct [(0, 10, true, 63), (10, 1, false, 9)], 11, 56, some [.int .u32 0, .int .u32 0, .int .u32 0, .int .u32 0, .int .u32 0, .int .u32 0, .int .u32 0, .int .u32 0, .int .u32 0, .int .u32 0, .str []]⟩,
 ⟨.strct [(0, 10, true, 63), (10, 1, false, 9)], 11, 56, some [.int .u32 0, .int .u32 0, .int .u32 0, .int .u32 0, .int .u32 0, .int .u32 0, .int .u32 0, .int .u32 0, .int .u32 0, .int .u32 0, .str []]⟩,
 ⟨.strct [(0, 10, true, 63), (10, 1, false, 30), (11, 2, true, 61)], 13, 52, some [.int .u32 0, .int .u32 0, .int .u32 0, .int .u32 0, .int .u32 0, .int .u32 0, .int .u32 0, .int .u32 0, .int .u32 0, .int .u32 0, .int .u32 0, .int .u32 0, .int .u32 0]⟩,
 ⟨.strct [(0, 10, true, 63), (10, 1, false, 30), (11, 2, true, 61)], 13, 52, some [.int .u32 0, .int .u32 0, .int .u32 0, .int .u32 0, .int .u32 0, .int .u32 0, .int .u32 0, .int .u32 0, .int .u32 0, .int .u32 0, .int .u32 0, .int .u32 0, .int .u32 0]⟩,
 ⟨.strct [(0, 10, true, 63), (10, 10, true, 63)], 20, 80, some [.int .u32 0, .int .u32 0, .int .u32 0, .int .u32 0, .int .u32 0, .int .u32 0, .int .u32 0, .int .u32 0, .int .u32 0, .int .u32 0, .int .u32 0, .int .u32 0, .int .u32 0, .int .u32 0, .int .u32 0, .int .u32 0, .int .u32 0, .int .u32 0, .int .u32 0, .int .u32 0]⟩,
 ⟨.strct [(0, 10, true, 63), (10, 10, true, 63)], 20, 80, some [.int .u32 0, .int .u32 0, .int .u32 0, .int .u32 0, .int .u32 0, .int .u32 0, .int .u32 0, .int .u32 0, .int .u32 0, .int .u32 0, .int .u32 0, .int .u32 0, .int .u32 0, .int .u32 0, .int .u32 0, .int .u32 0, .int .u32 0, .int .u32 0, .int .u32 0, .int .u32 0]⟩,
 ⟨.fn, 1, 8, some [.nilfn]⟩,
 ⟨.fn, 1, 8, some [.nilfn]⟩,
 ⟨.fn, 1, 8, some [.nilfn]⟩,
 ⟨.fn, 1, 8, some [.nilfn]⟩,
 ⟨.fn, 1, 8, some [.nilfn]⟩,
 ⟨.fn, 1, 8, some [.nilfn]⟩,
 ⟨.fn, 1, 8, some [.nilfn]⟩,
 ⟨.fn, 1, 8, some [.nilfn]⟩,
 ⟨.fn, 1, 8, some [.nilfn]⟩,
 ⟨.fn, 1, 8, some [.nilfn]⟩,
 ⟨.tup, 1, 0, some [.any]⟩,
 ⟨.fn, 1, 8, some [.nilfn]⟩,
 ⟨.fn, 1, 8, some [.nilfn]⟩,
 ⟨.fn, 1, 8, some [.nilfn]⟩,
 ⟨.fn, 1, 8, some [.nilfn]⟩,
 ⟨.fn, 1, 8, some [.nilfn]⟩,
 ⟨.fn, 1, 8, some [.nilfn]⟩,
 ⟨.fn, 1, 8, some [.nilfn]⟩,
 ⟨.fn, 1, 8, some [.nilfn]⟩,
 ⟨.sl 61 2 8, 1, 24, some [.nilsl]⟩,
 ⟨.fn, 1, 8, some [.nilfn]⟩,
 ⟨.map 167 161, 1, 8, some [.nilmap]⟩,
 ⟨.fn, 1, 8, some [.nilfn]⟩,
 ⟨.sl 219 4 32, 1, 24, some [.nilsl]⟩,
 ⟨.strct [(0, 1, false, 3), (1, 1, false, 3)], 2, 16, some [.int .i64 0, .int .i64 0]⟩,
 ⟨.strct [(0, 1, false, 3), (1, 1, false, 3)], 2, 16, some [.int .i64 0, .int .i64 0]⟩,
 ⟨.fn, 1, 8, some [.nilfn]⟩,
 ⟨.fn, 1, 8, some [.nilfn]⟩,
 ⟨.fn, 1, 8, some [.nilfn]⟩,
 ⟨.fn, 1, 8, some [.nilfn]⟩,
 ⟨.fn, 1, 8, some [.nilfn]⟩,
 ⟨.ptr 175, 1, 8, some [.nilptr]⟩,
 ⟨.strct [(0, 1, false, 54)], 1, 8, some [.int .i64 0]⟩,
 ⟨.strct [(0, 1, false, 54)], 1, 8, some [.int .i64 0]⟩,
 ⟨.fn, 1, 8, some [.nilfn]⟩,
 ⟨.fn, 1, 8, some [.nilfn]⟩,
 ⟨.fn, 1, 8, some [.nilfn]⟩,
 ⟨.fn, 1, 8, some [.nilfn]⟩,
 ⟨.fn, 1, 8, some [.nilfn]⟩,
 ⟨.int .u64, 1, 8, some [.int .u64 0]⟩,
 ⟨.fn, 1, 8, some [.nilfn]⟩,
 ⟨.fn, 1, 8, some [.nilfn]⟩,
 ⟨.map 9 118, 1, 8, some [.nilmap]⟩,
 ⟨.fn, 1, 8, some [.nilfn]⟩,
 ⟨.fn, 1, 8, some [.nilfn]⟩,
 ⟨.fn, 1, 8, some [.nilfn]⟩,
 ⟨.fn, 1, 8, some [.nilfn]⟩,
 ⟨.fn, 1, 8, some [.nilfn]⟩,
 ⟨.int .u64, 1, 8, some [.int .u64 0]⟩,
 ⟨.fn, 1, 8, some [.nilfn]⟩,
 ⟨.sl 30 1 4, 1, 24, some [.nilsl]⟩,
 ⟨.fn, 1, 8, some [.nilfn]⟩,
 ⟨.fn, 1, 8, some [.nilfn]⟩,
 ⟨.fn, 1, 8, some [.nilfn]⟩,
 ⟨.fn, 1, 8, some [.nilfn]⟩,
 ⟨.fn, 1, 8, some [.nilfn]⟩,
 ⟨.fn, 1, 8, some [.nilfn]⟩,
 ⟨.fn, 1, 8, some [.nilfn]⟩,
 ⟨.fn, 1, 8, some [.nilfn]⟩,
 ⟨.strct [(0, 1, false, 54)], 1, 8, some [.int .i64 0]⟩,
 ⟨.strct [(0, 1, false, 54)], 1, 8, some [.int .i64 0]⟩,
 ⟨.sl 90 1 24, 1, 24, some [.nilsl]⟩,
 ⟨.tup, 1, 0, some [.any]⟩,
 ⟨.fn, 1, 8, some [.nilfn]⟩,
 ⟨.fn, 1, 8, some [.nilfn]⟩,
 ⟨.fn, 1, 8, some [.nilfn]⟩,
 ⟨.fn, 1, 8, some [.nilfn]⟩,
 ⟨.fn, 1, 8, some [.nilfn]⟩,
 ⟨.fn, 1, 8, some [.nilfn]⟩,
 ⟨.fn, 1, 8, some [.nilfn]⟩,
 ⟨.fn, 1, 8, some [.nilfn]⟩,
 ⟨.fn, 1, 8, some [.nilfn]⟩,
 ⟨.fn, 1, 8, some [.nilfn]⟩,
 ⟨.fn, 1, 8, some [.nilfn]⟩,
 ⟨.fn, 1, 8, some [.nilfn]⟩,
 ⟨.fn, 1, 8, some [.nilfn]⟩,
 ⟨.strct [(0, 2, true, 78), (2, 1, false, 4), (3, 1, false, 3)], 4, 32, some [.int .u32 0, .int .i64 0, .bool false, .int .i64 0]⟩,
 ⟨.strct [(0, 2, true, 78), (2, 1, false, 4), (3, 1, false, 3)], 4, 32, some [.int .u32 0, .int .i64 0, .bool false, .int .i64 0]⟩,
 ⟨.tup, 1, 0, some [.any]⟩,
 ⟨.fn, 1, 8, some [.nilfn]⟩,
 ⟨.fn, 1, 8, some [.nilfn]⟩,
 ⟨.fn, 1, 8, some [.nilfn]⟩,
 ⟨.fn, 1, 8, some [.nilfn]⟩,
 ⟨.fn, 1, 8, some [.nilfn]⟩,
 ⟨.fn, 1, 8, some [.nilfn]⟩,
 ⟨.fn, 1, 8, some [.nilfn]⟩,
 ⟨.fn, 1, 8, some [.nilfn]⟩,
 ⟨.fn, 1, 8, some [.nilfn]⟩,
 ⟨.fn, 1, 8, some [.nilfn]⟩,
 ⟨.fn, 1, 8, some [.nilfn]⟩,
 ⟨.fn, 1, 8, some [.nilfn]⟩,
 ⟨.fn, 1, 8, some [.nilfn]⟩,
 ⟨.fn, 1, 8, some [.nilfn]⟩,
 ⟨.fn, 1, 8, some [.nilfn]⟩,
 ⟨.fn, 1, 8, some [.nilfn]⟩,
 ⟨.fn, 1, 8, some [.nilfn]⟩,
 ⟨.fn, 1, 8, some [.nilfn]⟩,
 ⟨.fn, 1, 8, some [.nilfn]⟩,
 ⟨.fn, 1, 8, some [.nilfn]⟩,
 ⟨.fn, 1, 8, some [.nilfn]⟩,
 ⟨.fn, 1, 8, some [.nilfn]⟩,
 ⟨.fn, 1, 8, some [.nilfn]⟩,
 ⟨.fn, 1, 8, some [.nilfn]⟩,
 ⟨.fn, 1, 8, some [.nilfn]⟩,
 ⟨.fn, 1, 8, some [.nilfn]⟩,
 ⟨.ptr 202, 1, 8, some [.nilptr]⟩,
 ⟨.fn, 1, 8, some [.nilfn]⟩,
 ⟨.fn, 1, 8, some [.nilfn]⟩,
 ⟨.fn, 1, 8, some [.nilfn]⟩,
 ⟨.fn, 1, 8, some [.nilfn]⟩,
 ⟨.strct [(0, 2, true, 61), (2, 1, false, 89)], 3, 32, some [.int .u32 0, .int .u32 0, .nilsl]⟩,
 ⟨.strct [(0, 2, true, 61), (2, 1, false, 89)], 3, 32, some [.int .u32 0, .int .u32 0, .nilsl]⟩,
 ⟨.fn, 1, 8, some [.nilfn]⟩,
 ⟨.fn, 1, 8, some [.nilfn]⟩,
 ⟨.tup, 1, 0, some [.any]⟩,
 ⟨.fn, 1, 8, some [.nilfn]⟩,
 ⟨.fn, 1, 8, some [.nilfn]⟩,
 ⟨.fn, 1, 8, some [.nilfn]⟩,
 ⟨.fn, 1, 8, some [.nilfn]⟩,
 ⟨.fn, 1, 8, some [.nilfn]⟩,
 ⟨.fn, 1, 8, some [.nilfn]⟩,
 ⟨.fn, 1, 8, some [.nilfn]⟩,
 ⟨.fn, 1, 8, some [.nilfn]⟩,
 ⟨.int .i64, 1, 8, some [.int .i64 0]⟩,
 ⟨.tup, 1, 0, some [.any]⟩,
 ⟨.fn, 1, 8, some [.nilfn]⟩,
 ⟨.fn, 1, 8, some [.nilfn]⟩,
 ⟨.fn, 1, 8, some [.nilfn]⟩,
 ⟨.tup, 1, 0, some [.any]⟩,
 ⟨.fn, 1, 8, some [.nilfn]⟩,
 ⟨.fn, 1, 8, some [.nilfn]⟩,
 ⟨.fn, 1, 8, some [.nilfn]⟩,
 ⟨.fn, 1, 8, some [.nilfn]⟩,
 ⟨.fn, 1, 8, some [.nilfn]⟩,
 ⟨.fn, 1, 8, some [.nilfn]⟩,
 ⟨.fn, 1, 8, some [.nilfn]⟩,
 ⟨.fn, 1, 8, some [.nilfn]⟩,
 ⟨.fn, 1, 8, some [.nilfn]⟩,
 ⟨.fn, 1, 8, some [.nilfn]⟩,
 ⟨.fn, 1, 8, some [.nilfn]⟩,
 ⟨.fn, 1, 8, some [.nilfn]⟩,
 ⟨.tup, 1, 0, some [.any]⟩,
 ⟨.fn, 1, 8, some [.nilfn]⟩,
 ⟨.fn, 1, 8, some [.nilfn]⟩,
 ⟨.fn, 1, 8, some [.nilfn]⟩,
 ⟨.fn, 1, 8, some [.nilfn]⟩,
 ⟨.fn, 1, 8, some [.nilfn]⟩,
 ⟨.fn, 1, 8, some [.nilfn]⟩,
 ⟨.fn, 1, 8, some [.nilfn]⟩,
 ⟨.fn, 1, 8, some [.nilfn]⟩,
 ⟨.fn, 1, 8, some [.nilfn]⟩,
 ⟨.fn, 1, 8, some [.nilfn]⟩,
 ⟨.fn, 1, 8, some [.nilfn]⟩,
 ⟨.fn, 1, 8, some [.nilfn]⟩,
 ⟨.fn, 1, 8, some [.nilfn]⟩,
 ⟨.sl 253 3 32, 1, 24, some [.nilsl]⟩,
 ⟨.sl 190 1 8, 1, 24, some [.nilsl]⟩,
 ⟨.fn, 1, 8, some [.nilfn]⟩,
 ⟨.fn, 1, 8, some [.nilfn]⟩,
 ⟨.sl 161 1 24, 1, 24, some [.nilsl]⟩,
 ⟨.fn, 1, 8, some [.nilfn]⟩,
 ⟨.fn, 1, 8, some [.nilfn]⟩,
 ⟨.fn, 1, 8, some [.nilfn]⟩,
 ⟨.fn, 1, 8, some [.nilfn]⟩,
 ⟨.int .u64, 1, 8, some [.int .u64 0]⟩,
 ⟨.fn, 1, 8, some [.nilfn]⟩,
 ⟨.fn, 1, 8, some [.nilfn]⟩,
 ⟨.fn, 1, 8, some [.nilfn]⟩,
 ⟨.ptr 3, 1, 8, some [.nilptr]⟩,
 ⟨.fn, 1, 8, some [.nilfn]⟩,
 ⟨.fn, 1, 8, some [.nilfn]⟩,
 ⟨.fn, 1, 8, some [.nilfn]⟩,
 ⟨.fn, 1, 8, some [.nilfn]⟩,
 ⟨.fn, 1, 8, some [.nilfn]⟩,
 ⟨.fn, 1, 8, some [.nilfn]⟩,
 ⟨.fn, 1, 8, some [.nilfn]⟩,
 ⟨.fn, 1, 8, some [.nilfn]⟩,
 ⟨.fn, 1, 8, some [.nilfn]⟩,
 ⟨.fn, 1, 8, some [.nilfn]⟩,
 ⟨.fn, 1, 8, some [.nilfn]⟩,
 ⟨.fn, 1, 8, some [.nilfn]⟩,
 ⟨.fn, 1, 8, some [.nilfn]⟩,
 ⟨.fn, 1, 8, some [.nilfn]⟩,
 ⟨.fn, 1, 8, some [.nilfn]⟩,
 ⟨.fn, 1, 8, some [.nilfn]⟩,
 ⟨.fn, 1, 8, some [.nilfn]⟩,
 ⟨.fn, 1, 8, some [.nilfn]⟩,
 ⟨.fn, 1, 8, some [.nilfn]⟩,
 ⟨.sl 89 1 24, 1, 24, some [.nilsl]⟩,
 ⟨.fn, 1, 8, some [.nilfn]⟩,
 ⟨.fn, 1, 8, some [.nilfn]⟩,
 ⟨.fn, 1, 8, some [.nilfn]⟩,
 ⟨.fn, 1, 8, some [.nilfn]⟩,
 ⟨.fn, 1, 8, some [.nilfn]⟩,
 ⟨.fn, 1, 8, some [.nilfn]⟩,
 ⟨.fn, 1, 8, some [.nilfn]⟩,
 ⟨.fn, 1, 8, some [.nilfn]⟩,
 ⟨.fn, 1, 8, some [.nilfn]⟩,
 ⟨.fn, 1, 8, some [.nilfn]⟩,
 ⟨.fn, 1, 8, some [.nilfn]⟩,
 ⟨.fn, 1, 8, some [.nilfn]⟩,
 ⟨.fn, 1, 8, some [.nilfn]⟩,
 ⟨.ptr 306, 1, 8, some [.nilptr]⟩,
 ⟨.tup, 1, 0, some [.any]⟩,
 ⟨.fn, 1, 8, some [.nilfn]⟩,
 ⟨.fn, 1, 8, some [.nilfn]⟩,
 ⟨.fn, 1, 8, some [.nilfn]⟩,
 ⟨.fn, 1, 8, some [.nilfn]⟩,
 ⟨.fn, 1, 8, some [.nilfn]⟩,
 ⟨.fn, 1, 8, some [.nilfn]⟩,
 ⟨.fn, 1, 8, some [.nilfn]⟩,
 ⟨.fn, 1, 8, some [.nilfn]⟩,
 ⟨.fn, 1, 8, some [.nilfn]⟩,
 ⟨.fn, 1, 8, some [.nilfn]⟩,
 ⟨.fn, 1, 8, some [.nilfn]⟩,
 ⟨.fn, 1, 8, some [.nilfn]⟩,
 ⟨.fn, 1, 8, some [.nilfn]⟩,
 ⟨.fn, 1, 8, some [.nilfn]⟩,
 ⟨.fn, 1, 8, some [.nilfn]⟩,
 ⟨.fn, 1, 8, some [.nilfn]⟩,
 ⟨.fn, 1, 8, some [.nilfn]⟩,
 ⟨.fn, 1, 8, some [.nilfn]⟩,
 ⟨.fn, 1, 8, some [.nilfn]⟩,
 ⟨.fn, 1, 8, some [.nilfn]⟩,
 ⟨.fn, 1, 8, some [.nilfn]⟩,
 ⟨.fn, 1, 8, some [.nilfn]⟩,
 ⟨.fn, 1, 8, some [.nilfn]⟩,
 ⟨.fn, 1, 8, some [.nilfn]⟩,
 ⟨.fn, 1, 8, some [.nilfn]⟩,
 ⟨.fn, 1, 8, some [.nilfn]⟩,
 ⟨.fn, 1, 8, some [.nilfn]⟩,
 ⟨.fn, 1, 8, some [.nilfn]⟩,
 ⟨.fn, 1, 8, some [.nilfn]⟩,
 ⟨.strct [(0, 1, false, 17), (1, 1, false, 17), (2, 1, false, 17), (3, 1, false, 9)], 4, 40, some [.nilptr, .nilptr, .nilptr, .str []]⟩,
 ⟨.strct [(0, 1, false, 17), (1, 1, false, 17), (2, 1, false, 17), (3, 1, false, 9)], 4, 40, some [.nilptr, .nilptr, .nilptr, .str []]⟩,
 ⟨.arr 0 16 1, 0, 0, some []⟩,
 ⟨.strct [(0, 0, true, 377)], 0, 0, some []⟩,
 ⟨.strct [(0, 0, true, 377)], 0, 0, some []⟩,
 ⟨.fn, 1, 8, some [.nilfn]⟩,
 ⟨.int .u8, 1, 1, some [.int .u8 0]⟩,
 ⟨.int .u8, 1, 1, some [.int .u8 0]⟩,
 ⟨.fn, 1, 8, some [.nilfn]⟩,
 ⟨.ptr 5, 1, 8, some [.nilptr]⟩,
 ⟨.int .i32, 1, 4, some [.int .i32 0]⟩,
 ⟨.int .i32, 1, 4, some [.int .i32 0]⟩,
 ⟨.strct [(0, 1, false, 12), (1, 1, false, 12), (2, 1, false, 30), (3, 1, false, 381), (4, 1, false, 5), (5, 1, false, 5), (6, 1, false, 382), (7, 1, false, 383), (8, 1, false, 384), (9, 1, false, 385), (10, 1, false, 386)], 11, 48, some [.int .u64 0, .int .u64 0, .int .u32 0, .int .u8 0, .int .u8 0, .int .u8 0, .int .u8 0, .nilfn, .nilptr, .int .i32 0, .int .i32 0]⟩,
 ⟨.strct [(0, 1, false, 12), (1, 1, false, 12), (2, 1, false, 30), (3, 1, false, 381), (4, 1, false, 5), (5, 1, false, 5), (6, 1, false, 382), (7, 1, false, 383), (8, 1, false, 384), (9, 1, false, 385), (10, 1, false, 386)], 11, 48, some [.int .u64 0, .int .u64 0, .int .u32 0, .int .u8 0, .int .u8 0, .int .u8 0, .int .u8 0, .nilfn, .nilptr, .int .i32 0, .int .i32 0]⟩,
 ⟨.other, 1, 8, some [.nilptr]⟩
]
theorem hT : Tys Tryz.prog tys := tys_of _ _ (by kernel_rfl)
theorem e2 : Enters Tryz.prog 2 := Enters.of Tryz.func2 (by kernel_rfl) rfl
theorem e3 : Enters Tryz.prog 3 := Enters.of Tryz.func3 (by kernel_rfl) rfl
theorem e4 : Enters Tryz.prog 4 := Enters.of Tryz.func4 (by kernel_rfl) rfl
theorem e5 : Enters Tryz.prog 5 := Enters.of Tryz.func5 (by kernel_rfl) rfl
theorem e6 : Enters Tryz.prog 6 := Enters.of Tryz.func6 (by kernel_rfl) rfl
theorem e7 : Enters Tryz.prog 7 := Enters.of Tryz.func7 (by kernel_rfl) rfl
theorem e8 : Enters Tryz.prog 8 := Enters.of Tryz.func8 (by kernel_rfl) rfl
theorem e9 : Enters Tryz.prog 9 := Enters.of Tryz.func9 (by kernel_rfl) rfl
theorem e10 : Enters Tryz.prog 10 := Enters.of Tryz.func10 (by kernel_rfl) rfl
theorem e11 : Enters Tryz.prog 11 := Enters.of Tryz.func11 (by kernel_rfl) rfl
theorem e12 : Enters Tryz.prog 12 := Enters.of Tryz.func12 (by kernel_rfl) rfl
theorem e16 : Enters Tryz.prog 16 := Enters.of Tryz.func16 (by kernel_rfl) rfl
theorem e17 : Enters Tryz.prog 17 := Enters.of Tryz.func17 (by kernel_rfl) rfl
theorem e20 : Enters Tryz.prog 20 := Enters.of Tryz.func20 (by kernel_rfl) rfl
theorem e21 : Enters Tryz.prog 21 := Enters.of Tryz.func21 (by kernel_rfl) rfl
theorem e22 : Enters Tryz.prog 22 := Enters.of Tryz.func22 (by kernel_rfl) rfl
theorem e23 : Enters Tryz.prog 23 := Enters.of Tryz.func23 (by kernel_rfl) rfl
theorem e24 : Enters Tryz.prog 24 := Enters.of Tryz.func24 (by kernel_rfl) rfl
theorem e25 : Enters Tryz.prog 25 := Enters.of Tryz.func25 (by kernel_rfl) rfl
theorem e26 : Enters Tryz.prog 26 := Enters.of Tryz.func26 (by kernel_rfl) rfl
theorem e27 : Enters Tryz.prog 27 := Enters.of Tryz.func27 (by kernel_rfl) rfl
theorem e28 : Enters Tryz.prog 28 := Enters.of Tryz.func28 (by kernel_rfl) rfl
theorem e29 : Enters Tryz.prog 29 := Enters.of Tryz.func29 (by kernel_rfl) rfl
theorem e30 : Enters Tryz.prog 30 := Enters.of Tryz.func30 (by kernel_rfl) rfl
theorem e31 : Enters Tryz.prog 31 := Enters.of Tryz.func31 (by kernel_rfl) rfl
theorem e32 : Enters Tryz.prog 32 := Enters.of Tryz.func32 (by kernel_rfl) rfl
theorem e33 : Enters Tryz.prog 33 := Enters.of Tryz.func33 (by kernel_rfl) rfl
theorem e34 : Enters Tryz.prog 34 := Enters.of Tryz.func34 (by kernel_rfl) rfl
theorem e49 : Enters Tryz.prog 49 := Enters.of Tryz.func49 (by kernel_rfl) rfl
theorem e50 : Enters Tryz.prog 50 := Enters.of Tryz.func50 (by kernel_rfl) rfl
theorem e51 : Enters Tryz.prog 51 := Enters.of Tryz.func51 (by kernel_rfl) rfl
theorem e52 : Enters Tryz.prog 52 := Enters.of Tryz.func52 (by kernel_rfl) rfl
theorem e54 : Enters Tryz.prog 54 := Enters.of Tryz.func54 (by kernel_rfl) rfl
theorem e55 : Enters Tryz.prog 55 := Enters.of Tryz.func55 (by kernel_rfl) rfl
theorem e56 : Enters Tryz.prog 56 := Enters.of Tryz.func56 (by kernel_rfl) rfl
theorem e57 : Enters Tryz.prog 57 := Enters.of Tryz.func57 (by kernel_rfl) rfl
theorem e58 : Enters Tryz.prog 58 := Enters.of Tryz.func58 (by kernel_rfl) rfl
theorem e59 : Enters Tryz.prog 59 := Enters.of Tryz.func59 (by kernel_rfl) rfl
theorem e60 : Enters Tryz.prog 60 := Enters.of Tryz.func60 (by kernel_rfl) rfl
theorem e61 : Enters Tryz.prog 61 := Enters.of Tryz.func61 (by kernel_rfl) rfl
theorem e62 : Enters Tryz.prog 62 := Enters.of Tryz.func62 (by kernel_rfl) rfl
theorem e63 : Enters Tryz.prog 63 := Enters.of Tryz.func63 (by kernel_rfl) rfl
theorem e64 : Enters Tryz.prog 64 := Enters.of Tryz.func64 (by kernel_rfl) rfl
theorem e65 : Enters Tryz.prog 65 := Enters.of Tryz.func65 (by kernel_rfl) rfl
theorem e66 : Enters Tryz.prog 66 := Enters.of Tryz.func66 (by kernel_rfl) rfl
theorem e67 : Enters Tryz.prog 67 := Enters.of Tryz.func67 (by kernel_rfl) rfl
theorem e68 : Enters Tryz.prog 68 := Enters.of Tryz.func68 (by kernel_rfl) rfl
theorem e69 : Enters Tryz.prog 69 := Enters.of Tryz.func69 (by kernel_rfl) rfl
theorem e70 : Enters Tryz.prog 70 := Enters.of Tryz.func70 (by kernel_rfl) rfl
theorem e71 : Enters Tryz.prog 71 := Enters.of Tryz.func71 (by kernel_rfl) rfl
theorem e72 : Enters Tryz.prog 72 := Enters.of Tryz.func72 (by kernel_rfl) rfl
theorem e73 : Enters Tryz.prog 73 := Enters.of Tryz.func73 (by kernel_rfl) rfl
theorem e74 : Enters Tryz.prog 74 := Enters.of Tryz.func74 (by kernel_rfl) rfl
theorem e75 : Enters Tryz.prog 75 := Enters.of Tryz.func75 (by kernel_rfl) rfl
theorem e105 : Enters Tryz.prog 105 := Enters.of Tryz.func105 (by kernel_rfl) rfl
theorem e106 : Enters Tryz.prog 106 := Enters.of Tryz.func106 (by kernel_rfl) rfl
theorem e107 : Enters Tryz.prog 107 := Enters.of Tryz.func107 (by kernel_rfl) rfl
theorem e108 : Enters Tryz.prog 108 := Enters.of Tryz.func108 (by kernel_rfl) rfl
theorem e109 : Enters Tryz.prog 109 := Enters.of Tryz.func109 (by kernel_rfl) rfl
theorem e110 : Enters Tryz.prog 110 := Enters.of Tryz.func110 (by kernel_rfl) rfl
theorem e111 : Enters Tryz.prog 111 := Enters.of Tryz.func111 (by kernel_rfl) rfl
theorem e112 : Enters Tryz.prog 112 := Enters.of Tryz.func112 (by kernel_rfl) rfl
theorem e113 : Enters Tryz.prog 113 := Enters.of Tryz.func113 (by kernel_rfl) rfl
theorem e114 : Enters Tryz.prog 114 := Enters.of Tryz.func114 (by kernel_rfl) rfl
theorem e115 : Enters Tryz.prog 115 := Enters.of Tryz.func115 (by kernel_rfl) rfl
theorem e154 : Enters Tryz.prog 154 := Enters.of Tryz.func154 (by kernel_rfl) rfl
theorem e155 : Enters Tryz.prog 155 := Enters.of Tryz.func155 (by kernel_rfl) rfl
theorem e156 : Enters Tryz.prog 156 := Enters.of Tryz.func156 (by kernel_rfl) rfl
theorem e157 : Enters Tryz.prog 157 := Enters.of Tryz.func157 (by kernel_rfl) rfl
theorem e158 : Enters Tryz.prog 158 := Enters.of Tryz.func158 (by kernel_rfl) rfl
theorem e159 : Enters Tryz.prog 159 := Enters.of Tryz.func159 (by kernel_rfl) rfl
theorem e160 : Enters Tryz.prog 160 := Enters.of Tryz.func160 (by kernel_rfl) rfl
theorem e161 : Enters Tryz.prog 161 := Enters.of Tryz.func161 (by kernel_rfl) rfl
theorem e162 : Enters Tryz.prog 162 := Enters.of Tryz.func162 (by kernel_rfl) rfl
theorem e163 : Enters Tryz.prog 163 := Enters.of Tryz.func163 (by kernel_rfl) rfl
theorem e164 : Enters Tryz.prog 164 := Enters.of Tryz.func164 (by kernel_rfl) rfl
theorem e165 : Enters Tryz.prog 165 := Enters.of Tryz.func165 (by kernel_rfl) rfl
theorem e166 : Enters Tryz.prog 166 := Enters.of Tryz.func166 (by kernel_rfl) rfl
theorem e167 : Enters Tryz.prog 167 := Enters.of Tryz.func167 (by kernel_rfl) rfl
theorem e214 : Enters Tryz.prog 214 := Enters.of Tryz.func214 (by kernel_rfl) rfl
theorem e215 : Enters Tryz.prog 215 := Enters.of Tryz.func215 (by kernel_rfl) rfl
theorem e216 : Enters Tryz.prog 216 := Enters.of Tryz.func216 (by kernel_rfl) rfl
theorem e217 : Enters Tryz.prog 217 := Enters.of Tryz.func217 (by kernel_rfl) rfl
theorem e218 : Enters Tryz.prog 218 := Enters.of Tryz.func218 (by kernel_rfl) rfl
theorem e219 : Enters Tryz.prog 219 := Enters.of Tryz.func219 (by kernel_rfl) rfl
theorem e220 : Enters Tryz.prog 220 := Enters.of Tryz.func220 (by kernel_rfl) rfl
theorem e221 : Enters Tryz.prog 221 := Enters.of Tryz.func221 (by kernel_rfl) rfl
theorem e222 : Enters Tryz.prog 222 := Enters.of Tryz.func222 (by kernel_rfl) rfl
theorem e276 : Enters Tryz.prog 276 := Enters.of Tryz.func276 (by kernel_rfl) rfl
theorem hmix : Tryz.prog.follows .mixedOrders = true := by kernel_rfl
def runT {α : Type} (b : Bool) : List Nat → ((List (Nat × Bool) → α) → α) → (List (Nat × Bool) → α) → α
 | [], r, k => r k
 | x :: xs, r, k => runT b xs r fun ys => k ((x, b) :: ys)
def decF {α : Type} : Bool → List (List Nat) → (List (Nat × Bool) → α) → α
 | _, [], k => k []
 | true, l :: ls, k => runT true l (decF false ls) k
 | false, l :: ls, k => runT false l (decF true ls) k
theorem zDr {Gl : Glob} {B : Base} {env : List PV} {st : List PObj} {Q : Post} {id : Nat} {l : List Oper} (q : List (List Nat)) {ord : List (Nat × Bool)} (h : PWO Tryz.prog Gl B l.toArray (atEnd Q) ord env st []) (_hq : (decF true q fun o => (o, ())) = (ord, ()) := by exact rfl) (hB : (ord.length == l.length && okOrd l.toArray ord (Array.replicate l.length false)) = true := by decide +kernel) : PW Tryz.prog Gl B (.region id l.toArray true) env st Q := pw_draw ord hmix hB h
abbrev Str := List UInt8
structure TDev where
 name : Str
 cap : Int
 rng : Bool
 vol : Bool
 cls : Str
structure TLink where
 a : Int
 b : Int
 cost : Int
structure TPfx where
 addr : Int
 bits : Int
structure TEdge where
 name : Str
 dev : Int
 zone : Str
 pfx : TPfx
 planned : Bool
structure Topo where
 devs : List TDev
 links : List TLink
 edges : List TEdge
 pools : List TPfx
 tol : Int
def eDev (d : TDev) : PV := .agg [.str d.name, .int .i64 d.cap, .bool d.rng, .bool d.vol, .str d.cls]
def eLink (l : TLink) : PV := .agg [.int .i64 l.a, .int .i64 l.b, .int .i64 l.cost]
def ePfx (p : TPfx) : PV := .agg [.int .u32 p.addr, .int .i64 p.bits]
def eEdge (e : TEdge) : PV := .agg [.str e.name, .int .i64 e.dev, .str e.zone, .int .u32 e.pfx.addr, .int .i64 e.pfx.bits, .bool e.planned]
def eInt (n : Int) : PV := .int .i64 n
def eTopo (t : Topo) : PV := .agg [.sl (t.devs.map eDev), .sl (t.links.map eLink), .sl (t.edges.map eEdge), .sl (t.pools.map ePfx), .int .i64 t.tol]
def firstAt {α : Type} (p : α → Bool) (l : List α) : Int := match l.findIdx? p with | some i => (i : Int) | none => -1
theorem firstAt_hit {α : Type} {p : α → Bool} {l : List α} {i : Nat} (hi : i < l.length) (h1 : p l[i] = true) (h0 : ∀ (j : Nat) x, j < i → l[j]? = some x → p x = false) : firstAt p l = (i : Int) := by
 unfold firstAt
 rw [show l.findIdx? p = some i from ?_]
 rw [List.findIdx?_eq_some_iff_getElem]
 exact ⟨hi, h1, fun j hj => by simpa using h0 j _ hj (List.getElem?_eq_getElem (by omega))⟩
theorem firstAt_miss {α : Type} {p : α → Bool} {l : List α} (h0 : ∀ (j : Nat) x, l[j]? = some x → p x = false) : firstAt p l = -1 := by
 unfold firstAt
 rw [show l.findIdx? p = none from ?_]
 rw [List.findIdx?_eq_none_iff]
 intro x hx
 obtain ⟨j, hj⟩ := List.mem_iff_getElem?.1 hx
 exact h0 j x hj
theorem firstAt_any {α : Type} {p : α → Bool} {l : List α} : l.any p = decide (firstAt p l ≥ 0) := by
 unfold firstAt
 cases h : l.findIdx? p with
 | none =>
  rw [List.findIdx?_eq_none_iff] at h
  have : l.any p = false := by rw [List.any_eq_false]; intro x hx; simpa using h x hx
  simp [this]
 | some i =>
  rw [List.findIdx?_eq_some_iff_getElem] at h
  obtain ⟨hi, h1, _⟩ := h
  have : l.any p = true := List.any_eq_true.2 ⟨_, List.getElem_mem hi, h1⟩
  simp [this]
def selTo {α : Type} (p : α → Bool) (l : List α) : Nat → List Int
 | 0 => []
 | n + 1 => selTo p l n ++ match l[n]? with | some x => (match p x with | true => [(n : Int)] | false => []) | none => []
def idxs {α : Type} (p : α → Bool) (l : List α) : List Int := selTo p l l.length
theorem selTo_yes {α : Type} {p : α → Bool} {l : List α} {n : Nat} {x : α} (h : l[n]? = some x) (hp : p x = true) : selTo p l (n + 1) = selTo p l n ++ [(n : Int)] := by simp [selTo, h, hp]
theorem selTo_no {α : Type} {p : α → Bool} {l : List α} {n : Nat} {x : α} (h : l[n]? = some x) (hp : p x = false) : selTo p l (n + 1) = selTo p l n := by simp [selTo, h, hp]
theorem selTo_len {α : Type} (p : α → Bool) (l : List α) : ∀ n, (selTo p l n).length ≤ n
 | 0 => Nat.le_refl _
 | n + 1 => by
  have := selTo_len p l n
  simp only [selTo, List.length_append]
  split
  ·split <;> simp <;> omega
  ·simp; omega
def Small {α : Type} (l : List α) : Prop := l.length < 2 ^ 40
open Go.RowKit
variable {Gl : Glob}
def bytes (s : Str) : ByteArray := ⟨s.toArray⟩
end
section
variable {Gl : Glob}
attribute [local irreducible] PW PWL OpP PCalls PWO
theorem head_some {s : Str} (h : ¬ s = []) : s[0]? = some (s.headD 0) := by cases s with | nil => exact (h rfl).elim | cons a l => rfl
def vhead (s : Str) : Bool := ((((s == []) || decide ((s.length : Int) > 24)) || (s == [97, 110, 121])) || decide (((s.headD 0).toNat : Int) < 97)) || decide (((s.headD 0).toNat : Int) > 122)
def vbyte (c : UInt8) : Bool := !((((!(decide ((c.toNat : Int) ≥ 97) && decide ((c.toNat : Int) ≤ 122)) && !(decide ((c.toNat : Int) ≥ 48) && decide ((c.toNat : Int) ≤ 57))) && ((c.toNat : Int) != 45)) && ((c.toNat : Int) != 95)))
def vname (s : Str) : Bool := !vhead s && s.all vbyte
theorem c85 (s : Str) : PFun Tryz.prog Gl 214 [.str s] fun r => r = .bool (vname s) := by
 refine PFun.of hT Tryz.func214 rfl fun B hD => ?_
 refine pw_norm rfl ?_
 (refine zGo ?_)
 (refine pl_or 4 8 12 (decide ((s.length : Int) > 24)) rfl rfl rfl (fun hb => ?_) (fun hb => ?_) ?_; (focus ((refine zNp ?_); (refine zGo ?_); exact ⟨by (exact zLe), StLe.refl _⟩)); (focus ((refine zNp ?_); (refine zGo ?_); exact ⟨by (exact zLe), StLe.refl _⟩)); (refine zNp ?_); (refine zGo ?_))
 (refine pl_or 3 13 16 (s == [97, 110, 121]) rfl rfl rfl (fun hb => ?_) (fun hb => ?_) ?_; (focus ((refine zNp ?_); (refine zGo ?_); exact ⟨by (exact zLe), StLe.refl _⟩)); (focus ((refine zNp ?_); (refine zGo ?_); exact ⟨by (exact zLe), StLe.refl _⟩)); (refine zNp ?_); (refine zGo ?_))
 (refine pl_or 4 17 21 (decide (((s.headD 0).toNat : Int) < 97)) rfl rfl rfl (fun hb => ?_) (fun hb => ?_) ?_; (focus ((refine zNp ?_); (refine zGo ?_); exact ⟨by (exact zLe), StLe.refl _⟩)); (focus ((refine zNp ?_); (refine zGo ?_); (refine pl_on rfl rfl (op_of (v_indexs (c := s.headD 0) hT rfl rfl rfl rfl (by omega) (head_some (by rintro rfl; simp at hb))) ?_); (refine zNp ?_)); (refine zGo ?_); exact ⟨by (exact zLe), StLe.refl _⟩)); (refine zNp ?_); (refine zGo ?_))
 (refine pl_or 4 22 26 (decide (((s.headD 0).toNat : Int) > 122)) rfl rfl rfl (fun hb => ?_) (fun hb => ?_) ?_; (focus ((refine zNp ?_); (refine zGo ?_); exact ⟨by (exact zLe), StLe.refl _⟩)); (focus ((refine zNp ?_); (refine zGo ?_); (refine pl_on rfl rfl (op_of (v_indexs (c := s.headD 0) hT rfl rfl rfl rfl (by omega) (head_some (by rintro rfl; simp at hb))) ?_); (refine zNp ?_)); (refine zGo ?_); exact ⟨by (exact zLe), StLe.refl _⟩)); (refine zNp ?_); (refine zGo ?_))
 refine pw_cond rfl (fun h => ?_) (fun h => ?_)
 ·(refine zGo ?_)
  refine ret1 _ rfl ?_ rfl
  have h' : vhead s = true := h
  simp [vname, h']
 have h' : vhead s = false := h
 have hl : s.length ≤ 24 := by
  have hh := h'
  simp only [vhead, Bool.or_eq_false_iff, decide_eq_false_iff_not] at hh
  omega
 (refine zGo ?_)
 refine pw_for hD (fun i : Nat => [(3, .int .i64 i)]) (fun _ => []) (fun i => i ≤ s.length ∧ ∀ (j : Nat) c, j < i → s[j]? = some c → vbyte c = true) (fun i => s.length - i) 0 ⟨by omega, by intro j c h; omega⟩ 0 rfl (fun _ => rfl) (StLe.refl _) (fun _ => rfl) (fun _ => rfl) (by (exact zLe)) ?_
 rintro i ⟨hi, hno⟩
 (refine zGo ?_)
 refine pw_cond rfl (fun h2 => ?_) (fun h2 => ?_)
 ·simp only [decide_eq_true_eq] at h2
  have hlt : i < s.length := by omega
  (refine zGo ?_)
  (refine pl_op rfl (op_of (v_indexs (c := s[i]) hT rfl rfl rfl rfl (by omega) (by simp [hlt])) ?_); (refine zNp ?_))
  (refine zGo ?_)
  (refine pl_and 5 37 42 (decide ((s[i].toNat : Int) ≤ 122)) rfl rfl rfl (fun hb => ?_) (fun hb => ?_) ?_; (focus ((refine zNp ?_); (refine zGo ?_); (refine pl_on rfl rfl (op_of (v_indexs (c := s[i]) hT rfl rfl rfl rfl (by omega) (by simp [hlt])) ?_); (refine zNp ?_)); (refine zGo ?_); exact ⟨by (exact zLe), StLe.refl _⟩)); (focus ((refine zNp ?_); (refine zGo ?_); exact ⟨by (exact zLe), StLe.refl _⟩)); (refine zNp ?_); (refine zGo ?_))
  (refine pl_op rfl (op_of (v_indexs (c := s[i]) hT rfl rfl rfl rfl (by omega) (by simp [hlt])) ?_); (refine zNp ?_))
  (refine zGo ?_)
  (refine pl_and 5 47 52 (decide ((s[i].toNat : Int) ≤ 57)) rfl rfl rfl (fun hb => ?_) (fun hb => ?_) ?_; (focus ((refine zNp ?_); (refine zGo ?_); (refine pl_on rfl rfl (op_of (v_indexs (c := s[i]) hT rfl rfl rfl rfl (by omega) (by simp [hlt])) ?_); (refine zNp ?_)); (refine zGo ?_); exact ⟨by (exact zLe), StLe.refl _⟩)); (focus ((refine zNp ?_); (refine zGo ?_); exact ⟨by (exact zLe), StLe.refl _⟩)); (refine zNp ?_); (refine zGo ?_))
  (refine pl_and 3 55 58 (!(decide ((s[i].toNat : Int) ≥ 48) && decide ((s[i].toNat : Int) ≤ 57))) rfl rfl rfl (fun hb => ?_) (fun hb => ?_) ?_; (focus ((refine zNp ?_); (refine zGo ?_); exact ⟨by (exact zLe), StLe.refl _⟩)); (focus ((refine zNp ?_); (refine zGo ?_); exact ⟨by (exact zLe), StLe.refl _⟩)); (refine zNp ?_); (refine zGo ?_))
  (refine pl_and 5 59 64 ((s[i].toNat : Int) != 45) rfl rfl rfl (fun hb => ?_) (fun hb => ?_) ?_; (focus ((refine zNp ?_); (refine zGo ?_); (refine pl_on rfl rfl (op_of (v_indexs (c := s[i]) hT rfl rfl rfl rfl (by omega) (by simp [hlt])) ?_); (refine zNp ?_)); (refine zGo ?_); exact ⟨by (exact zLe), StLe.refl _⟩)); (focus ((refine zNp ?_); (refine zGo ?_); exact ⟨by (exact zLe), StLe.refl _⟩)); (refine zNp ?_); (refine zGo ?_))
  (refine pl_and 5 65 70 ((s[i].toNat : Int) != 95) rfl rfl rfl (fun hb => ?_) (fun hb => ?_) ?_; (focus ((refine zNp ?_); (refine zGo ?_); (refine pl_on rfl rfl (op_of (v_indexs (c := s[i]) hT rfl rfl rfl rfl (by omega) (by simp [hlt])) ?_); (refine zNp ?_)); (refine zGo ?_); exact ⟨by (exact zLe), StLe.refl _⟩)); (focus ((refine zNp ?_); (refine zGo ?_); exact ⟨by (exact zLe), StLe.refl _⟩)); (refine zNp ?_); (refine zGo ?_))
  refine pw_cond rfl (fun h3 => ?_) (fun h3 => ?_)
  ·(refine zGo ?_)
   refine ret1 _ rfl ?_ rfl
   have : s.all vbyte = false := List.all_eq_false.2 ⟨s[i], List.getElem_mem hlt, by unfold vbyte; rw [h3]; simp⟩
   rw [vname, this, Bool.and_false]
  ·(refine zGo ?_)
   refine ⟨i + 1, ⟨by omega, fun j d hj hd => ?_⟩, by omega, by (exact zLe), StLe.refl _⟩
   rcases Nat.lt_succ_iff_lt_or_eq.1 hj with hj | rfl
   ·exact hno j d hj hd
   ·rw [List.getElem?_eq_getElem hlt] at hd; cases hd
    unfold vbyte; rw [h3]; rfl
 ·simp only [decide_eq_false_iff_not] at h2
  (refine zGo ?_)
  refine ret1 _ rfl ?_ rfl
  have : s.all vbyte = true := List.all_eq_true.2 fun c hc => by
   obtain ⟨j, hj⟩ := List.mem_iff_getElem?.1 hc
   exact hno j c (by have := (List.getElem?_eq_some_iff.1 hj).1; omega) hj
  rw [vname, this, h']; rfl
def nhead (s : Str) (most : Int) : Bool := (((s == []) || decide ((s.length : Int) > 19)) || (decide ((s.length : Int) > 1) && (((s.headD 0).toNat : Int) == 48))) || decide (most < 0)
def dbad (c : UInt8) : Bool := decide ((c.toNat : Int) < 48) || decide ((c.toNat : Int) > 57)
def dval (s : Str) : Nat := s.foldl (fun n c => 10 * n + (c.toNat - 48)) 0
def number (s : Str) (least most : Int) : Int × Bool :=
 if nhead s most then (0, false) else if s.any dbad then (0, false) else if (decide ((dval s : Int) > most) || decide ((dval s : Int) < least)) then (0, false) else ((dval s : Int), true)
def digs : Str := [48, 49, 50, 51, 52, 53, 54, 55, 56, 57]
def sub (s : Str) (a b : Nat) : Str := (s.take b).drop a
def modN (v n : Int) : Int := (IntKind.u64.wrap v).tmod n
theorem wrap_u64 (v : Int) : 0 ≤ IntKind.u64.wrap v ∧ IntKind.u64.wrap v < 18446744073709551616 := by
 rw [IntKind.wrap_u64]; omega
theorem modN_lt (v n : Int) (h : 0 < n) : 0 ≤ modN v n ∧ modN v n < n := by
 have := wrap_u64 v
 unfold modN
 exact ⟨Int.tmod_nonneg _ this.1, Int.tmod_lt_of_pos _ h⟩
theorem c31 (v n : Int) (h0 : 0 < n) (h1 : n ≤ 9223372036854775807) : PFun Tryz.prog Gl 54 [.int .i64 v, .int .i64 n] fun r => r = .int .i64 (modN v n) := by
 refine PFun.of hT Tryz.func54 rfl fun B hD => ?_
 refine pw_norm rfl ?_
 (refine zGo ?_)
 (refine pl_op rfl (op_of (v_conv hT rfl rfl rfl rfl rfl) ?_); (refine zNp ?_))
 (refine zGo ?_)
 (refine pl_op rfl (op_of (v_conv (c := n) hT rfl rfl rfl rfl (IntWalk.u64_in _ (by omega))) ?_); (refine zNp ?_))
 (refine pl_op rfl (op_of (v_rem rfl rfl rfl (by omega) rfl) ?_); (refine zNp ?_))
 have := modN_lt v n h0
 unfold modN at this
 (refine pl_op rfl (op_of (v_conv (c := modN v n) hT rfl rfl rfl rfl (IntWalk.i64_in _ (by omega))) ?_); (refine zNp ?_))
 (refine zGo ?_)
 refine ret1 _ rfl rfl rfl
theorem c10 (l : List Int) : PCalls Tryz.prog Gl 6 [.sl (l.map eInt)] [] fun r s => r = .ptr 0 0 ∧ s = [.box [.sl (l.map eInt), .int .i64 0]] := by
 refine PCalls.of hT Tryz.func6 rfl 1 (Nat.zero_le _) fun B hD => ?_
 refine pw_norm rfl ?_
 (refine zGo ?_)
 exact ⟨_, _, _, rfl, ⟨rfl, rfl⟩, .inr (.inl rfl), ⟨.inr (.inl rfl), trivial⟩, rfl, rfl⟩
def Tp (l : List Int) : Prop := l.length ≤ 9223372036854775807
theorem c13 (l : List Int) (hl : Tp l) (i : Nat) (hi : i ≤ l.length) (n : Int) (hn : n ≤ 9223372036854775807) : PCalls Tryz.prog Gl 21 [.ptr 0 0, .int .i64 n] [.box [.sl (l.map eInt), .int .i64 i]] fun r s =>
  ∃ (m : Int) (i' : Nat), r = .int .i64 m ∧ 0 ≤ m ∧ (m < n ∨ m = 0) ∧ i' ≤ l.length ∧ s = [.box [.sl (l.map eInt), .int .i64 i']] := by
 refine PCalls.of hT Tryz.func21 rfl 1 (Nat.le_refl _) fun B hD => ?_
 refine pw_norm rfl ?_
 unfold Tp at hl
 (refine zGo ?_)
 refine zDr [[0,1,2,3,4,5,6,7,8,9,10,11,12,13]] ?_
 (refine zDgo ?_)
 refine po_split 7 rfl (fun h => ?_) (fun h => ?_)
 ·(refine zDgo ?_)
  (refine zGo ?_)
  exact ⟨_, _, _, rfl, ⟨0, i, rfl, Int.le_refl _, .inr rfl, hi, rfl⟩, .inr (.inl rfl), ⟨.inr (.inl rfl), trivial⟩, rfl, rfl⟩
 ·(refine zDgo ?_)
  (refine zGo ?_)
  refine pw_cond rfl (fun h2 => ?_) (fun h2 => ?_)
  ·(refine zGo ?_)
   exact ⟨_, _, _, rfl, ⟨0, i, rfl, Int.le_refl _, .inr rfl, hi, rfl⟩, .inr (.inl rfl), ⟨.inr (.inl rfl), trivial⟩, rfl, rfl⟩
  ·have hlt : i < l.length := by have h2' := of_decide_eq_false h2; rw [List.length_map] at h2'; omega
   have hn1 : 1 < n := by have h' := of_decide_eq_false h; omega
   (refine zGo ?_)
   refine zDr [[0,1,2,3,4,5,6,7,8,9,10,11],[12],[13]] ?_
   (refine zDgo ?_)
   (refine po_val rfl rfl (v_index (p := eInt l[i]) hT rfl rfl rfl rfl (by omega) (by simp [hlt]) rfl) ?_; refine zDn ?_)
   (refine zDgo ?_)
   (refine po_step rfl rfl (op_fun (c31 l[i] n (by omega) hn) rfl rfl e54 zLe rfl (fun r hr => ?_)); subst hr; refine ⟨rfl, zLok, ?_⟩; refine zDn ?_)
   (refine zDgo ?_)
   (refine zGo ?_)
   have hm := modN_lt l[i] n (by omega)
   exact ⟨_, _, _, rfl, ⟨modN l[i] n, i + 1, rfl, hm.1, .inl hm.2, hlt, rfl⟩, .inr (.inl rfl), ⟨.inr (.inl rfl), trivial⟩, rfl, rfl⟩
def subnets : List TPfx := [⟨167772160, 24⟩, ⟨167772416, 24⟩, ⟨167772672, 25⟩, ⟨167772800, 26⟩, ⟨2886729728, 16⟩, ⟨3232237321, 32⟩]
def subnetN (n : Int) : TPfx := subnets.getD (modN n 6).toNat ⟨0, 0⟩
theorem subnetN_mem (n : Int) : subnetN n ∈ subnets := by
 have hm := modN_lt n 6 (by omega)
 have hlt : (modN n 6).toNat < subnets.length := by show _ < 6; omega
 rw [subnetN, List.getD, List.getElem?_eq_getElem hlt]
 exact List.getElem_mem hlt
theorem subnetN_small (n : Nat) (h : n < 6) : subnetN n = subnets.getD n ⟨0, 0⟩ := by
 have : modN n 6 = n := by
  unfold modN
  rw [IntWalk.u64_in _ (by omega), Int.tmod_eq_of_lt (by omega) (by omega)]
 rw [subnetN, this]; rfl
theorem c37s (n : Int) : PFun Tryz.prog Gl 22 [.int .i64 n] fun r => r = ePfx (subnetN n) := by
 refine PFun.of hT Tryz.func22 rfl fun B hD => ?_
 refine pw_norm rfl ?_
 (refine zGo ?_)
 (refine pl_op rfl (op_fun (c31 n 6 (by omega) (by omega)) rfl rfl e54 zLe rfl (fun r hr => ?_)); subst hr; refine ⟨rfl, ?_⟩; (refine zNp ?_))
 have hm := modN_lt n 6 (by omega)
 have hlt : (modN n 6).toNat < subnets.length := by show _ < 6; omega
 (refine pl_op rfl (op_of (v_index (p := ePfx (subnetN n)) hT rfl rfl rfl rfl (by omega) ((List.getElem?_map (f := ePfx) (l := subnets)).trans (by rw [List.getElem?_eq_getElem hlt, subnetN, List.getD, List.getElem?_eq_getElem hlt]; rfl)) rfl) ?_); (refine zNp ?_))
 (refine zGo ?_)
 exact ret1 _ rfl rfl rfl
theorem c37 (n : Int) : PFun Tryz.prog Gl 22 [.int .i64 n] fun r => ∃ p : TPfx, p ∈ subnets ∧ r = ePfx p := (c37s n).mono fun _ h => ⟨_, subnetN_mem n, h⟩

end
end Go.Proofs.YtokclomhkggikaaGreatDoor