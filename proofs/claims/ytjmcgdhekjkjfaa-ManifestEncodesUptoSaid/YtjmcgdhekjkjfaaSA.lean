/- The machine over values at this program: its types and functions. Printed by program. -/
import Derived.Test.YtjmcgdhekjkjfaaVMU
import Derived.Test.YtjmcgdhekjkjfaaProg
import Derived.KernelRfl
namespace Go.Proofs.Ytjmcgdhekjkjfaa
open Go Go.VM

def ttL : List (Nat × TI) := [
   (1, { k := .fn, size := 1, bytes := 8, zero := [.nilfn], cmp := false, eq := true })
  , (2, { k := (.int .i64), size := 1, bytes := 8, zero := [(.int .i64 (0))], cmp := true, eq := true })
  , (3, { k := (.int .i64), size := 1, bytes := 8, zero := [(.int .i64 (0))], cmp := true, eq := true })
  , (4, { k := .bool, size := 1, bytes := 1, zero := [(.bool false)], cmp := true, eq := true })
  , (5, { k := (.int .u8), size := 1, bytes := 1, zero := [(.int .u8 (0))], cmp := true, eq := true })
  , (6, { k := (.int .u8), size := 1, bytes := 1, zero := [(.int .u8 (0))], cmp := true, eq := true })
  , (7, { k := (.struct [(0, 2), (1, 3), (2, 4), (3, 6)]), size := 4, bytes := 24, zero := [(.int .i64 (0)), (.int .i64 (0)), (.bool false), (.int .u8 (0))], cmp := true, eq := true })
  , (8, { k := (.struct [(0, 2), (1, 3), (2, 4), (3, 6)]), size := 4, bytes := 24, zero := [(.int .i64 (0)), (.int .i64 (0)), (.bool false), (.int .u8 (0))], cmp := true, eq := true })
  , (9, { k := .str, size := 1, bytes := 16, zero := [(.str [])], cmp := true, eq := true })
  , (10, { k := .str, size := 1, bytes := 16, zero := [(.str [])], cmp := true, eq := true })
  , (11, { k := .str, size := 1, bytes := 16, zero := [(.str [])], cmp := true, eq := true })
  , (12, { k := (.int .u64), size := 1, bytes := 8, zero := [(.int .u64 (0))], cmp := true, eq := true })
  , (15, { k := .ptr, size := 1, bytes := 8, zero := [.nilptr], cmp := true, eq := true })
  , (16, { k := .ptr, size := 1, bytes := 8, zero := [.nilptr], cmp := true, eq := true })
  , (17, { k := .ptr, size := 1, bytes := 8, zero := [.nilptr], cmp := true, eq := true })
  , (20, { k := .iface, size := 1, bytes := 16, zero := [.nilifc], cmp := true, eq := true })
  , (21, { k := (.int .i32), size := 1, bytes := 4, zero := [(.int .i32 (0))], cmp := true, eq := true })
  , (22, { k := (.slice 5), size := 1, bytes := 24, zero := [(.nums .u8 true [])], cmp := false, eq := true })
  , (23, { k := (.struct [(0, 3), (1, 3), (2, 3), (3, 3), (4, 22), (5, 22), (6, 22)]), size := 7, bytes := 104, zero := [(.int .i64 (0)), (.int .i64 (0)), (.int .i64 (0)), (.int .i64 (0)), (.nums .u8 true []), (.nums .u8 true []), (.nums .u8 true [])], cmp := false, eq := true })
  , (24, { k := (.struct [(0, 3), (1, 3), (2, 3), (3, 3), (4, 22), (5, 22), (6, 22)]), size := 7, bytes := 104, zero := [(.int .i64 (0)), (.int .i64 (0)), (.int .i64 (0)), (.int .i64 (0)), (.nums .u8 true []), (.nums .u8 true []), (.nums .u8 true [])], cmp := false, eq := true })
  , (25, { k := .fn, size := 1, bytes := 8, zero := [.nilfn], cmp := false, eq := true })
  , (26, { k := .iface, size := 1, bytes := 16, zero := [.nilifc], cmp := true, eq := true })
  , (27, { k := .iface, size := 1, bytes := 16, zero := [.nilifc], cmp := true, eq := true })
  , (28, { k := .fn, size := 1, bytes := 8, zero := [.nilfn], cmp := false, eq := true })
  , (29, { k := (.int .i64), size := 1, bytes := 8, zero := [(.int .i64 (0))], cmp := true, eq := true })
  , (30, { k := .fn, size := 1, bytes := 8, zero := [.nilfn], cmp := false, eq := true })
  , (32, { k := .fn, size := 1, bytes := 8, zero := [.nilfn], cmp := false, eq := true })
  , (34, { k := .fn, size := 1, bytes := 8, zero := [.nilfn], cmp := false, eq := true })
  , (35, { k := .fn, size := 1, bytes := 8, zero := [.nilfn], cmp := false, eq := true })
  , (37, { k := .fn, size := 1, bytes := 8, zero := [.nilfn], cmp := false, eq := true })
  , (38, { k := .fn, size := 1, bytes := 8, zero := [.nilfn], cmp := false, eq := true })
  , (39, { k := .fn, size := 1, bytes := 8, zero := [.nilfn], cmp := false, eq := true })
  , (40, { k := (.slice 42), size := 1, bytes := 24, zero := [(.sl 5 true [])], cmp := false, eq := true })
  , (41, { k := (.struct [(0, 3), (1, 3), (2, 4), (3, 22), (4, 40)]), size := 5, bytes := 72, zero := [(.int .i64 (0)), (.int .i64 (0)), (.bool false), (.nums .u8 true []), (.sl 5 true [])], cmp := false, eq := true })
  , (42, { k := (.struct [(0, 3), (1, 3), (2, 4), (3, 22), (4, 40)]), size := 5, bytes := 72, zero := [(.int .i64 (0)), (.int .i64 (0)), (.bool false), (.nums .u8 true []), (.sl 5 true [])], cmp := false, eq := true })
  , (43, { k := .fn, size := 1, bytes := 8, zero := [.nilfn], cmp := false, eq := true })
  , (44, { k := (.slice 3), size := 1, bytes := 24, zero := [(.nums .i64 true [])], cmp := false, eq := true })
  , (46, { k := .fn, size := 1, bytes := 8, zero := [.nilfn], cmp := false, eq := true })
  , (47, { k := (.slice 22), size := 1, bytes := 24, zero := [(.sl 1 true [])], cmp := false, eq := true })
  , (48, { k := .fn, size := 1, bytes := 8, zero := [.nilfn], cmp := false, eq := true })
  , (49, { k := .fn, size := 1, bytes := 8, zero := [.nilfn], cmp := false, eq := true })
  , (50, { k := .fn, size := 1, bytes := 8, zero := [.nilfn], cmp := false, eq := true })
  , (51, { k := .fn, size := 1, bytes := 8, zero := [.nilfn], cmp := false, eq := true })
  , (52, { k := .fn, size := 1, bytes := 8, zero := [.nilfn], cmp := false, eq := true })
  , (53, { k := .fn, size := 1, bytes := 8, zero := [.nilfn], cmp := false, eq := true })
  , (54, { k := .fn, size := 1, bytes := 8, zero := [.nilfn], cmp := false, eq := true })
  , (55, { k := .ptr, size := 1, bytes := 8, zero := [.nilptr], cmp := true, eq := true })
  , (56, { k := (.slice 55), size := 1, bytes := 24, zero := [(.sl 1 true [])], cmp := false, eq := true })
  , (58, { k := .fn, size := 1, bytes := 8, zero := [.nilfn], cmp := false, eq := true })
  , (59, { k := .ptr, size := 1, bytes := 8, zero := [.nilptr], cmp := true, eq := true })
  , (60, { k := (.slice 59), size := 1, bytes := 24, zero := [(.sl 1 true [])], cmp := false, eq := true })
  , (61, { k := .fn, size := 1, bytes := 8, zero := [.nilfn], cmp := false, eq := true })
  , (63, { k := .fn, size := 1, bytes := 8, zero := [.nilfn], cmp := false, eq := true })
  , (64, { k := .fn, size := 1, bytes := 8, zero := [.nilfn], cmp := false, eq := true })
  , (65, { k := .fn, size := 1, bytes := 8, zero := [.nilfn], cmp := false, eq := true })
  , (66, { k := .fn, size := 1, bytes := 8, zero := [.nilfn], cmp := false, eq := true })
  , (67, { k := .fn, size := 1, bytes := 8, zero := [.nilfn], cmp := false, eq := true })
  , (68, { k := .fn, size := 1, bytes := 8, zero := [.nilfn], cmp := false, eq := true })
  , (70, { k := (.struct [(0, 22)]), size := 1, bytes := 24, zero := [(.nums .u8 true [])], cmp := false, eq := true })
  , (71, { k := (.struct [(0, 22)]), size := 1, bytes := 24, zero := [(.nums .u8 true [])], cmp := false, eq := true })
  , (72, { k := .fn, size := 1, bytes := 8, zero := [.nilfn], cmp := false, eq := true })
  , (73, { k := .fn, size := 1, bytes := 8, zero := [.nilfn], cmp := false, eq := true })
  , (74, { k := .fn, size := 1, bytes := 8, zero := [.nilfn], cmp := false, eq := true })
  , (75, { k := .fn, size := 1, bytes := 8, zero := [.nilfn], cmp := false, eq := true })
  , (76, { k := (.int .u64), size := 1, bytes := 8, zero := [(.int .u64 (0))], cmp := true, eq := true })
  , (77, { k := .fn, size := 1, bytes := 8, zero := [.nilfn], cmp := false, eq := true })
  , (79, { k := .fn, size := 1, bytes := 8, zero := [.nilfn], cmp := false, eq := true })
  , (80, { k := .fn, size := 1, bytes := 8, zero := [.nilfn], cmp := false, eq := true })
  , (81, { k := .ptr, size := 1, bytes := 8, zero := [.nilptr], cmp := true, eq := true })
  , (82, { k := (.struct [(0, 3), (1, 27)]), size := 2, bytes := 24, zero := [(.int .i64 (0)), .nilifc], cmp := true, eq := false })
  , (83, { k := (.struct [(0, 3), (1, 27)]), size := 2, bytes := 24, zero := [(.int .i64 (0)), .nilifc], cmp := true, eq := false })
  , (84, { k := .fn, size := 1, bytes := 8, zero := [.nilfn], cmp := false, eq := true })
  , (85, { k := .fn, size := 1, bytes := 8, zero := [.nilfn], cmp := false, eq := true })
  , (86, { k := .fn, size := 1, bytes := 8, zero := [.nilfn], cmp := false, eq := true })
  , (89, { k := (.arr 0 16), size := 0, bytes := 0, zero := [], cmp := true, eq := true })
  , (92, { k := .fn, size := 1, bytes := 8, zero := [.nilfn], cmp := false, eq := true })
  , (93, { k := (.int .u32), size := 1, bytes := 4, zero := [(.int .u32 (0))], cmp := true, eq := true })
  , (94, { k := (.int .u8), size := 1, bytes := 1, zero := [(.int .u8 (0))], cmp := true, eq := true })
  , (95, { k := (.int .u8), size := 1, bytes := 1, zero := [(.int .u8 (0))], cmp := true, eq := true })
  , (96, { k := .fn, size := 1, bytes := 8, zero := [.nilfn], cmp := false, eq := true })
  , (97, { k := .ptr, size := 1, bytes := 8, zero := [.nilptr], cmp := true, eq := true })
  , (98, { k := (.int .i32), size := 1, bytes := 4, zero := [(.int .i32 (0))], cmp := true, eq := true })
  , (99, { k := (.int .i32), size := 1, bytes := 4, zero := [(.int .i32 (0))], cmp := true, eq := true })
]
def linL : List (Nat × List Nat) := [
   (7, [81, 80, 50, 27, 3, 2, 52, 71])
  , (8, [69, 68, 64, 36, 5, 3, 2, 32, 53])
  , (15, [10, 5, 15, 13, 3, 2, 1000015])
  , (16, [24, 23, 3, 2, 16])
  , (25, [88, 86, 76, 72, 58, 49, 42, 0, 4, 39, 45, 53, 65, 73, 1000086, 84])
  , (26, [23, 5, 39, 38, 3, 2, 19, 36])
  , (29, [39, 11, 82, 79, 66, 55, 48, 6, 26, 3, 2, 8, 19, 44, 51, 58, 67, 80])
  , (30, [104, 75, 74, 17, 13, 14, 117, 108, 91, 79, 44, 32, 24, 10, 9, 110])
  , (33, [34, 32, 19, 3, 2, 30])
  , (39, [7, 2, 5])
]
def liveL : List (Nat × List (Nat × List Nat)) := [
   (7, [(5, [1, 4, 37, 38, 39]), (100005, [1, 2, 3, 4]), (13, [4, 64, 65, 66]), (100013, [2, 3, 4]), (200015, [3]), (250015, [71]), (300015, [])])
  , (8, [(4, [1, 4, 5, 6]), (100004, [1, 2, 3, 5])])
  , (9, [(4, [0, 3]), (100004, [2])])
  , (10, [(8, [2, 4, 6, 33, 34, 35]), (100008, [2, 3, 4, 6]), (17, [2, 4, 6, 11, 61, 62, 63]), (100017, [2, 3, 6]), (200020, []), (250020, [])])
  , (16, [(4, [0, 4]), (100004, [2, 3, 4])])
  , (21, [(200004, []), (250004, [])])
  , (25, [(6, [0, 3, 5, 6, 28, 29, 30]), (100006, [0, 3, 4, 5, 6]), (16, [0, 3, 6, 10]), (100016, [0, 3, 4]), (21, [0, 78, 79, 80]), (100021, [0, 4])])
  , (26, [(2, [0, 4]), (100002, [0, 2, 3, 4])])
  , (27, [(6, [1, 3]), (100006, [2])])
  , (28, [(3, [1, 3, 4]), (100003, [2, 3])])
  , (29, [(3, [1, 3, 4]), (100003, [1, 2, 3])])
  , (30, [(14, [3, 4, 8, 11, 12, 13]), (100014, [8, 9, 10, 11, 13]), (200007, []), (250007, [])])
  , (32, [(8, [6, 21, 22, 23]), (100008, [2, 3, 6])])
  , (33, [(1, [0]), (100001, [0, 2, 3])])
  , (36, [(3, [1, 3, 4]), (100003, [2, 3])])
  , (38, [(12, [1, 2, 3, 9, 10, 11, 57, 58, 59]), (100012, [1, 2, 3, 6, 7, 8, 9, 10, 11])])
  , (44, [(2, [0, 1, 7, 8]), (100002, [4])])
]
def reg2 : Nat → RegH
  | 0 => ⟨some [], []⟩
  | _ => ⟨none, []⟩
def reg3 : Nat → RegH
  | 0 => ⟨some [1, 2], []⟩
  | 1 => ⟨some [1, 2, 5], []⟩
  | 2 => ⟨some [1, 2, 5, 6], []⟩
  | 3 => ⟨some [1, 2, 5, 6, 19], []⟩
  | 4 => ⟨some [4], []⟩
  | 5 => ⟨some [5, 6, 7], []⟩
  | 6 => ⟨some [4], []⟩
  | _ => ⟨none, []⟩
def reg4 : Nat → RegH
  | 0 => ⟨some [1], []⟩
  | 1 => ⟨some [1, 3], []⟩
  | 2 => ⟨some [1, 3, 26], []⟩
  | 3 => ⟨some [2], []⟩
  | 4 => ⟨some [1, 3, 4, 5], []⟩
  | 5 => ⟨some [1, 3, 4, 5, 6, 7], []⟩
  | 6 => ⟨some [1, 3, 4, 7, 48], []⟩
  | 7 => ⟨some [2], []⟩
  | 8 => ⟨some [1, 3, 4, 50], []⟩
  | 9 => ⟨some [2], []⟩
  | 10 => ⟨some [1, 3, 8, 9], []⟩
  | 11 => ⟨some [2], []⟩
  | _ => ⟨none, []⟩
def reg5 : Nat → RegH
  | 0 => ⟨some [], []⟩
  | 1 => ⟨some [1], []⟩
  | 2 => ⟨some [1, 3], []⟩
  | 3 => ⟨some [0], []⟩
  | _ => ⟨none, []⟩
def reg6 : Nat → RegH
  | 0 => ⟨some [1, 2], []⟩
  | 1 => ⟨some [1, 2, 5], []⟩
  | 2 => ⟨some [4], []⟩
  | 3 => ⟨some [15], []⟩
  | 4 => ⟨some [4], []⟩
  | 5 => ⟨some [4], []⟩
  | _ => ⟨none, []⟩
def reg7 : Nat → RegH
  | 0 => ⟨some [1], [(2, none)]⟩
  | 1 => ⟨some [1, 26], []⟩
  | 2 => ⟨some [2, 3], [(2, none)]⟩
  | 3 => ⟨some [1, 4], [(4, some 3), (4, some 4)]⟩
  | 4 => ⟨some [1, 4, 37, 38, 39], []⟩
  | 5 => ⟨some [1, 4, 37, 38, 39, 40], []⟩
  | 6 => ⟨some [1, 4, 6, 37, 38, 39], []⟩
  | 7 => ⟨some [1, 4, 7, 8, 37, 38, 39], [(7, some 3), (7, some 4)]⟩
  | 8 => ⟨some [1, 4, 7, 37, 38, 39, 49], []⟩
  | 9 => ⟨some [2, 3], [(2, none)]⟩
  | 10 => ⟨some [1, 4, 37, 38, 39], []⟩
  | 11 => ⟨some [1, 4, 37, 38, 39], []⟩
  | 12 => ⟨some [4, 64, 65, 66], []⟩
  | 13 => ⟨some [4, 64, 65, 66, 67], []⟩
  | 14 => ⟨some [4, 10, 64, 65, 66], []⟩
  | 15 => ⟨some [4, 64, 65, 66], []⟩
  | 16 => ⟨some [4, 64, 65, 66], []⟩
  | 17 => ⟨some [2, 3], []⟩
  | _ => ⟨none, []⟩
def reg8 : Nat → RegH
  | 0 => ⟨some [1], [(2, none)]⟩
  | 1 => ⟨some [1, 4], []⟩
  | 2 => ⟨some [1, 4, 5], [(5, none)]⟩
  | 3 => ⟨some [1, 4, 5, 6], []⟩
  | 4 => ⟨some [1, 4, 5, 6, 19], []⟩
  | 5 => ⟨some [1, 4, 5, 6], []⟩
  | 6 => ⟨some [1, 4, 5, 6, 7, 8], []⟩
  | 7 => ⟨some [1, 4, 5, 6, 7, 31], []⟩
  | 8 => ⟨some [2, 3], [(2, none)]⟩
  | 9 => ⟨some [1, 4, 5, 6], []⟩
  | 10 => ⟨some [1, 5, 52], []⟩
  | 11 => ⟨some [2, 3], [(2, none)]⟩
  | 12 => ⟨some [5], []⟩
  | 13 => ⟨some [2, 3], []⟩
  | _ => ⟨none, []⟩
def reg9 : Nat → RegH
  | 0 => ⟨some [0], []⟩
  | 1 => ⟨some [0, 5], []⟩
  | 2 => ⟨some [2], []⟩
  | 3 => ⟨some [0, 3], []⟩
  | 4 => ⟨some [0, 3, 7], []⟩
  | 5 => ⟨some [0, 3], []⟩
  | 6 => ⟨some [0, 3, 13], []⟩
  | 7 => ⟨some [2], []⟩
  | 8 => ⟨some [2], []⟩
  | _ => ⟨none, []⟩
def reg10 : Nat → RegH
  | 0 => ⟨some [0, 2], []⟩
  | 1 => ⟨some [2, 4, 5], []⟩
  | 2 => ⟨some [2, 4, 5, 21], []⟩
  | 3 => ⟨some [2, 3], []⟩
  | 4 => ⟨some [2, 4, 26], []⟩
  | 5 => ⟨some [2, 3], []⟩
  | 6 => ⟨some [2, 4, 6], []⟩
  | 7 => ⟨some [2, 4, 6, 33, 34, 35], []⟩
  | 8 => ⟨some [2, 4, 6, 33, 34, 35, 36], []⟩
  | 9 => ⟨some [2, 4, 6, 7, 8, 33, 34, 35], []⟩
  | 10 => ⟨some [2, 4, 6, 8, 9, 10, 33, 34, 35], []⟩
  | 11 => ⟨some [2, 4, 6, 8, 9, 33, 34, 35, 50], []⟩
  | 12 => ⟨some [2, 3], []⟩
  | 13 => ⟨some [2, 4, 6, 33, 34, 35], []⟩
  | 14 => ⟨some [2, 4, 6, 33, 34, 35], []⟩
  | 15 => ⟨some [2, 4, 6, 11], []⟩
  | 16 => ⟨some [2, 4, 6, 11, 61, 62, 63], []⟩
  | 17 => ⟨some [2, 4, 6, 11, 61, 62, 63, 64], []⟩
  | 18 => ⟨some [2, 4, 6, 11, 12, 13, 61, 62, 63], []⟩
  | 19 => ⟨some [2, 4, 6, 11, 12, 13, 14, 61, 62, 63], []⟩
  | 20 => ⟨some [2, 4, 6, 11, 13, 14, 61, 62, 63, 86], []⟩
  | 21 => ⟨some [2, 3], []⟩
  | 22 => ⟨some [2, 4, 6, 11, 61, 62, 63], []⟩
  | 23 => ⟨some [2, 4, 6, 11, 61, 62, 63], []⟩
  | 24 => ⟨some [2, 3], []⟩
  | _ => ⟨none, []⟩
def reg11 : Nat → RegH
  | 0 => ⟨some [2, 3], []⟩
  | 1 => ⟨some [4], []⟩
  | _ => ⟨none, []⟩
def reg12 : Nat → RegH
  | 0 => ⟨some [0, 2], []⟩
  | 1 => ⟨some [2], []⟩
  | _ => ⟨none, []⟩
def reg13 : Nat → RegH
  | 0 => ⟨some [0, 2], []⟩
  | 1 => ⟨some [2, 4, 5], []⟩
  | 2 => ⟨some [2, 3], []⟩
  | _ => ⟨none, []⟩
def reg14 : Nat → RegH
  | 0 => ⟨some [0, 1, 4], []⟩
  | 1 => ⟨some [4], []⟩
  | _ => ⟨none, []⟩
def reg15 : Nat → RegH
  | 0 => ⟨some [1], [(2, none)]⟩
  | 1 => ⟨some [1, 5], []⟩
  | 2 => ⟨some [1, 5, 12], []⟩
  | 3 => ⟨some [2, 3], [(2, none)]⟩
  | 4 => ⟨some [2, 3], []⟩
  | _ => ⟨none, []⟩
def reg16 : Nat → RegH
  | 0 => ⟨some [0], [(2, none)]⟩
  | 1 => ⟨some [0, 10], []⟩
  | 2 => ⟨some [2, 3], [(2, none)]⟩
  | 3 => ⟨some [0, 4], []⟩
  | 4 => ⟨some [0, 4, 12], []⟩
  | 5 => ⟨some [0, 4], []⟩
  | 6 => ⟨some [0, 4], []⟩
  | 7 => ⟨some [2, 3], []⟩
  | _ => ⟨none, []⟩
def reg17 : Nat → RegH
  | 0 => ⟨some [1], []⟩
  | 1 => ⟨some [1, 4], []⟩
  | 2 => ⟨some [1, 9], []⟩
  | 3 => ⟨some [2, 3], []⟩
  | 4 => ⟨some [1, 12], []⟩
  | 5 => ⟨some [2, 3], []⟩
  | 6 => ⟨some [5], []⟩
  | 7 => ⟨some [5, 17], []⟩
  | 8 => ⟨some [2, 3], []⟩
  | 9 => ⟨some [2, 3], []⟩
  | _ => ⟨none, []⟩
def reg18 : Nat → RegH
  | 0 => ⟨some [0, 2], []⟩
  | 1 => ⟨some [2], []⟩
  | _ => ⟨none, []⟩
def reg19 : Nat → RegH
  | 0 => ⟨some [0, 2], []⟩
  | 1 => ⟨some [0, 2, 9], []⟩
  | 2 => ⟨some [2, 3], []⟩
  | 3 => ⟨some [0, 2, 4, 5, 6], []⟩
  | 4 => ⟨some [0, 2, 4, 5, 6, 21], []⟩
  | 5 => ⟨some [2, 3], []⟩
  | 6 => ⟨some [2, 4, 5, 26], []⟩
  | 7 => ⟨some [2, 3], []⟩
  | 8 => ⟨some [2, 3], []⟩
  | _ => ⟨none, []⟩
def reg20 : Nat → RegH
  | 0 => ⟨some [1, 2], []⟩
  | 1 => ⟨some [4], []⟩
  | _ => ⟨none, []⟩
def reg21 : Nat → RegH
  | 0 => ⟨some [1], []⟩
  | 1 => ⟨some [1, 8], []⟩
  | 2 => ⟨some [2, 3], []⟩
  | 3 => ⟨some [4, 5], []⟩
  | 4 => ⟨some [2, 3], []⟩
  | _ => ⟨none, []⟩
def reg22 : Nat → RegH
  | 0 => ⟨some [1, 2], []⟩
  | 1 => ⟨some [4], []⟩
  | _ => ⟨none, []⟩
def reg23 : Nat → RegH
  | 0 => ⟨some [0], []⟩
  | 1 => ⟨some [0, 9], []⟩
  | 2 => ⟨some [2, 3], []⟩
  | 3 => ⟨some [2, 3], []⟩
  | _ => ⟨none, []⟩
def reg24 : Nat → RegH
  | 0 => ⟨some [1], []⟩
  | 1 => ⟨some [1, 5], []⟩
  | 2 => ⟨some [2, 3], []⟩
  | 3 => ⟨some [1, 10], []⟩
  | 4 => ⟨some [2, 3], []⟩
  | 5 => ⟨some [4], []⟩
  | 6 => ⟨some [4, 17], []⟩
  | 7 => ⟨some [2, 3], []⟩
  | 8 => ⟨some [2, 3], []⟩
  | _ => ⟨none, []⟩
def reg25 : Nat → RegH
  | 0 => ⟨some [0, 3], [(4, none)]⟩
  | 1 => ⟨some [0, 3, 5], []⟩
  | 2 => ⟨some [0, 3, 5, 21], []⟩
  | 3 => ⟨some [0, 3, 5], []⟩
  | 4 => ⟨some [0, 3, 5, 6], []⟩
  | 5 => ⟨some [0, 3, 5, 6, 28, 29, 30], []⟩
  | 6 => ⟨some [0, 3, 5, 6, 28, 29, 30, 31], []⟩
  | 7 => ⟨some [0, 3, 5, 6, 8, 28, 29, 30], []⟩
  | 8 => ⟨some [0, 3, 5, 6, 28, 29, 30], []⟩
  | 9 => ⟨some [0, 3, 5, 6, 28, 29, 30], []⟩
  | 10 => ⟨some [0, 3, 6], []⟩
  | 11 => ⟨some [0, 3, 6, 44], []⟩
  | 12 => ⟨some [0, 3], []⟩
  | 13 => ⟨some [0, 3, 6, 9], []⟩
  | 14 => ⟨some [0, 3, 6, 9], []⟩
  | 15 => ⟨some [0, 3, 6, 10], []⟩
  | 16 => ⟨some [0, 3, 6, 10, 62], []⟩
  | 17 => ⟨some [0, 3, 6, 10], []⟩
  | 18 => ⟨some [0, 3, 6, 10], []⟩
  | 19 => ⟨some [0, 3], []⟩
  | 20 => ⟨some [0, 78, 79, 80], []⟩
  | 21 => ⟨some [0, 78, 79, 80, 81], []⟩
  | 22 => ⟨some [0, 12, 78, 79, 80], []⟩
  | 23 => ⟨some [0, 78, 79, 80], []⟩
  | 24 => ⟨some [0, 78, 79, 80], []⟩
  | 25 => ⟨some [4], []⟩
  | _ => ⟨none, []⟩
def reg26 : Nat → RegH
  | 0 => ⟨some [0], [(2, none)]⟩
  | 1 => ⟨some [0, 4], []⟩
  | 2 => ⟨some [0, 4, 16], []⟩
  | 3 => ⟨some [0, 4], []⟩
  | 4 => ⟨some [5], []⟩
  | 5 => ⟨some [5, 26], []⟩
  | 6 => ⟨some [2, 3], [(2, none)]⟩
  | 7 => ⟨some [5, 35], []⟩
  | 8 => ⟨some [2, 3], []⟩
  | 9 => ⟨some [2, 3], []⟩
  | _ => ⟨none, []⟩
def reg27 : Nat → RegH
  | 0 => ⟨some [1], []⟩
  | 1 => ⟨some [1, 22], []⟩
  | 2 => ⟨some [2], []⟩
  | 3 => ⟨some [1, 41], []⟩
  | 4 => ⟨some [2], []⟩
  | 5 => ⟨some [1, 3], []⟩
  | 6 => ⟨some [1, 3, 46], []⟩
  | 7 => ⟨some [1, 3], []⟩
  | 8 => ⟨some [1, 3, 4], []⟩
  | 9 => ⟨some [1, 3, 56], []⟩
  | 10 => ⟨some [2], []⟩
  | 11 => ⟨some [2], []⟩
  | _ => ⟨none, []⟩
def reg28 : Nat → RegH
  | 0 => ⟨some [1], []⟩
  | 1 => ⟨some [1, 3], []⟩
  | 2 => ⟨some [1, 3, 4], []⟩
  | 3 => ⟨some [1, 3, 4, 10], []⟩
  | 4 => ⟨some [1, 3, 4], []⟩
  | 5 => ⟨some [1, 3, 4, 5], []⟩
  | 6 => ⟨some [1, 3, 4, 5, 21], []⟩
  | 7 => ⟨some [1, 3, 4], []⟩
  | 8 => ⟨some [2], []⟩
  | _ => ⟨none, []⟩
def reg29 : Nat → RegH
  | 0 => ⟨some [1], [(2, none)]⟩
  | 1 => ⟨some [1, 3], []⟩
  | 2 => ⟨some [1, 3, 4], []⟩
  | 3 => ⟨some [1, 3, 4, 16], []⟩
  | 4 => ⟨some [1, 3, 4], []⟩
  | 5 => ⟨some [1, 3, 4], []⟩
  | 6 => ⟨some [1, 3, 5], []⟩
  | 7 => ⟨some [3, 5, 34], []⟩
  | 8 => ⟨some [3, 5], []⟩
  | 9 => ⟨some [3, 6], []⟩
  | 10 => ⟨some [3, 6, 7], []⟩
  | 11 => ⟨some [3, 6, 7, 43], []⟩
  | 12 => ⟨some [3, 6], []⟩
  | 13 => ⟨some [3, 6, 7, 50], []⟩
  | 14 => ⟨some [3, 6], []⟩
  | 15 => ⟨some [3, 6, 7, 57], []⟩
  | 16 => ⟨some [3, 6], []⟩
  | 17 => ⟨some [3, 6], []⟩
  | 18 => ⟨some [2], []⟩
  | _ => ⟨none, []⟩
def reg30 : Nat → RegH
  | 0 => ⟨some [1, 2, 3, 4, 8], [(8, some 3), (8, some 4)]⟩
  | 1 => ⟨some [1, 2, 3, 4, 8, 18], []⟩
  | 2 => ⟨some [8, 9, 10], []⟩
  | 3 => ⟨some [1, 2, 3, 4, 8, 25], []⟩
  | 4 => ⟨some [8, 9, 10], []⟩
  | 5 => ⟨some [1, 2, 3, 4, 8, 33], []⟩
  | 6 => ⟨some [8, 9, 10], []⟩
  | 7 => ⟨some [1, 2, 3, 4, 8, 11], [(11, some 3), (11, some 4)]⟩
  | 8 => ⟨some [3, 4, 8, 11, 12, 13, 14], []⟩
  | 9 => ⟨some [3, 4, 8, 11, 12, 13, 14, 77], []⟩
  | 10 => ⟨some [8, 9, 10], []⟩
  | 11 => ⟨some [3, 4, 8, 11, 12, 13, 82], []⟩
  | 12 => ⟨some [8, 11, 13], []⟩
  | 13 => ⟨some [8, 9, 10], []⟩
  | 14 => ⟨some [3, 4, 8, 11, 12, 13, 94], []⟩
  | 15 => ⟨some [3, 4, 8, 11, 13, 15, 16, 17], [(15, some 3), (15, some 4)]⟩
  | 16 => ⟨some [3, 4, 8, 11, 13, 15, 16, 17, 106], []⟩
  | 17 => ⟨some [8, 9, 10], []⟩
  | 18 => ⟨some [3, 4, 8, 11, 13, 16], []⟩
  | 19 => ⟨some [3, 4, 8, 11, 12, 13], []⟩
  | 20 => ⟨some [8, 9, 10], []⟩
  | _ => ⟨none, []⟩
def reg31 : Nat → RegH
  | 0 => ⟨some [0, 1], []⟩
  | 1 => ⟨some [4], []⟩
  | _ => ⟨none, []⟩
def reg32 : Nat → RegH
  | 0 => ⟨some [0], []⟩
  | 1 => ⟨some [4, 5], []⟩
  | 2 => ⟨some [4, 5, 15], []⟩
  | 3 => ⟨some [2, 3], []⟩
  | 4 => ⟨some [4, 19], []⟩
  | 5 => ⟨some [2, 3], []⟩
  | 6 => ⟨some [4, 6], []⟩
  | 7 => ⟨some [6, 21, 22, 23], []⟩
  | 8 => ⟨some [6, 21, 22, 23, 24], []⟩
  | 9 => ⟨some [6, 8, 21, 22, 23], []⟩
  | 10 => ⟨some [6, 21, 22, 23], []⟩
  | 11 => ⟨some [6, 21, 22, 23], []⟩
  | 12 => ⟨some [6, 34], []⟩
  | 13 => ⟨some [2, 3], []⟩
  | 14 => ⟨some [2, 3], []⟩
  | _ => ⟨none, []⟩
def reg33 : Nat → RegH
  | 0 => ⟨some [0], [(2, none)]⟩
  | 1 => ⟨some [0, 12], []⟩
  | 2 => ⟨some [0], []⟩
  | 3 => ⟨some [0, 15], []⟩
  | 4 => ⟨some [2, 3], [(2, none)]⟩
  | 5 => ⟨some [0, 20], []⟩
  | 6 => ⟨some [2, 3], []⟩
  | 7 => ⟨some [2, 3], []⟩
  | _ => ⟨none, []⟩
def reg34 : Nat → RegH
  | 0 => ⟨some [1], []⟩
  | 1 => ⟨some [1, 41], []⟩
  | 2 => ⟨some [2], []⟩
  | 3 => ⟨some [2], []⟩
  | _ => ⟨none, []⟩
def reg35 : Nat → RegH
  | 0 => ⟨some [2, 3], []⟩
  | 1 => ⟨some [4], []⟩
  | _ => ⟨none, []⟩
def reg36 : Nat → RegH
  | 0 => ⟨some [1], []⟩
  | 1 => ⟨some [1, 3], []⟩
  | 2 => ⟨some [1, 3, 4], []⟩
  | 3 => ⟨some [1, 3, 4, 16], []⟩
  | 4 => ⟨some [1, 3, 4], []⟩
  | 5 => ⟨some [1, 3, 4], []⟩
  | 6 => ⟨some [2], []⟩
  | _ => ⟨none, []⟩
def reg37 : Nat → RegH
  | 0 => ⟨some [0], []⟩
  | 1 => ⟨some [0, 3], []⟩
  | 2 => ⟨some [2], []⟩
  | 3 => ⟨some [0, 6], []⟩
  | 4 => ⟨some [2], []⟩
  | 5 => ⟨some [9], []⟩
  | 6 => ⟨some [2], []⟩
  | 7 => ⟨some [2], []⟩
  | _ => ⟨none, []⟩
def reg38 : Nat → RegH
  | 0 => ⟨some [1, 2, 3], []⟩
  | 1 => ⟨some [1, 2, 3, 16], []⟩
  | 2 => ⟨some [6, 7, 8], []⟩
  | 3 => ⟨some [1, 2, 3, 9, 10], []⟩
  | 4 => ⟨some [1, 2, 3, 9, 10, 28], []⟩
  | 5 => ⟨some [6, 7, 8], []⟩
  | 6 => ⟨some [1, 2, 3, 9, 10, 38], []⟩
  | 7 => ⟨some [1, 2, 3, 10, 11], []⟩
  | 8 => ⟨some [1, 2, 3, 10, 11, 47], []⟩
  | 9 => ⟨some [6, 7, 8], []⟩
  | 10 => ⟨some [1, 2, 3, 9, 10, 11], []⟩
  | 11 => ⟨some [1, 2, 3, 9, 10, 11, 57, 58, 59], []⟩
  | 12 => ⟨some [1, 2, 3, 9, 10, 11, 57, 58, 59, 60], []⟩
  | 13 => ⟨some [1, 2, 3, 9, 10, 11, 13, 57, 58, 59], []⟩
  | 14 => ⟨some [1, 2, 3, 9, 10, 11, 57, 58, 59], []⟩
  | 15 => ⟨some [1, 2, 3, 9, 10, 11, 57, 58, 59], []⟩
  | 16 => ⟨some [1, 2, 9, 10, 11, 78], []⟩
  | 17 => ⟨some [6, 7, 8], []⟩
  | 18 => ⟨some [1, 2, 9, 10], []⟩
  | 19 => ⟨some [1, 9, 10, 89], []⟩
  | 20 => ⟨some [6, 7, 8], []⟩
  | 21 => ⟨some [6, 7, 8], []⟩
  | _ => ⟨none, []⟩
def reg39 : Nat → RegH
  | 0 => ⟨some [0], [(2, none)]⟩
  | 1 => ⟨some [0, 4], []⟩
  | 2 => ⟨some [2], [(2, none)]⟩
  | 3 => ⟨some [2], []⟩
  | _ => ⟨none, []⟩
def reg40 : Nat → RegH
  | 0 => ⟨some [0], []⟩
  | 1 => ⟨some [0, 4], []⟩
  | 2 => ⟨some [2, 3], []⟩
  | 3 => ⟨some [0, 35], []⟩
  | 4 => ⟨some [0], []⟩
  | 5 => ⟨some [0, 40], []⟩
  | 6 => ⟨some [2, 3], []⟩
  | 7 => ⟨some [2, 3], []⟩
  | _ => ⟨none, []⟩
def reg41 : Nat → RegH
  | 0 => ⟨some [0, 1], []⟩
  | 1 => ⟨some [4], []⟩
  | _ => ⟨none, []⟩
def reg42 : Nat → RegH
  | 0 => ⟨some [1], []⟩
  | 1 => ⟨some [2], []⟩
  | _ => ⟨none, []⟩
def reg43 : Nat → RegH
  | 0 => ⟨some [1, 2], []⟩
  | 1 => ⟨some [3], []⟩
  | _ => ⟨none, []⟩
def reg44 : Nat → RegH
  | 0 => ⟨some [0, 1], []⟩
  | 1 => ⟨some [0, 1, 7, 8], []⟩
  | 2 => ⟨some [0, 1, 7, 8, 9], []⟩
  | 3 => ⟨some [0, 1, 5, 7, 8], []⟩
  | 4 => ⟨some [0, 1, 5, 7, 8, 16], []⟩
  | 5 => ⟨some [4], []⟩
  | 6 => ⟨some [0, 1, 7, 8], []⟩
  | 7 => ⟨some [4], []⟩
  | _ => ⟨none, []⟩
def regL : List (Nat × (Nat → RegH)) := [
   (2, reg2)
  , (3, reg3)
  , (4, reg4)
  , (5, reg5)
  , (6, reg6)
  , (7, reg7)
  , (8, reg8)
  , (9, reg9)
  , (10, reg10)
  , (11, reg11)
  , (12, reg12)
  , (13, reg13)
  , (14, reg14)
  , (15, reg15)
  , (16, reg16)
  , (17, reg17)
  , (18, reg18)
  , (19, reg19)
  , (20, reg20)
  , (21, reg21)
  , (22, reg22)
  , (23, reg23)
  , (24, reg24)
  , (25, reg25)
  , (26, reg26)
  , (27, reg27)
  , (28, reg28)
  , (29, reg29)
  , (30, reg30)
  , (31, reg31)
  , (32, reg32)
  , (33, reg33)
  , (34, reg34)
  , (35, reg35)
  , (36, reg36)
  , (37, reg37)
  , (38, reg38)
  , (39, reg39)
  , (40, reg40)
  , (41, reg41)
  , (42, reg42)
  , (43, reg43)
  , (44, reg44)
]
def skipL : List Nat := []
def extL : List Nat := []
/-- What is given besides the text: variables that are laid, and functions that are told apart. -/
structure GE where
  glob : Nat → Option (List D)
  ext : FuncId → List V → Option Ret
noncomputable def envG (G : GE) : Env := { tt := fun t => assoc t ttL, glob := G.glob, lin := fun f => (assoc f linL).getD [], live := fun f k => (assoc k ((assoc f liveL).getD [])).getD [], fns := fun f => match hasNat f skipL with | true => none | false => Try.prog.funcs[f]?, ext := fun f args => match hasNat f extL with | true => G.ext f args | false => none, reg := fun f => (assoc f regL).getD (fun _ => ⟨none, []⟩) }

theorem envOk (G : GE) (hG : ∀ f args r, G.ext f args = some r → Sound Try.prog G.glob f args r) : EnvOk Try.prog (envG G) := by
  refine ⟨ttOk_of (by kernel_rfl) (by kernel_rfl), fnsOk_skip (P := Try.prog) (live := (envG G).live) (skip := skipL) (by kernel_rfl), by kernel_rfl, fun f args r h => ?_, (fun f args bs bo r h => by cases h)⟩
  simp only [envG] at h
  split at h
  · exact hG f args r h
  · cases h

@[simp] theorem tt1 (G : GE) : (envG G).tt 1 = some { k := .fn, size := 1, bytes := 8, zero := [.nilfn], cmp := false, eq := true } := by kernel_rfl
@[simp] theorem tt2 (G : GE) : (envG G).tt 2 = some { k := (.int .i64), size := 1, bytes := 8, zero := [(.int .i64 (0))], cmp := true, eq := true } := by kernel_rfl
@[simp] theorem tt3 (G : GE) : (envG G).tt 3 = some { k := (.int .i64), size := 1, bytes := 8, zero := [(.int .i64 (0))], cmp := true, eq := true } := by kernel_rfl
@[simp] theorem tt4 (G : GE) : (envG G).tt 4 = some { k := .bool, size := 1, bytes := 1, zero := [(.bool false)], cmp := true, eq := true } := by kernel_rfl
@[simp] theorem tt5 (G : GE) : (envG G).tt 5 = some { k := (.int .u8), size := 1, bytes := 1, zero := [(.int .u8 (0))], cmp := true, eq := true } := by kernel_rfl
@[simp] theorem tt6 (G : GE) : (envG G).tt 6 = some { k := (.int .u8), size := 1, bytes := 1, zero := [(.int .u8 (0))], cmp := true, eq := true } := by kernel_rfl
@[simp] theorem tt7 (G : GE) : (envG G).tt 7 = some { k := (.struct [(0, 2), (1, 3), (2, 4), (3, 6)]), size := 4, bytes := 24, zero := [(.int .i64 (0)), (.int .i64 (0)), (.bool false), (.int .u8 (0))], cmp := true, eq := true } := by kernel_rfl
@[simp] theorem tt8 (G : GE) : (envG G).tt 8 = some { k := (.struct [(0, 2), (1, 3), (2, 4), (3, 6)]), size := 4, bytes := 24, zero := [(.int .i64 (0)), (.int .i64 (0)), (.bool false), (.int .u8 (0))], cmp := true, eq := true } := by kernel_rfl
@[simp] theorem tt9 (G : GE) : (envG G).tt 9 = some { k := .str, size := 1, bytes := 16, zero := [(.str [])], cmp := true, eq := true } := by kernel_rfl
@[simp] theorem tt10 (G : GE) : (envG G).tt 10 = some { k := .str, size := 1, bytes := 16, zero := [(.str [])], cmp := true, eq := true } := by kernel_rfl
@[simp] theorem tt11 (G : GE) : (envG G).tt 11 = some { k := .str, size := 1, bytes := 16, zero := [(.str [])], cmp := true, eq := true } := by kernel_rfl
@[simp] theorem tt12 (G : GE) : (envG G).tt 12 = some { k := (.int .u64), size := 1, bytes := 8, zero := [(.int .u64 (0))], cmp := true, eq := true } := by kernel_rfl
@[simp] theorem tt15 (G : GE) : (envG G).tt 15 = some { k := .ptr, size := 1, bytes := 8, zero := [.nilptr], cmp := true, eq := true } := by kernel_rfl
@[simp] theorem tt16 (G : GE) : (envG G).tt 16 = some { k := .ptr, size := 1, bytes := 8, zero := [.nilptr], cmp := true, eq := true } := by kernel_rfl
@[simp] theorem tt17 (G : GE) : (envG G).tt 17 = some { k := .ptr, size := 1, bytes := 8, zero := [.nilptr], cmp := true, eq := true } := by kernel_rfl
@[simp] theorem tt20 (G : GE) : (envG G).tt 20 = some { k := .iface, size := 1, bytes := 16, zero := [.nilifc], cmp := true, eq := true } := by kernel_rfl
@[simp] theorem tt21 (G : GE) : (envG G).tt 21 = some { k := (.int .i32), size := 1, bytes := 4, zero := [(.int .i32 (0))], cmp := true, eq := true } := by kernel_rfl
@[simp] theorem tt22 (G : GE) : (envG G).tt 22 = some { k := (.slice 5), size := 1, bytes := 24, zero := [(.nums .u8 true [])], cmp := false, eq := true } := by kernel_rfl
@[simp] theorem tt23 (G : GE) : (envG G).tt 23 = some { k := (.struct [(0, 3), (1, 3), (2, 3), (3, 3), (4, 22), (5, 22), (6, 22)]), size := 7, bytes := 104, zero := [(.int .i64 (0)), (.int .i64 (0)), (.int .i64 (0)), (.int .i64 (0)), (.nums .u8 true []), (.nums .u8 true []), (.nums .u8 true [])], cmp := false, eq := true } := by kernel_rfl
@[simp] theorem tt24 (G : GE) : (envG G).tt 24 = some { k := (.struct [(0, 3), (1, 3), (2, 3), (3, 3), (4, 22), (5, 22), (6, 22)]), size := 7, bytes := 104, zero := [(.int .i64 (0)), (.int .i64 (0)), (.int .i64 (0)), (.int .i64 (0)), (.nums .u8 true []), (.nums .u8 true []), (.nums .u8 true [])], cmp := false, eq := true } := by kernel_rfl
@[simp] theorem tt25 (G : GE) : (envG G).tt 25 = some { k := .fn, size := 1, bytes := 8, zero := [.nilfn], cmp := false, eq := true } := by kernel_rfl
@[simp] theorem tt26 (G : GE) : (envG G).tt 26 = some { k := .iface, size := 1, bytes := 16, zero := [.nilifc], cmp := true, eq := true } := by kernel_rfl
@[simp] theorem tt27 (G : GE) : (envG G).tt 27 = some { k := .iface, size := 1, bytes := 16, zero := [.nilifc], cmp := true, eq := true } := by kernel_rfl
@[simp] theorem tt28 (G : GE) : (envG G).tt 28 = some { k := .fn, size := 1, bytes := 8, zero := [.nilfn], cmp := false, eq := true } := by kernel_rfl
@[simp] theorem tt29 (G : GE) : (envG G).tt 29 = some { k := (.int .i64), size := 1, bytes := 8, zero := [(.int .i64 (0))], cmp := true, eq := true } := by kernel_rfl
@[simp] theorem tt30 (G : GE) : (envG G).tt 30 = some { k := .fn, size := 1, bytes := 8, zero := [.nilfn], cmp := false, eq := true } := by kernel_rfl
@[simp] theorem tt32 (G : GE) : (envG G).tt 32 = some { k := .fn, size := 1, bytes := 8, zero := [.nilfn], cmp := false, eq := true } := by kernel_rfl
@[simp] theorem tt34 (G : GE) : (envG G).tt 34 = some { k := .fn, size := 1, bytes := 8, zero := [.nilfn], cmp := false, eq := true } := by kernel_rfl
@[simp] theorem tt35 (G : GE) : (envG G).tt 35 = some { k := .fn, size := 1, bytes := 8, zero := [.nilfn], cmp := false, eq := true } := by kernel_rfl
@[simp] theorem tt37 (G : GE) : (envG G).tt 37 = some { k := .fn, size := 1, bytes := 8, zero := [.nilfn], cmp := false, eq := true } := by kernel_rfl
@[simp] theorem tt38 (G : GE) : (envG G).tt 38 = some { k := .fn, size := 1, bytes := 8, zero := [.nilfn], cmp := false, eq := true } := by kernel_rfl
@[simp] theorem tt39 (G : GE) : (envG G).tt 39 = some { k := .fn, size := 1, bytes := 8, zero := [.nilfn], cmp := false, eq := true } := by kernel_rfl
@[simp] theorem tt40 (G : GE) : (envG G).tt 40 = some { k := (.slice 42), size := 1, bytes := 24, zero := [(.sl 5 true [])], cmp := false, eq := true } := by kernel_rfl
@[simp] theorem tt41 (G : GE) : (envG G).tt 41 = some { k := (.struct [(0, 3), (1, 3), (2, 4), (3, 22), (4, 40)]), size := 5, bytes := 72, zero := [(.int .i64 (0)), (.int .i64 (0)), (.bool false), (.nums .u8 true []), (.sl 5 true [])], cmp := false, eq := true } := by kernel_rfl
@[simp] theorem tt42 (G : GE) : (envG G).tt 42 = some { k := (.struct [(0, 3), (1, 3), (2, 4), (3, 22), (4, 40)]), size := 5, bytes := 72, zero := [(.int .i64 (0)), (.int .i64 (0)), (.bool false), (.nums .u8 true []), (.sl 5 true [])], cmp := false, eq := true } := by kernel_rfl
@[simp] theorem tt43 (G : GE) : (envG G).tt 43 = some { k := .fn, size := 1, bytes := 8, zero := [.nilfn], cmp := false, eq := true } := by kernel_rfl
@[simp] theorem tt44 (G : GE) : (envG G).tt 44 = some { k := (.slice 3), size := 1, bytes := 24, zero := [(.nums .i64 true [])], cmp := false, eq := true } := by kernel_rfl
@[simp] theorem tt46 (G : GE) : (envG G).tt 46 = some { k := .fn, size := 1, bytes := 8, zero := [.nilfn], cmp := false, eq := true } := by kernel_rfl
@[simp] theorem tt47 (G : GE) : (envG G).tt 47 = some { k := (.slice 22), size := 1, bytes := 24, zero := [(.sl 1 true [])], cmp := false, eq := true } := by kernel_rfl
@[simp] theorem tt48 (G : GE) : (envG G).tt 48 = some { k := .fn, size := 1, bytes := 8, zero := [.nilfn], cmp := false, eq := true } := by kernel_rfl
@[simp] theorem tt49 (G : GE) : (envG G).tt 49 = some { k := .fn, size := 1, bytes := 8, zero := [.nilfn], cmp := false, eq := true } := by kernel_rfl
@[simp] theorem tt50 (G : GE) : (envG G).tt 50 = some { k := .fn, size := 1, bytes := 8, zero := [.nilfn], cmp := false, eq := true } := by kernel_rfl
@[simp] theorem tt51 (G : GE) : (envG G).tt 51 = some { k := .fn, size := 1, bytes := 8, zero := [.nilfn], cmp := false, eq := true } := by kernel_rfl
@[simp] theorem tt52 (G : GE) : (envG G).tt 52 = some { k := .fn, size := 1, bytes := 8, zero := [.nilfn], cmp := false, eq := true } := by kernel_rfl
@[simp] theorem tt53 (G : GE) : (envG G).tt 53 = some { k := .fn, size := 1, bytes := 8, zero := [.nilfn], cmp := false, eq := true } := by kernel_rfl
@[simp] theorem tt54 (G : GE) : (envG G).tt 54 = some { k := .fn, size := 1, bytes := 8, zero := [.nilfn], cmp := false, eq := true } := by kernel_rfl
@[simp] theorem tt55 (G : GE) : (envG G).tt 55 = some { k := .ptr, size := 1, bytes := 8, zero := [.nilptr], cmp := true, eq := true } := by kernel_rfl
@[simp] theorem tt56 (G : GE) : (envG G).tt 56 = some { k := (.slice 55), size := 1, bytes := 24, zero := [(.sl 1 true [])], cmp := false, eq := true } := by kernel_rfl
@[simp] theorem tt58 (G : GE) : (envG G).tt 58 = some { k := .fn, size := 1, bytes := 8, zero := [.nilfn], cmp := false, eq := true } := by kernel_rfl
@[simp] theorem tt59 (G : GE) : (envG G).tt 59 = some { k := .ptr, size := 1, bytes := 8, zero := [.nilptr], cmp := true, eq := true } := by kernel_rfl
@[simp] theorem tt60 (G : GE) : (envG G).tt 60 = some { k := (.slice 59), size := 1, bytes := 24, zero := [(.sl 1 true [])], cmp := false, eq := true } := by kernel_rfl
@[simp] theorem tt61 (G : GE) : (envG G).tt 61 = some { k := .fn, size := 1, bytes := 8, zero := [.nilfn], cmp := false, eq := true } := by kernel_rfl
@[simp] theorem tt63 (G : GE) : (envG G).tt 63 = some { k := .fn, size := 1, bytes := 8, zero := [.nilfn], cmp := false, eq := true } := by kernel_rfl
@[simp] theorem tt64 (G : GE) : (envG G).tt 64 = some { k := .fn, size := 1, bytes := 8, zero := [.nilfn], cmp := false, eq := true } := by kernel_rfl
@[simp] theorem tt65 (G : GE) : (envG G).tt 65 = some { k := .fn, size := 1, bytes := 8, zero := [.nilfn], cmp := false, eq := true } := by kernel_rfl
@[simp] theorem tt66 (G : GE) : (envG G).tt 66 = some { k := .fn, size := 1, bytes := 8, zero := [.nilfn], cmp := false, eq := true } := by kernel_rfl
@[simp] theorem tt67 (G : GE) : (envG G).tt 67 = some { k := .fn, size := 1, bytes := 8, zero := [.nilfn], cmp := false, eq := true } := by kernel_rfl
@[simp] theorem tt68 (G : GE) : (envG G).tt 68 = some { k := .fn, size := 1, bytes := 8, zero := [.nilfn], cmp := false, eq := true } := by kernel_rfl
@[simp] theorem tt70 (G : GE) : (envG G).tt 70 = some { k := (.struct [(0, 22)]), size := 1, bytes := 24, zero := [(.nums .u8 true [])], cmp := false, eq := true } := by kernel_rfl
@[simp] theorem tt71 (G : GE) : (envG G).tt 71 = some { k := (.struct [(0, 22)]), size := 1, bytes := 24, zero := [(.nums .u8 true [])], cmp := false, eq := true } := by kernel_rfl
@[simp] theorem tt72 (G : GE) : (envG G).tt 72 = some { k := .fn, size := 1, bytes := 8, zero := [.nilfn], cmp := false, eq := true } := by kernel_rfl
@[simp] theorem tt73 (G : GE) : (envG G).tt 73 = some { k := .fn, size := 1, bytes := 8, zero := [.nilfn], cmp := false, eq := true } := by kernel_rfl
@[simp] theorem tt74 (G : GE) : (envG G).tt 74 = some { k := .fn, size := 1, bytes := 8, zero := [.nilfn], cmp := false, eq := true } := by kernel_rfl
@[simp] theorem tt75 (G : GE) : (envG G).tt 75 = some { k := .fn, size := 1, bytes := 8, zero := [.nilfn], cmp := false, eq := true } := by kernel_rfl
@[simp] theorem tt76 (G : GE) : (envG G).tt 76 = some { k := (.int .u64), size := 1, bytes := 8, zero := [(.int .u64 (0))], cmp := true, eq := true } := by kernel_rfl
@[simp] theorem tt77 (G : GE) : (envG G).tt 77 = some { k := .fn, size := 1, bytes := 8, zero := [.nilfn], cmp := false, eq := true } := by kernel_rfl
@[simp] theorem tt79 (G : GE) : (envG G).tt 79 = some { k := .fn, size := 1, bytes := 8, zero := [.nilfn], cmp := false, eq := true } := by kernel_rfl
@[simp] theorem tt80 (G : GE) : (envG G).tt 80 = some { k := .fn, size := 1, bytes := 8, zero := [.nilfn], cmp := false, eq := true } := by kernel_rfl
@[simp] theorem tt81 (G : GE) : (envG G).tt 81 = some { k := .ptr, size := 1, bytes := 8, zero := [.nilptr], cmp := true, eq := true } := by kernel_rfl
@[simp] theorem tt82 (G : GE) : (envG G).tt 82 = some { k := (.struct [(0, 3), (1, 27)]), size := 2, bytes := 24, zero := [(.int .i64 (0)), .nilifc], cmp := true, eq := false } := by kernel_rfl
@[simp] theorem tt83 (G : GE) : (envG G).tt 83 = some { k := (.struct [(0, 3), (1, 27)]), size := 2, bytes := 24, zero := [(.int .i64 (0)), .nilifc], cmp := true, eq := false } := by kernel_rfl
@[simp] theorem tt84 (G : GE) : (envG G).tt 84 = some { k := .fn, size := 1, bytes := 8, zero := [.nilfn], cmp := false, eq := true } := by kernel_rfl
@[simp] theorem tt85 (G : GE) : (envG G).tt 85 = some { k := .fn, size := 1, bytes := 8, zero := [.nilfn], cmp := false, eq := true } := by kernel_rfl
@[simp] theorem tt86 (G : GE) : (envG G).tt 86 = some { k := .fn, size := 1, bytes := 8, zero := [.nilfn], cmp := false, eq := true } := by kernel_rfl
@[simp] theorem tt89 (G : GE) : (envG G).tt 89 = some { k := (.arr 0 16), size := 0, bytes := 0, zero := [], cmp := true, eq := true } := by kernel_rfl
@[simp] theorem tt92 (G : GE) : (envG G).tt 92 = some { k := .fn, size := 1, bytes := 8, zero := [.nilfn], cmp := false, eq := true } := by kernel_rfl
@[simp] theorem tt93 (G : GE) : (envG G).tt 93 = some { k := (.int .u32), size := 1, bytes := 4, zero := [(.int .u32 (0))], cmp := true, eq := true } := by kernel_rfl
@[simp] theorem tt94 (G : GE) : (envG G).tt 94 = some { k := (.int .u8), size := 1, bytes := 1, zero := [(.int .u8 (0))], cmp := true, eq := true } := by kernel_rfl
@[simp] theorem tt95 (G : GE) : (envG G).tt 95 = some { k := (.int .u8), size := 1, bytes := 1, zero := [(.int .u8 (0))], cmp := true, eq := true } := by kernel_rfl
@[simp] theorem tt96 (G : GE) : (envG G).tt 96 = some { k := .fn, size := 1, bytes := 8, zero := [.nilfn], cmp := false, eq := true } := by kernel_rfl
@[simp] theorem tt97 (G : GE) : (envG G).tt 97 = some { k := .ptr, size := 1, bytes := 8, zero := [.nilptr], cmp := true, eq := true } := by kernel_rfl
@[simp] theorem tt98 (G : GE) : (envG G).tt 98 = some { k := (.int .i32), size := 1, bytes := 4, zero := [(.int .i32 (0))], cmp := true, eq := true } := by kernel_rfl
@[simp] theorem tt99 (G : GE) : (envG G).tt 99 = some { k := (.int .i32), size := 1, bytes := 4, zero := [(.int .i32 (0))], cmp := true, eq := true } := by kernel_rfl
end Go.Proofs.Ytjmcgdhekjkjfaa
