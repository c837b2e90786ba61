/- The machine over values at this program: its types and functions. Printed by program. -/
import Derived.Test.YtjmcgdhekjkjfaaDoorVMU
import Derived.Test.YtjmcgdhekjkjfaaDoorProg
import Derived.KernelRfl
namespace Go.Proofs.YtjmcgdhekjkjfaaDoor
open Go Go.VM

def ttL : List (Nat × TI) := [
   (1, { k := .fn, size := 1, bytes := 8, zero := [.nilfn], cmp := false, eq := true })
  , (2, { k := (.int .i64), size := 1, bytes := 8, zero := [(.int .i64 (0))], cmp := true, eq := true })
  , (3, { k := (.int .i64), size := 1, bytes := 8, zero := [(.int .i64 (0))], cmp := true, eq := true })
  , (4, { k := .bool, size := 1, bytes := 1, zero := [(.bool false)], cmp := true, eq := true })
  , (5, { k := (.int .u8), size := 1, bytes := 1, zero := [(.int .u8 (0))], cmp := true, eq := true })
  , (6, { k := (.int .u8), size := 1, bytes := 1, zero := [(.int .u8 (0))], cmp := true, eq := true })
  , (7, { k := (.struct [(0, 2), (1, 3), (2, 4), (3, 6)]), size := 4, bytes := 24, zero := [(.int .i64 (0)), (.int .i64 (0)), (.bool false), (.int .u8 (0))], cmp := true, eq := true })
  , (8, { k := (.struct [(0, 2), (1, 3), (2, 4), (3, 6)]), size := 4, bytes := 24, zero := [(.int .i64 (0)), (.int .i64 (0)), (.bool false), (.int .u8 (0))], cmp := true, eq := true })
  , (9, { k := .str, size := 1, bytes := 16, zero := [(.str [])], cmp := true, eq := true })
  , (10, { k := .str, size := 1, bytes := 16, zero := [(.str [])], cmp := true, eq := true })
  , (11, { k := .str, size := 1, bytes := 16, zero := [(.str [])], cmp := true, eq := true })
  , (12, { k := (.int .u64), size := 1, bytes := 8, zero := [(.int .u64 (0))], cmp := true, eq := true })
  , (15, { k := .ptr, size := 1, bytes := 8, zero := [.nilptr], cmp := true, eq := true })
  , (16, { k := .ptr, size := 1, bytes := 8, zero := [.nilptr], cmp := true, eq := true })
  , (17, { k := .ptr, size := 1, bytes := 8, zero := [.nilptr], cmp := true, eq := true })
  , (20, { k := .iface, size := 1, bytes := 16, zero := [.nilifc], cmp := true, eq := true })
  , (21, { k := (.int .i32), size := 1, bytes := 4, zero := [(.int .i32 (0))], cmp := true, eq := true })
  , (22, { k := (.slice 5), size := 1, bytes := 24, zero := [(.nums .u8 true [])], cmp := false, eq := true })
  , (23, { k := .fn, size := 1, bytes := 8, zero := [.nilfn], cmp := false, eq := true })
  , (24, { k := (.slice 26), size := 1, bytes := 24, zero := [(.sl 5 true [])], cmp := false, eq := true })
  , (25, { k := (.struct [(0, 3), (1, 3), (2, 4), (3, 22), (4, 24)]), size := 5, bytes := 72, zero := [(.int .i64 (0)), (.int .i64 (0)), (.bool false), (.nums .u8 true []), (.sl 5 true [])], cmp := false, eq := true })
  , (26, { k := (.struct [(0, 3), (1, 3), (2, 4), (3, 22), (4, 24)]), size := 5, bytes := 72, zero := [(.int .i64 (0)), (.int .i64 (0)), (.bool false), (.nums .u8 true []), (.sl 5 true [])], cmp := false, eq := true })
  , (27, { k := .iface, size := 1, bytes := 16, zero := [.nilifc], cmp := true, eq := true })
  , (28, { k := .iface, size := 1, bytes := 16, zero := [.nilifc], cmp := true, eq := true })
  , (30, { k := .fn, size := 1, bytes := 8, zero := [.nilfn], cmp := false, eq := true })
  , (32, { k := .fn, size := 1, bytes := 8, zero := [.nilfn], cmp := false, eq := true })
  , (33, { k := .fn, size := 1, bytes := 8, zero := [.nilfn], cmp := false, eq := true })
  , (34, { k := .fn, size := 1, bytes := 8, zero := [.nilfn], cmp := false, eq := true })
  , (35, { k := .fn, size := 1, bytes := 8, zero := [.nilfn], cmp := false, eq := true })
  , (36, { k := (.int .i64), size := 1, bytes := 8, zero := [(.int .i64 (0))], cmp := true, eq := true })
  , (37, { k := .fn, size := 1, bytes := 8, zero := [.nilfn], cmp := false, eq := true })
  , (39, { k := .fn, size := 1, bytes := 8, zero := [.nilfn], cmp := false, eq := true })
  , (40, { k := (.struct [(0, 3), (1, 3), (2, 3), (3, 3), (4, 22), (5, 22), (6, 22)]), size := 7, bytes := 104, zero := [(.int .i64 (0)), (.int .i64 (0)), (.int .i64 (0)), (.int .i64 (0)), (.nums .u8 true []), (.nums .u8 true []), (.nums .u8 true [])], cmp := false, eq := true })
  , (41, { k := (.struct [(0, 3), (1, 3), (2, 3), (3, 3), (4, 22), (5, 22), (6, 22)]), size := 7, bytes := 104, zero := [(.int .i64 (0)), (.int .i64 (0)), (.int .i64 (0)), (.int .i64 (0)), (.nums .u8 true []), (.nums .u8 true []), (.nums .u8 true [])], cmp := false, eq := true })
  , (43, { k := .fn, size := 1, bytes := 8, zero := [.nilfn], cmp := false, eq := true })
  , (44, { k := .fn, size := 1, bytes := 8, zero := [.nilfn], cmp := false, eq := true })
  , (45, { k := .fn, size := 1, bytes := 8, zero := [.nilfn], cmp := false, eq := true })
  , (47, { k := .fn, size := 1, bytes := 8, zero := [.nilfn], cmp := false, eq := true })
  , (48, { k := (.slice 55), size := 1, bytes := 24, zero := [(.sl 3 true [])], cmp := false, eq := true })
  , (49, { k := .fn, size := 1, bytes := 8, zero := [.nilfn], cmp := false, eq := true })
  , (50, { k := .ptr, size := 1, bytes := 8, zero := [.nilptr], cmp := true, eq := true })
  , (52, { k := .fn, size := 1, bytes := 8, zero := [.nilfn], cmp := false, eq := true })
  , (53, { k := (.int .u64), size := 1, bytes := 8, zero := [(.int .u64 (0))], cmp := true, eq := true })
  , (54, { k := (.struct [(0, 3), (1, 3), (2, 22)]), size := 3, bytes := 40, zero := [(.int .i64 (0)), (.int .i64 (0)), (.nums .u8 true [])], cmp := false, eq := true })
  , (55, { k := (.struct [(0, 3), (1, 3), (2, 22)]), size := 3, bytes := 40, zero := [(.int .i64 (0)), (.int .i64 (0)), (.nums .u8 true [])], cmp := false, eq := true })
  , (56, { k := .fn, size := 1, bytes := 8, zero := [.nilfn], cmp := false, eq := true })
  , (57, { k := .fn, size := 1, bytes := 8, zero := [.nilfn], cmp := false, eq := true })
  , (58, { k := .fn, size := 1, bytes := 8, zero := [.nilfn], cmp := false, eq := true })
  , (59, { k := .fn, size := 1, bytes := 8, zero := [.nilfn], cmp := false, eq := true })
  , (60, { k := .fn, size := 1, bytes := 8, zero := [.nilfn], cmp := false, eq := true })
  , (61, { k := .fn, size := 1, bytes := 8, zero := [.nilfn], cmp := false, eq := true })
  , (62, { k := .fn, size := 1, bytes := 8, zero := [.nilfn], cmp := false, eq := true })
  , (63, { k := (.arr 6 53), size := 6, bytes := 48, zero := [(.int .u64 (0)), (.int .u64 (0)), (.int .u64 (0)), (.int .u64 (0)), (.int .u64 (0)), (.int .u64 (0))], cmp := true, eq := true })
  , (64, { k := (.arr 6 53), size := 6, bytes := 48, zero := [(.int .u64 (0)), (.int .u64 (0)), (.int .u64 (0)), (.int .u64 (0)), (.int .u64 (0)), (.int .u64 (0))], cmp := true, eq := true })
  , (65, { k := (.struct [(0, 64), (6, 64)]), size := 12, bytes := 96, zero := [(.int .u64 (0)), (.int .u64 (0)), (.int .u64 (0)), (.int .u64 (0)), (.int .u64 (0)), (.int .u64 (0)), (.int .u64 (0)), (.int .u64 (0)), (.int .u64 (0)), (.int .u64 (0)), (.int .u64 (0)), (.int .u64 (0))], cmp := true, eq := true })
  , (66, { k := (.struct [(0, 64), (6, 64)]), size := 12, bytes := 96, zero := [(.int .u64 (0)), (.int .u64 (0)), (.int .u64 (0)), (.int .u64 (0)), (.int .u64 (0)), (.int .u64 (0)), (.int .u64 (0)), (.int .u64 (0)), (.int .u64 (0)), (.int .u64 (0)), (.int .u64 (0)), (.int .u64 (0))], cmp := true, eq := true })
  , (67, { k := .fn, size := 1, bytes := 8, zero := [.nilfn], cmp := false, eq := true })
  , (68, { k := .fn, size := 1, bytes := 8, zero := [.nilfn], cmp := false, eq := true })
  , (70, { k := .fn, size := 1, bytes := 8, zero := [.nilfn], cmp := false, eq := true })
  , (71, { k := .fn, size := 1, bytes := 8, zero := [.nilfn], cmp := false, eq := true })
  , (72, { k := (.slice 53), size := 1, bytes := 24, zero := [(.nums .u64 true [])], cmp := false, eq := true })
  , (73, { k := (.slice 53), size := 1, bytes := 24, zero := [(.nums .u64 true [])], cmp := false, eq := true })
  , (74, { k := .fn, size := 1, bytes := 8, zero := [.nilfn], cmp := false, eq := true })
  , (75, { k := .fn, size := 1, bytes := 8, zero := [.nilfn], cmp := false, eq := true })
  , (77, { k := .fn, size := 1, bytes := 8, zero := [.nilfn], cmp := false, eq := true })
  , (78, { k := .fn, size := 1, bytes := 8, zero := [.nilfn], cmp := false, eq := true })
  , (80, { k := .fn, size := 1, bytes := 8, zero := [.nilfn], cmp := false, eq := true })
  , (81, { k := .fn, size := 1, bytes := 8, zero := [.nilfn], cmp := false, eq := true })
  , (82, { k := .fn, size := 1, bytes := 8, zero := [.nilfn], cmp := false, eq := true })
  , (83, { k := .fn, size := 1, bytes := 8, zero := [.nilfn], cmp := false, eq := true })
  , (84, { k := .fn, size := 1, bytes := 8, zero := [.nilfn], cmp := false, eq := true })
  , (85, { k := .fn, size := 1, bytes := 8, zero := [.nilfn], cmp := false, eq := true })
  , (87, { k := .fn, size := 1, bytes := 8, zero := [.nilfn], cmp := false, eq := true })
  , (88, { k := .fn, size := 1, bytes := 8, zero := [.nilfn], cmp := false, eq := true })
  , (89, { k := (.struct [(0, 64), (6, 64), (12, 4)]), size := 13, bytes := 104, zero := [(.int .u64 (0)), (.int .u64 (0)), (.int .u64 (0)), (.int .u64 (0)), (.int .u64 (0)), (.int .u64 (0)), (.int .u64 (0)), (.int .u64 (0)), (.int .u64 (0)), (.int .u64 (0)), (.int .u64 (0)), (.int .u64 (0)), (.bool false)], cmp := true, eq := true })
  , (90, { k := (.struct [(0, 64), (6, 64), (12, 4)]), size := 13, bytes := 104, zero := [(.int .u64 (0)), (.int .u64 (0)), (.int .u64 (0)), (.int .u64 (0)), (.int .u64 (0)), (.int .u64 (0)), (.int .u64 (0)), (.int .u64 (0)), (.int .u64 (0)), (.int .u64 (0)), (.int .u64 (0)), (.int .u64 (0)), (.bool false)], cmp := true, eq := true })
  , (91, { k := .fn, size := 1, bytes := 8, zero := [.nilfn], cmp := false, eq := true })
  , (92, { k := .fn, size := 1, bytes := 8, zero := [.nilfn], cmp := false, eq := true })
  , (93, { k := .fn, size := 1, bytes := 8, zero := [.nilfn], cmp := false, eq := true })
  , (94, { k := .fn, size := 1, bytes := 8, zero := [.nilfn], cmp := false, eq := true })
  , (96, { k := (.struct [(0, 22)]), size := 1, bytes := 24, zero := [(.nums .u8 true [])], cmp := false, eq := true })
  , (97, { k := (.struct [(0, 22)]), size := 1, bytes := 24, zero := [(.nums .u8 true [])], cmp := false, eq := true })
  , (98, { k := .fn, size := 1, bytes := 8, zero := [.nilfn], cmp := false, eq := true })
  , (99, { k := .fn, size := 1, bytes := 8, zero := [.nilfn], cmp := false, eq := true })
  , (100, { k := .ptr, size := 1, bytes := 8, zero := [.nilptr], cmp := true, eq := true })
  , (101, { k := (.struct [(0, 22), (1, 3), (2, 3)]), size := 3, bytes := 40, zero := [(.nums .u8 true []), (.int .i64 (0)), (.int .i64 (0))], cmp := false, eq := true })
  , (102, { k := (.struct [(0, 22), (1, 3), (2, 3)]), size := 3, bytes := 40, zero := [(.nums .u8 true []), (.int .i64 (0)), (.int .i64 (0))], cmp := false, eq := true })
  , (104, { k := .fn, size := 1, bytes := 8, zero := [.nilfn], cmp := false, eq := true })
  , (105, { k := .ptr, size := 1, bytes := 8, zero := [.nilptr], cmp := true, eq := true })
  , (106, { k := .fn, size := 1, bytes := 8, zero := [.nilfn], cmp := false, eq := true })
  , (107, { k := .ptr, size := 1, bytes := 8, zero := [.nilptr], cmp := true, eq := true })
  , (108, { k := (.struct [(0, 3), (1, 28)]), size := 2, bytes := 24, zero := [(.int .i64 (0)), .nilifc], cmp := true, eq := false })
  , (109, { k := (.struct [(0, 3), (1, 28)]), size := 2, bytes := 24, zero := [(.int .i64 (0)), .nilifc], cmp := true, eq := false })
  , (111, { k := .fn, size := 1, bytes := 8, zero := [.nilfn], cmp := false, eq := true })
  , (112, { k := .fn, size := 1, bytes := 8, zero := [.nilfn], cmp := false, eq := true })
  , (113, { k := .fn, size := 1, bytes := 8, zero := [.nilfn], cmp := false, eq := true })
  , (114, { k := .fn, size := 1, bytes := 8, zero := [.nilfn], cmp := false, eq := true })
  , (115, { k := .ptr, size := 1, bytes := 8, zero := [.nilptr], cmp := true, eq := true })
  , (116, { k := (.slice 115), size := 1, bytes := 24, zero := [(.sl 1 true [])], cmp := false, eq := true })
  , (118, { k := .fn, size := 1, bytes := 8, zero := [.nilfn], cmp := false, eq := true })
  , (119, { k := (.slice 3), size := 1, bytes := 24, zero := [(.nums .i64 true [])], cmp := false, eq := true })
  , (120, { k := .ptr, size := 1, bytes := 8, zero := [.nilptr], cmp := true, eq := true })
  , (121, { k := (.slice 120), size := 1, bytes := 24, zero := [(.sl 1 true [])], cmp := false, eq := true })
  , (122, { k := .fn, size := 1, bytes := 8, zero := [.nilfn], cmp := false, eq := true })
  , (123, { k := .fn, size := 1, bytes := 8, zero := [.nilfn], cmp := false, eq := true })
  , (124, { k := .fn, size := 1, bytes := 8, zero := [.nilfn], cmp := false, eq := true })
  , (125, { k := (.arr 2 22), size := 2, bytes := 48, zero := [(.nums .u8 true []), (.nums .u8 true [])], cmp := false, eq := true })
  , (126, { k := (.struct [(0, 125), (2, 22), (3, 53), (4, 4), (5, 3), (6, 3)]), size := 7, bytes := 104, zero := [(.nums .u8 true []), (.nums .u8 true []), (.nums .u8 true []), (.int .u64 (0)), (.bool false), (.int .i64 (0)), (.int .i64 (0))], cmp := false, eq := true })
  , (127, { k := (.struct [(0, 125), (2, 22), (3, 53), (4, 4), (5, 3), (6, 3)]), size := 7, bytes := 104, zero := [(.nums .u8 true []), (.nums .u8 true []), (.nums .u8 true []), (.int .u64 (0)), (.bool false), (.int .i64 (0)), (.int .i64 (0))], cmp := false, eq := true })
  , (128, { k := .fn, size := 1, bytes := 8, zero := [.nilfn], cmp := false, eq := true })
  , (129, { k := .fn, size := 1, bytes := 8, zero := [.nilfn], cmp := false, eq := true })
  , (130, { k := .fn, size := 1, bytes := 8, zero := [.nilfn], cmp := false, eq := true })
  , (131, { k := .fn, size := 1, bytes := 8, zero := [.nilfn], cmp := false, eq := true })
  , (132, { k := .fn, size := 1, bytes := 8, zero := [.nilfn], cmp := false, eq := true })
  , (133, { k := .fn, size := 1, bytes := 8, zero := [.nilfn], cmp := false, eq := true })
  , (134, { k := .fn, size := 1, bytes := 8, zero := [.nilfn], cmp := false, eq := true })
  , (135, { k := .fn, size := 1, bytes := 8, zero := [.nilfn], cmp := false, eq := true })
  , (137, { k := .fn, size := 1, bytes := 8, zero := [.nilfn], cmp := false, eq := true })
  , (138, { k := .fn, size := 1, bytes := 8, zero := [.nilfn], cmp := false, eq := true })
  , (139, { k := (.struct [(0, 64), (6, 64), (12, 64)]), size := 18, bytes := 144, zero := [(.int .u64 (0)), (.int .u64 (0)), (.int .u64 (0)), (.int .u64 (0)), (.int .u64 (0)), (.int .u64 (0)), (.int .u64 (0)), (.int .u64 (0)), (.int .u64 (0)), (.int .u64 (0)), (.int .u64 (0)), (.int .u64 (0)), (.int .u64 (0)), (.int .u64 (0)), (.int .u64 (0)), (.int .u64 (0)), (.int .u64 (0)), (.int .u64 (0))], cmp := true, eq := true })
  , (140, { k := (.struct [(0, 64), (6, 64), (12, 64)]), size := 18, bytes := 144, zero := [(.int .u64 (0)), (.int .u64 (0)), (.int .u64 (0)), (.int .u64 (0)), (.int .u64 (0)), (.int .u64 (0)), (.int .u64 (0)), (.int .u64 (0)), (.int .u64 (0)), (.int .u64 (0)), (.int .u64 (0)), (.int .u64 (0)), (.int .u64 (0)), (.int .u64 (0)), (.int .u64 (0)), (.int .u64 (0)), (.int .u64 (0)), (.int .u64 (0))], cmp := true, eq := true })
  , (141, { k := .fn, size := 1, bytes := 8, zero := [.nilfn], cmp := false, eq := true })
  , (142, { k := .fn, size := 1, bytes := 8, zero := [.nilfn], cmp := false, eq := true })
  , (143, { k := .fn, size := 1, bytes := 8, zero := [.nilfn], cmp := false, eq := true })
  , (144, { k := .fn, size := 1, bytes := 8, zero := [.nilfn], cmp := false, eq := true })
  , (145, { k := (.struct [(0, 64), (6, 53), (7, 64)]), size := 13, bytes := 104, zero := [(.int .u64 (0)), (.int .u64 (0)), (.int .u64 (0)), (.int .u64 (0)), (.int .u64 (0)), (.int .u64 (0)), (.int .u64 (0)), (.int .u64 (0)), (.int .u64 (0)), (.int .u64 (0)), (.int .u64 (0)), (.int .u64 (0)), (.int .u64 (0))], cmp := true, eq := true })
  , (146, { k := (.struct [(0, 64), (6, 53), (7, 64)]), size := 13, bytes := 104, zero := [(.int .u64 (0)), (.int .u64 (0)), (.int .u64 (0)), (.int .u64 (0)), (.int .u64 (0)), (.int .u64 (0)), (.int .u64 (0)), (.int .u64 (0)), (.int .u64 (0)), (.int .u64 (0)), (.int .u64 (0)), (.int .u64 (0)), (.int .u64 (0))], cmp := true, eq := true })
  , (148, { k := .fn, size := 1, bytes := 8, zero := [.nilfn], cmp := false, eq := true })
  , (149, { k := (.int .u64), size := 1, bytes := 8, zero := [(.int .u64 (0))], cmp := true, eq := true })
  , (151, { k := .fn, size := 1, bytes := 8, zero := [.nilfn], cmp := false, eq := true })
  , (152, { k := .fn, size := 1, bytes := 8, zero := [.nilfn], cmp := false, eq := true })
  , (154, { k := .fn, size := 1, bytes := 8, zero := [.nilfn], cmp := false, eq := true })
  , (156, { k := (.int .u64), size := 1, bytes := 8, zero := [(.int .u64 (0))], cmp := true, eq := true })
  , (159, { k := .fn, size := 1, bytes := 8, zero := [.nilfn], cmp := false, eq := true })
  , (160, { k := .iface, size := 1, bytes := 16, zero := [.nilifc], cmp := true, eq := true })
  , (161, { k := .iface, size := 1, bytes := 16, zero := [.nilifc], cmp := true, eq := true })
  , (162, { k := .fn, size := 1, bytes := 8, zero := [.nilfn], cmp := false, eq := true })
  , (163, { k := (.int .u8), size := 1, bytes := 1, zero := [(.int .u8 (0))], cmp := true, eq := true })
  , (164, { k := .fn, size := 1, bytes := 8, zero := [.nilfn], cmp := false, eq := true })
  , (165, { k := .fn, size := 1, bytes := 8, zero := [.nilfn], cmp := false, eq := true })
  , (166, { k := .fn, size := 1, bytes := 8, zero := [.nilfn], cmp := false, eq := true })
  , (167, { k := .fn, size := 1, bytes := 8, zero := [.nilfn], cmp := false, eq := true })
  , (168, { k := .fn, size := 1, bytes := 8, zero := [.nilfn], cmp := false, eq := true })
  , (169, { k := .fn, size := 1, bytes := 8, zero := [.nilfn], cmp := false, eq := true })
  , (170, { k := .fn, size := 1, bytes := 8, zero := [.nilfn], cmp := false, eq := true })
  , (171, { k := .fn, size := 1, bytes := 8, zero := [.nilfn], cmp := false, eq := true })
  , (172, { k := .fn, size := 1, bytes := 8, zero := [.nilfn], cmp := false, eq := true })
  , (173, { k := .fn, size := 1, bytes := 8, zero := [.nilfn], cmp := false, eq := true })
  , (175, { k := .fn, size := 1, bytes := 8, zero := [.nilfn], cmp := false, eq := true })
  , (176, { k := .fn, size := 1, bytes := 8, zero := [.nilfn], cmp := false, eq := true })
  , (177, { k := .fn, size := 1, bytes := 8, zero := [.nilfn], cmp := false, eq := true })
  , (178, { k := .fn, size := 1, bytes := 8, zero := [.nilfn], cmp := false, eq := true })
  , (179, { k := .fn, size := 1, bytes := 8, zero := [.nilfn], cmp := false, eq := true })
  , (180, { k := .fn, size := 1, bytes := 8, zero := [.nilfn], cmp := false, eq := true })
  , (181, { k := .fn, size := 1, bytes := 8, zero := [.nilfn], cmp := false, eq := true })
  , (182, { k := .fn, size := 1, bytes := 8, zero := [.nilfn], cmp := false, eq := true })
  , (183, { k := .fn, size := 1, bytes := 8, zero := [.nilfn], cmp := false, eq := true })
  , (184, { k := .fn, size := 1, bytes := 8, zero := [.nilfn], cmp := false, eq := true })
  , (186, { k := .fn, size := 1, bytes := 8, zero := [.nilfn], cmp := false, eq := true })
  , (187, { k := .fn, size := 1, bytes := 8, zero := [.nilfn], cmp := false, eq := true })
  , (190, { k := .ptr, size := 1, bytes := 8, zero := [.nilptr], cmp := true, eq := true })
  , (191, { k := .fn, size := 1, bytes := 8, zero := [.nilfn], cmp := false, eq := true })
  , (192, { k := .fn, size := 1, bytes := 8, zero := [.nilfn], cmp := false, eq := true })
  , (193, { k := .iface, size := 1, bytes := 16, zero := [.nilifc], cmp := true, eq := true })
  , (195, { k := .fn, size := 1, bytes := 8, zero := [.nilfn], cmp := false, eq := true })
  , (196, { k := .iface, size := 1, bytes := 16, zero := [.nilifc], cmp := true, eq := true })
  , (197, { k := .fn, size := 1, bytes := 8, zero := [.nilfn], cmp := false, eq := true })
  , (198, { k := .iface, size := 1, bytes := 16, zero := [.nilifc], cmp := true, eq := true })
  , (199, { k := (.slice 28), size := 1, bytes := 24, zero := [(.sl 1 true [])], cmp := false, eq := true })
  , (200, { k := .fn, size := 1, bytes := 8, zero := [.nilfn], cmp := false, eq := true })
  , (201, { k := .iface, size := 1, bytes := 16, zero := [.nilifc], cmp := true, eq := true })
  , (203, { k := .fn, size := 1, bytes := 8, zero := [.nilfn], cmp := false, eq := true })
  , (204, { k := .fn, size := 1, bytes := 8, zero := [.nilfn], cmp := false, eq := true })
  , (205, { k := (.arr 64 5), size := 64, bytes := 64, zero := [(.int .u8 (0)), (.int .u8 (0)), (.int .u8 (0)), (.int .u8 (0)), (.int .u8 (0)), (.int .u8 (0)), (.int .u8 (0)), (.int .u8 (0)), (.int .u8 (0)), (.int .u8 (0)), (.int .u8 (0)), (.int .u8 (0)), (.int .u8 (0)), (.int .u8 (0)), (.int .u8 (0)), (.int .u8 (0)), (.int .u8 (0)), (.int .u8 (0)), (.int .u8 (0)), (.int .u8 (0)), (.int .u8 (0)), (.int .u8 (0)), (.int .u8 (0)), (.int .u8 (0)), (.int .u8 (0)), (.int .u8 (0)), (.int .u8 (0)), (.int .u8 (0)), (.int .u8 (0)), (.int .u8 (0)), (.int .u8 (0)), (.int .u8 (0)), (.int .u8 (0)), (.int .u8 (0)), (.int .u8 (0)), (.int .u8 (0)), (.int .u8 (0)), (.int .u8 (0)), (.int .u8 (0)), (.int .u8 (0)), (.int .u8 (0)), (.int .u8 (0)), (.int .u8 (0)), (.int .u8 (0)), (.int .u8 (0)), (.int .u8 (0)), (.int .u8 (0)), (.int .u8 (0)), (.int .u8 (0)), (.int .u8 (0)), (.int .u8 (0)), (.int .u8 (0)), (.int .u8 (0)), (.int .u8 (0)), (.int .u8 (0)), (.int .u8 (0)), (.int .u8 (0)), (.int .u8 (0)), (.int .u8 (0)), (.int .u8 (0)), (.int .u8 (0)), (.int .u8 (0)), (.int .u8 (0)), (.int .u8 (0))], cmp := true, eq := true })
  , (206, { k := (.arr 4 140), size := 72, bytes := 576, zero := [(.int .u64 (0)), (.int .u64 (0)), (.int .u64 (0)), (.int .u64 (0)), (.int .u64 (0)), (.int .u64 (0)), (.int .u64 (0)), (.int .u64 (0)), (.int .u64 (0)), (.int .u64 (0)), (.int .u64 (0)), (.int .u64 (0)), (.int .u64 (0)), (.int .u64 (0)), (.int .u64 (0)), (.int .u64 (0)), (.int .u64 (0)), (.int .u64 (0)), (.int .u64 (0)), (.int .u64 (0)), (.int .u64 (0)), (.int .u64 (0)), (.int .u64 (0)), (.int .u64 (0)), (.int .u64 (0)), (.int .u64 (0)), (.int .u64 (0)), (.int .u64 (0)), (.int .u64 (0)), (.int .u64 (0)), (.int .u64 (0)), (.int .u64 (0)), (.int .u64 (0)), (.int .u64 (0)), (.int .u64 (0)), (.int .u64 (0)), (.int .u64 (0)), (.int .u64 (0)), (.int .u64 (0)), (.int .u64 (0)), (.int .u64 (0)), (.int .u64 (0)), (.int .u64 (0)), (.int .u64 (0)), (.int .u64 (0)), (.int .u64 (0)), (.int .u64 (0)), (.int .u64 (0)), (.int .u64 (0)), (.int .u64 (0)), (.int .u64 (0)), (.int .u64 (0)), (.int .u64 (0)), (.int .u64 (0)), (.int .u64 (0)), (.int .u64 (0)), (.int .u64 (0)), (.int .u64 (0)), (.int .u64 (0)), (.int .u64 (0)), (.int .u64 (0)), (.int .u64 (0)), (.int .u64 (0)), (.int .u64 (0)), (.int .u64 (0)), (.int .u64 (0)), (.int .u64 (0)), (.int .u64 (0)), (.int .u64 (0)), (.int .u64 (0)), (.int .u64 (0)), (.int .u64 (0))], cmp := true, eq := true })
  , (207, { k := .fn, size := 1, bytes := 8, zero := [.nilfn], cmp := false, eq := true })
  , (208, { k := (.arr 12 53), size := 12, bytes := 96, zero := [(.int .u64 (0)), (.int .u64 (0)), (.int .u64 (0)), (.int .u64 (0)), (.int .u64 (0)), (.int .u64 (0)), (.int .u64 (0)), (.int .u64 (0)), (.int .u64 (0)), (.int .u64 (0)), (.int .u64 (0)), (.int .u64 (0))], cmp := true, eq := true })
  , (209, { k := (.arr 12 53), size := 12, bytes := 96, zero := [(.int .u64 (0)), (.int .u64 (0)), (.int .u64 (0)), (.int .u64 (0)), (.int .u64 (0)), (.int .u64 (0)), (.int .u64 (0)), (.int .u64 (0)), (.int .u64 (0)), (.int .u64 (0)), (.int .u64 (0)), (.int .u64 (0))], cmp := true, eq := true })
  , (210, { k := .fn, size := 1, bytes := 8, zero := [.nilfn], cmp := false, eq := true })
  , (211, { k := .fn, size := 1, bytes := 8, zero := [.nilfn], cmp := false, eq := true })
  , (212, { k := .fn, size := 1, bytes := 8, zero := [.nilfn], cmp := false, eq := true })
  , (213, { k := .fn, size := 1, bytes := 8, zero := [.nilfn], cmp := false, eq := true })
  , (216, { k := (.arr 0 16), size := 0, bytes := 0, zero := [], cmp := true, eq := true })
  , (219, { k := .fn, size := 1, bytes := 8, zero := [.nilfn], cmp := false, eq := true })
  , (220, { k := (.int .u32), size := 1, bytes := 4, zero := [(.int .u32 (0))], cmp := true, eq := true })
  , (221, { k := (.int .u8), size := 1, bytes := 1, zero := [(.int .u8 (0))], cmp := true, eq := true })
  , (222, { k := .fn, size := 1, bytes := 8, zero := [.nilfn], cmp := false, eq := true })
  , (223, { k := .ptr, size := 1, bytes := 8, zero := [.nilptr], cmp := true, eq := true })
  , (224, { k := (.int .i32), size := 1, bytes := 4, zero := [(.int .i32 (0))], cmp := true, eq := true })
  , (225, { k := (.int .i32), size := 1, bytes := 4, zero := [(.int .i32 (0))], cmp := true, eq := true })
  , (228, { k := .fn, size := 1, bytes := 8, zero := [.nilfn], cmp := false, eq := true })
  , (229, { k := .fn, size := 1, bytes := 8, zero := [.nilfn], cmp := false, eq := true })
  , (232, { k := .ptr, size := 1, bytes := 8, zero := [.nilptr], cmp := true, eq := true })
  , (233, { k := .fn, size := 1, bytes := 8, zero := [.nilfn], cmp := false, eq := true })
  , (234, { k := (.int .u16), size := 1, bytes := 2, zero := [(.int .u16 (0))], cmp := true, eq := true })
  , (237, { k := (.slice 240), size := 1, bytes := 24, zero := [(.sl 4 true [])], cmp := false, eq := true })
  , (238, { k := (.int .i32), size := 1, bytes := 4, zero := [(.int .i32 (0))], cmp := true, eq := true })
  , (241, { k := .ptr, size := 1, bytes := 8, zero := [.nilptr], cmp := true, eq := true })
]
def linL : List (Nat × List Nat) := [
   (17, [10, 5, 15, 13, 3, 2, 1000015])
  , (38, [23, 5, 39, 38, 3, 2, 19, 36])
  , (40, [16, 14, 3, 2, 9])
  , (56, [104, 75, 74, 17, 13, 14, 117, 108, 91, 79, 44, 32, 24, 10, 9, 110])
  , (58, [115, 52, 16, 13, 128, 99, 14, 130, 98, 9, 83, 123])
  , (62, [88, 86, 76, 72, 58, 49, 42, 0, 4, 39, 45, 53, 65, 73, 1000086, 84])
  , (71, [7, 2, 5])
  , (79, [25, 23, 3, 2, 11])
  , (82, [39, 11, 82, 79, 66, 55, 48, 6, 26, 3, 2, 8, 19, 44, 51, 58, 67, 80])
  , (84, [26, 3, 14])
  , (85, [39, 33, 4, 43, 3, 2, 31])
  , (116, [34, 32, 19, 3, 2, 30])
]
def liveL : List (Nat × List (Nat × List Nat)) := [
   (6, [(8, [0, 1, 5, 6, 8, 9]), (100008, [4, 5]), (200028, []), (250028, [])])
  , (9, [(200021, []), (250021, [])])
  , (10, [(200010, []), (250010, [])])
  , (13, [(200006, [4, 8, 9]), (250006, []), (300006, [2])])
  , (14, [(4, [2, 3, 5]), (100004, [4]), (200006, []), (250006, [])])
  , (15, [(4, [0, 3]), (100004, [2])])
  , (19, [(8, [2, 4, 6, 33, 34, 35]), (100008, [2, 3, 4, 6]), (17, [2, 4, 6, 11, 61, 62, 63]), (100017, [2, 3, 6]), (200020, []), (250020, [])])
  , (22, [(11, [1, 2, 5, 7, 9, 11, 13]), (100011, [1, 2, 3, 5, 7, 9, 11]), (200016, []), (250016, []), (200017, [2, 7, 13, 17]), (250017, []), (300017, [2])])
  , (25, [(200005, []), (250005, [])])
  , (27, [(5, [0, 1, 2]), (100005, [6]), (200009, []), (250009, []), (200010, []), (250010, [])])
  , (28, [(200007, []), (250007, [])])
  , (31, [(200005, []), (250005, [])])
  , (35, [(200001, []), (250001, [])])
  , (38, [(2, [0, 4]), (100002, [0, 2, 3, 4])])
  , (39, [(3, [0, 1, 5, 6]), (100003, [4, 5]), (7, [0, 1, 5, 6, 7, 8]), (100007, [0, 1, 4, 5, 6, 7])])
  , (40, [(3, [1, 3, 4]), (100003, [2, 3])])
  , (44, [(3, [0, 3, 4]), (100003, [2, 3]), (8, [0, 3, 4, 6, 7]), (100008, [0, 2, 3, 4, 6])])
  , (46, [(6, [0, 1, 5]), (100006, [4]), (200008, []), (250008, []), (200010, []), (250010, [])])
  , (47, [(3, [0, 2, 3, 4]), (100003, [2, 3]), (200007, []), (250007, [])])
  , (48, [(200007, []), (250007, [])])
  , (50, [(7, [0, 5, 7]), (100007, [4])])
  , (51, [(200001, []), (250001, [])])
  , (56, [(14, [3, 4, 8, 11, 12, 13]), (100014, [8, 9, 10, 11, 13]), (200007, []), (250007, [])])
  , (58, [(25, [0, 3, 8, 10, 12, 13, 14]), (100025, [8, 9, 10, 14])])
  , (62, [(6, [0, 3, 5, 6, 28, 29, 30]), (100006, [0, 3, 4, 5, 6]), (16, [0, 3, 6, 10]), (100016, [0, 3, 4]), (21, [0, 78, 79, 80]), (100021, [0, 4])])
  , (65, [(200004, []), (250004, [])])
  , (74, [(200009, []), (250009, []), (200010, []), (250010, [])])
  , (76, [(200001, []), (250001, [])])
  , (79, [(3, [0, 3, 4]), (100003, [2, 3]), (200005, []), (250005, [11])])
  , (80, [(6, [1, 3]), (100006, [2])])
  , (81, [(3, [1, 3, 4]), (100003, [2, 3])])
  , (82, [(3, [1, 3, 4]), (100003, [1, 2, 3])])
  , (83, [(200004, []), (250004, [])])
  , (84, [(200004, [4, 7]), (250004, []), (300004, [2])])
  , (86, [(2, [0, 3]), (100002, [0, 2, 3])])
  , (87, [(7, [0, 2, 4, 18]), (100007, [2, 3, 4]), (200009, []), (250009, [])])
  , (88, [(3, [2, 3, 4, 6, 7, 8]), (100003, [6, 7]), (200010, []), (250010, [])])
  , (89, [(200003, []), (250003, [])])
  , (91, [(200004, []), (250004, [])])
  , (92, [(200001, []), (250001, [])])
  , (93, [(200001, []), (250001, [])])
  , (94, [(4, [2, 3, 4, 6, 7, 9]), (100004, [4, 5, 6, 7]), (200006, []), (250006, [])])
  , (95, [(4, [4, 5, 6, 7, 8, 9]), (100004, [5, 6, 8]), (200007, []), (250007, [])])
  , (96, [(12, [1, 2, 3, 9, 10, 11, 57, 58, 59]), (100012, [1, 2, 3, 6, 7, 8, 9, 10, 11])])
  , (98, [(16, [0, 1, 9, 10, 11]), (100016, [0, 1, 6, 7, 9, 10])])
  , (102, [(1, [0, 1, 3, 6]), (100001, [8]), (18, [1, 3, 6, 48, 49, 50]), (100018, [8])])
  , (104, [(1, [0, 1, 2]), (100001, [6]), (17, [1, 2, 43, 44, 45]), (100017, [6])])
  , (107, [(3, [1, 3, 4]), (100003, [2, 3])])
  , (109, [(8, [6, 21, 22, 23]), (100008, [2, 3, 6])])
  , (110, [(6, [4, 6, 7]), (100006, [2, 3, 6])])
  , (112, [(200003, []), (250003, []), (200005, []), (250005, []), (200006, []), (250006, []), (200007, []), (250007, [])])
  , (113, [(7, [3, 4, 6, 10, 11, 12]), (100007, [6, 7, 11]), (200003, [2, 6]), (250003, []), (300003, []), (200004, []), (250004, []), (200010, []), (250010, []), (200012, []), (250012, [])])
  , (116, [(1, [0]), (100001, [0, 2, 3])])
  , (117, [(3, [1, 3, 6]), (100003, [2, 3])])
  , (119, [(200001, [6, 8, 11, 13, 18, 19]), (250001, []), (300001, []), (200002, []), (250002, []), (200003, []), (250003, []), (200004, []), (250004, []), (200005, []), (250005, []), (200009, []), (250009, []), (200010, []), (250010, []), (200011, [3, 4, 6]), (250011, []), (300011, [6]), (200012, []), (250012, [])])
  , (120, [(200001, []), (250001, [])])
  , (122, [(200001, []), (250001, [])])
  , (124, [(4, [2, 3, 4, 6, 7, 9]), (100004, [4, 5, 6, 7]), (200006, []), (250006, [])])
  , (127, [(200001, []), (250001, [])])
  , (129, [(4, [4, 5, 6, 7, 8, 13]), (100004, [6, 8]), (200006, []), (250006, [])])
  , (139, [(200001, []), (250001, [])])
  , (142, [(200001, []), (250001, [])])
  , (143, [(3, [2, 3, 4, 5, 16]), (100003, [2, 3, 4, 5]), (8, [2, 3, 4, 5, 6, 7, 8, 16, 25]), (100008, [2, 3, 4, 5, 6, 8, 16]), (19, [2, 3, 4, 5, 8, 14, 16]), (100019, [2, 3, 4, 5, 8, 16]), (200005, []), (250005, [])])
  , (144, [(3, [2, 3, 4, 5, 12]), (100003, [4, 5]), (7, [2, 3, 4, 5, 6, 7, 12, 15]), (100007, [2, 3, 4, 5, 6, 7, 12]), (200009, []), (250009, [])])
  , (146, [(2, [0, 1, 7, 8]), (100002, [4])])
  , (147, [(200001, []), (250001, [])])
]
def reg2 : Nat → RegH
  | 0 => ⟨some [], []⟩
  | _ => ⟨none, []⟩
def reg3 : Nat → RegH
  | 0 => ⟨some [0], []⟩
  | 1 => ⟨some [0, 3], []⟩
  | 2 => ⟨some [0, 3, 18], []⟩
  | 3 => ⟨some [2], []⟩
  | 4 => ⟨some [0, 3, 4, 5], []⟩
  | 5 => ⟨some [3, 4, 5, 6, 7, 8], []⟩
  | 6 => ⟨some [3, 4, 5, 6, 7, 8, 32], []⟩
  | 7 => ⟨some [2], []⟩
  | 8 => ⟨some [3, 5, 7, 8, 9], []⟩
  | 9 => ⟨some [3, 5, 7, 8, 9, 47], []⟩
  | 10 => ⟨some [2], []⟩
  | 11 => ⟨some [2], []⟩
  | _ => ⟨none, []⟩
def reg4 : Nat → RegH
  | 0 => ⟨some [0], []⟩
  | 1 => ⟨some [0, 3], []⟩
  | 2 => ⟨some [0, 3, 11], []⟩
  | 3 => ⟨some [2], []⟩
  | 4 => ⟨some [0, 3, 4, 5], []⟩
  | 5 => ⟨some [0, 3, 4, 19], []⟩
  | 6 => ⟨some [2], []⟩
  | 7 => ⟨some [0, 3, 6, 7], []⟩
  | 8 => ⟨some [2], []⟩
  | _ => ⟨none, []⟩
def reg5 : Nat → RegH
  | 0 => ⟨some [0], []⟩
  | 1 => ⟨some [0, 3], []⟩
  | 2 => ⟨some [0, 3, 19], []⟩
  | 3 => ⟨some [2], []⟩
  | 4 => ⟨some [0, 3, 4, 5], []⟩
  | 5 => ⟨some [3, 4, 5, 6, 7, 8], []⟩
  | 6 => ⟨some [3, 4, 5, 6, 7, 8, 33], []⟩
  | 7 => ⟨some [2], []⟩
  | 8 => ⟨some [3, 4, 5, 9, 10], []⟩
  | 9 => ⟨some [3, 4, 5, 9, 52], []⟩
  | 10 => ⟨some [2], []⟩
  | 11 => ⟨some [2], []⟩
  | _ => ⟨none, []⟩
def reg6 : Nat → RegH
  | 0 => ⟨some [0, 1], []⟩
  | 1 => ⟨some [0, 1, 5], []⟩
  | 2 => ⟨some [0, 1, 5], []⟩
  | 3 => ⟨some [0, 1, 5, 6, 7], []⟩
  | 4 => ⟨some [0, 1, 5, 6, 26], []⟩
  | 5 => ⟨some [4], []⟩
  | 6 => ⟨some [0, 1, 5, 6, 8], []⟩
  | 7 => ⟨some [0, 1, 5, 6, 8, 9], []⟩
  | 8 => ⟨some [0, 1, 5, 6, 8, 9, 34], []⟩
  | 9 => ⟨some [0, 1, 5, 6, 8, 9], []⟩
  | 10 => ⟨some [0, 1, 5, 6, 8, 9, 10], []⟩
  | 11 => ⟨some [0, 1, 5, 6, 8, 9, 10, 44], []⟩
  | 12 => ⟨some [0, 1, 5, 6, 8, 9, 10, 11], []⟩
  | 13 => ⟨some [0, 1, 5, 6, 8, 9, 10, 11, 49], []⟩
  | 14 => ⟨some [0, 1, 5, 6, 8, 9, 11], []⟩
  | 15 => ⟨some [0, 1, 5, 6, 8, 9, 10, 11, 49, 56], []⟩
  | 16 => ⟨some [0, 1, 5, 6, 8, 9, 10, 11, 49, 56], []⟩
  | 17 => ⟨some [0, 1, 5, 6, 8, 9, 11], []⟩
  | 18 => ⟨some [0, 1, 5, 6, 8, 9, 10, 11, 49, 65], []⟩
  | 19 => ⟨some [0, 1, 5, 6, 8, 9, 11], []⟩
  | 20 => ⟨some [0, 1, 5, 6, 8, 9, 10, 11, 49, 71], []⟩
  | 21 => ⟨some [0, 1, 5, 6, 8, 9, 11], []⟩
  | 22 => ⟨some [0, 1, 5, 6, 8, 9, 10, 11, 77], []⟩
  | 23 => ⟨some [0, 1, 5, 6, 8, 9, 11], []⟩
  | 24 => ⟨some [0, 1, 5, 6, 8, 9, 11, 12], []⟩
  | 25 => ⟨some [0, 1, 5, 6, 9, 11, 12, 87], []⟩
  | 26 => ⟨some [4], []⟩
  | 27 => ⟨some [0, 1, 5, 6, 8, 9, 11], []⟩
  | 28 => ⟨some [0, 1, 5, 6, 8, 9, 103], []⟩
  | 29 => ⟨some [4], []⟩
  | 30 => ⟨some [4], []⟩
  | _ => ⟨none, []⟩
def reg7 : Nat → RegH
  | 0 => ⟨some [0, 1, 2], []⟩
  | 1 => ⟨some [0, 1, 2, 7], []⟩
  | 2 => ⟨some [0, 1, 2, 7, 19], []⟩
  | 3 => ⟨some [0, 1, 2, 7], []⟩
  | 4 => ⟨some [0, 1, 2, 7, 8, 9], []⟩
  | 5 => ⟨some [0, 1, 2, 7, 8, 9, 32], []⟩
  | 6 => ⟨some [6], []⟩
  | 7 => ⟨some [0, 2, 7, 8, 9, 44], []⟩
  | 8 => ⟨some [6], []⟩
  | 9 => ⟨some [2, 7, 8, 67], []⟩
  | 10 => ⟨some [6], []⟩
  | 11 => ⟨some [2, 7, 8, 11], []⟩
  | 12 => ⟨some [2, 7, 11, 12], []⟩
  | 13 => ⟨some [7, 11, 12, 83], []⟩
  | 14 => ⟨some [6], []⟩
  | 15 => ⟨some [6], []⟩
  | _ => ⟨none, []⟩
def reg8 : Nat → RegH
  | 0 => ⟨some [1], []⟩
  | 1 => ⟨some [1, 3], []⟩
  | 2 => ⟨some [1, 3, 4, 5], []⟩
  | 3 => ⟨some [1, 3, 4, 5, 29], []⟩
  | 4 => ⟨some [2], []⟩
  | 5 => ⟨some [1, 3, 4, 5, 6], []⟩
  | 6 => ⟨some [1, 3, 4, 5, 6, 8], []⟩
  | 7 => ⟨some [1, 3, 4, 5, 10], []⟩
  | 8 => ⟨some [1, 3, 4, 5, 10, 12, 13], []⟩
  | 9 => ⟨some [2], []⟩
  | _ => ⟨none, []⟩
def reg9 : Nat → RegH
  | 0 => ⟨some [0], []⟩
  | 1 => ⟨some [0, 3], []⟩
  | 2 => ⟨some [0, 3, 24], []⟩
  | 3 => ⟨some [2], []⟩
  | 4 => ⟨some [0, 3, 4, 5], []⟩
  | 5 => ⟨some [3, 4, 5, 6, 7, 8], []⟩
  | 6 => ⟨some [3, 4, 5, 6, 7, 8, 38], []⟩
  | 7 => ⟨some [3, 4, 5, 7, 8, 40], []⟩
  | 8 => ⟨some [2], []⟩
  | 9 => ⟨some [2], []⟩
  | 10 => ⟨some [3, 4, 5, 6, 83], []⟩
  | 11 => ⟨some [2], []⟩
  | 12 => ⟨some [3, 4, 5, 6, 9, 10], []⟩
  | 13 => ⟨some [3, 4, 5, 9, 10, 11, 12], []⟩
  | 14 => ⟨some [3, 4, 5, 9, 11, 116], []⟩
  | 15 => ⟨some [2], []⟩
  | 16 => ⟨some [3, 4, 5, 11, 13], []⟩
  | 17 => ⟨some [3, 4, 5, 13, 14], []⟩
  | 18 => ⟨some [3, 4, 5, 13, 14, 15], []⟩
  | 19 => ⟨some [3, 4, 5, 13, 14, 152], []⟩
  | 20 => ⟨some [2], []⟩
  | 21 => ⟨some [2], []⟩
  | _ => ⟨none, []⟩
def reg10 : Nat → RegH
  | 0 => ⟨some [2, 3, 4], []⟩
  | 1 => ⟨some [2, 3, 4, 7], []⟩
  | 2 => ⟨some [2, 3, 4, 7, 8, 9], []⟩
  | 3 => ⟨some [2, 3, 4, 7, 8, 9, 30], []⟩
  | 4 => ⟨some [6], []⟩
  | 5 => ⟨some [3, 4, 7, 8, 9, 10, 11], []⟩
  | 6 => ⟨some [3, 4, 7, 8, 9, 10, 11, 48], []⟩
  | 7 => ⟨some [6], []⟩
  | 8 => ⟨some [3, 4, 7, 8, 9, 10, 12], []⟩
  | 9 => ⟨some [3, 4, 7, 8, 9, 10, 13], []⟩
  | 10 => ⟨some [7, 8, 9, 13, 14], []⟩
  | 11 => ⟨some [7, 8, 9, 13, 14, 80], []⟩
  | 12 => ⟨some [6], []⟩
  | 13 => ⟨some [6], []⟩
  | _ => ⟨none, []⟩
def reg11 : Nat → RegH
  | 0 => ⟨some [], []⟩
  | 1 => ⟨some [1, 2], []⟩
  | 2 => ⟨some [1, 2, 4], []⟩
  | 3 => ⟨some [1, 2, 4, 6], []⟩
  | 4 => ⟨some [1, 2, 4, 6, 8], []⟩
  | 5 => ⟨some [1, 2, 6, 8, 9], []⟩
  | 6 => ⟨some [1, 2, 8, 9, 10], []⟩
  | 7 => ⟨some [1, 2, 9, 10, 11], []⟩
  | 8 => ⟨some [0], []⟩
  | _ => ⟨none, []⟩
def reg12 : Nat → RegH
  | 0 => ⟨some [0, 2], []⟩
  | 1 => ⟨some [0, 2, 9], []⟩
  | 2 => ⟨some [2, 3], []⟩
  | 3 => ⟨some [0, 2, 4, 5, 6], []⟩
  | 4 => ⟨some [0, 2, 4, 5, 6, 21], []⟩
  | 5 => ⟨some [2, 3], []⟩
  | 6 => ⟨some [2, 4, 5, 26], []⟩
  | 7 => ⟨some [2, 3], []⟩
  | 8 => ⟨some [2, 3], []⟩
  | _ => ⟨none, []⟩
def reg13 : Nat → RegH
  | 0 => ⟨some [0, 2], []⟩
  | 1 => ⟨some [0, 2, 10], []⟩
  | 2 => ⟨some [2, 3, 4], []⟩
  | 3 => ⟨some [0, 2, 5], []⟩
  | 4 => ⟨some [0, 2, 5, 6, 7], []⟩
  | 5 => ⟨some [0, 2, 5, 6, 7, 26], []⟩
  | 6 => ⟨some [2, 3, 4], []⟩
  | 7 => ⟨some [2, 6, 7, 39], []⟩
  | 8 => ⟨some [2, 3, 4], []⟩
  | 9 => ⟨some [2, 3, 4], []⟩
  | _ => ⟨none, []⟩
def reg14 : Nat → RegH
  | 0 => ⟨some [2, 3], []⟩
  | 1 => ⟨some [2, 3, 43], []⟩
  | 2 => ⟨some [4], []⟩
  | 3 => ⟨some [2, 3, 5], []⟩
  | 4 => ⟨some [2, 3, 5, 48], []⟩
  | 5 => ⟨some [2, 3, 5], []⟩
  | 6 => ⟨some [2, 3, 5, 6], []⟩
  | 7 => ⟨some [2, 3, 5, 63], []⟩
  | 8 => ⟨some [4], []⟩
  | 9 => ⟨some [4], []⟩
  | _ => ⟨none, []⟩
def reg15 : Nat → RegH
  | 0 => ⟨some [0], []⟩
  | 1 => ⟨some [0, 5], []⟩
  | 2 => ⟨some [2], []⟩
  | 3 => ⟨some [0, 3], []⟩
  | 4 => ⟨some [0, 3, 7], []⟩
  | 5 => ⟨some [0, 3], []⟩
  | 6 => ⟨some [0, 3, 13], []⟩
  | 7 => ⟨some [2], []⟩
  | 8 => ⟨some [2], []⟩
  | _ => ⟨none, []⟩
def reg16 : Nat → RegH
  | 0 => ⟨some [0, 1, 2], []⟩
  | 1 => ⟨some [0, 1, 2, 7], []⟩
  | 2 => ⟨some [0, 1, 2, 7, 8], []⟩
  | 3 => ⟨some [0, 1, 2, 7, 24], []⟩
  | 4 => ⟨some [6], []⟩
  | 5 => ⟨some [1, 2, 7, 9], []⟩
  | 6 => ⟨some [6], []⟩
  | _ => ⟨none, []⟩
def reg17 : Nat → RegH
  | 0 => ⟨some [1], [(2, none)]⟩
  | 1 => ⟨some [1, 5], []⟩
  | 2 => ⟨some [1, 5, 12], []⟩
  | 3 => ⟨some [2, 3], [(2, none)]⟩
  | 4 => ⟨some [2, 3], []⟩
  | _ => ⟨none, []⟩
def reg18 : Nat → RegH
  | 0 => ⟨some [], []⟩
  | 1 => ⟨some [1], []⟩
  | 2 => ⟨some [1, 3], []⟩
  | 3 => ⟨some [0], []⟩
  | _ => ⟨none, []⟩
def reg19 : Nat → RegH
  | 0 => ⟨some [0, 2], []⟩
  | 1 => ⟨some [2, 4, 5], []⟩
  | 2 => ⟨some [2, 4, 5, 21], []⟩
  | 3 => ⟨some [2, 3], []⟩
  | 4 => ⟨some [2, 4, 26], []⟩
  | 5 => ⟨some [2, 3], []⟩
  | 6 => ⟨some [2, 4, 6], []⟩
  | 7 => ⟨some [2, 4, 6, 33, 34, 35], []⟩
  | 8 => ⟨some [2, 4, 6, 33, 34, 35, 36], []⟩
  | 9 => ⟨some [2, 4, 6, 7, 8, 33, 34, 35], []⟩
  | 10 => ⟨some [2, 4, 6, 8, 9, 10, 33, 34, 35], []⟩
  | 11 => ⟨some [2, 4, 6, 8, 9, 33, 34, 35, 50], []⟩
  | 12 => ⟨some [2, 3], []⟩
  | 13 => ⟨some [2, 4, 6, 33, 34, 35], []⟩
  | 14 => ⟨some [2, 4, 6, 33, 34, 35], []⟩
  | 15 => ⟨some [2, 4, 6, 11], []⟩
  | 16 => ⟨some [2, 4, 6, 11, 61, 62, 63], []⟩
  | 17 => ⟨some [2, 4, 6, 11, 61, 62, 63, 64], []⟩
  | 18 => ⟨some [2, 4, 6, 11, 12, 13, 61, 62, 63], []⟩
  | 19 => ⟨some [2, 4, 6, 11, 12, 13, 14, 61, 62, 63], []⟩
  | 20 => ⟨some [2, 4, 6, 11, 13, 14, 61, 62, 63, 86], []⟩
  | 21 => ⟨some [2, 3], []⟩
  | 22 => ⟨some [2, 4, 6, 11, 61, 62, 63], []⟩
  | 23 => ⟨some [2, 4, 6, 11, 61, 62, 63], []⟩
  | 24 => ⟨some [2, 3], []⟩
  | _ => ⟨none, []⟩
def reg20 : Nat → RegH
  | 0 => ⟨some [0, 1, 2], []⟩
  | 1 => ⟨some [0, 1, 2, 8], []⟩
  | 2 => ⟨some [6], []⟩
  | 3 => ⟨some [6], []⟩
  | _ => ⟨none, []⟩
def reg21 : Nat → RegH
  | 0 => ⟨some [2, 3], []⟩
  | 1 => ⟨some [4], []⟩
  | _ => ⟨none, []⟩
def reg22 : Nat → RegH
  | 0 => ⟨some [1, 2], []⟩
  | 1 => ⟨some [1, 2, 4], []⟩
  | 2 => ⟨some [1, 2, 25], []⟩
  | 3 => ⟨some [2, 3], []⟩
  | 4 => ⟨some [1, 2, 5, 6], []⟩
  | 5 => ⟨some [1, 2, 5, 6, 7, 8], []⟩
  | 6 => ⟨some [1, 2, 5, 6, 7, 8, 9, 10], []⟩
  | 7 => ⟨some [1, 2, 5, 6, 7, 8, 9, 10, 11, 12], []⟩
  | 8 => ⟨some [1, 2, 5, 7, 9, 11, 72], []⟩
  | 9 => ⟨some [2, 3], []⟩
  | 10 => ⟨some [1, 2, 5, 7, 9, 11, 13], []⟩
  | 11 => ⟨some [1, 2, 5, 7, 9, 11, 13, 75], []⟩
  | 12 => ⟨some [1, 2, 5, 7, 9, 11, 13], []⟩
  | 13 => ⟨some [1, 2, 5, 7, 9, 11, 13, 14], []⟩
  | 14 => ⟨some [1, 2, 5, 7, 9, 11, 13, 94], []⟩
  | 15 => ⟨some [2, 3], []⟩
  | 16 => ⟨some [2, 15], []⟩
  | 17 => ⟨some [2, 3], []⟩
  | _ => ⟨none, []⟩
def reg23 : Nat → RegH
  | 0 => ⟨some [], []⟩
  | 1 => ⟨some [1, 2], []⟩
  | 2 => ⟨some [1, 20], []⟩
  | 3 => ⟨some [0], []⟩
  | 4 => ⟨some [1, 3], []⟩
  | 5 => ⟨some [1, 3, 4], []⟩
  | 6 => ⟨some [1, 3, 4, 5], []⟩
  | 7 => ⟨some [1, 3, 4, 5, 6], []⟩
  | 8 => ⟨some [1, 3, 4, 5, 6, 7], []⟩
  | 9 => ⟨some [1, 3, 4, 5, 6, 7, 8], []⟩
  | 10 => ⟨some [1, 3, 4, 5, 6, 7, 8, 9], []⟩
  | 11 => ⟨some [1, 3, 4, 5, 6, 7, 8, 9, 10], []⟩
  | 12 => ⟨some [0], []⟩
  | _ => ⟨none, []⟩
def reg24 : Nat → RegH
  | 0 => ⟨some [0, 1], []⟩
  | 1 => ⟨some [0, 1, 6], []⟩
  | 2 => ⟨some [0, 1], []⟩
  | 3 => ⟨some [4], []⟩
  | _ => ⟨none, []⟩
def reg25 : Nat → RegH
  | 0 => ⟨some [0, 1, 2], []⟩
  | 1 => ⟨some [0, 1, 2, 8], []⟩
  | 2 => ⟨some [6, 7], []⟩
  | 3 => ⟨some [0, 1, 2, 16], []⟩
  | 4 => ⟨some [6, 7], []⟩
  | 5 => ⟨some [6, 7], []⟩
  | _ => ⟨none, []⟩
def reg26 : Nat → RegH
  | 0 => ⟨some [0], []⟩
  | 1 => ⟨some [2], []⟩
  | _ => ⟨none, []⟩
def reg27 : Nat → RegH
  | 0 => ⟨some [0, 1, 2], []⟩
  | 1 => ⟨some [0, 1, 2, 8], []⟩
  | 2 => ⟨some [6], []⟩
  | 3 => ⟨some [0, 1, 2, 14], []⟩
  | 4 => ⟨some [6], []⟩
  | 5 => ⟨some [0, 1, 2, 42], []⟩
  | 6 => ⟨some [0, 1, 2, 7], []⟩
  | 7 => ⟨some [0, 1, 2, 7, 48], []⟩
  | 8 => ⟨some [6], []⟩
  | 9 => ⟨some [0, 1, 2, 7], []⟩
  | 10 => ⟨some [0, 1, 2], []⟩
  | 11 => ⟨some [6], []⟩
  | _ => ⟨none, []⟩
def reg28 : Nat → RegH
  | 0 => ⟨some [0, 1], []⟩
  | 1 => ⟨some [0, 1, 5], []⟩
  | 2 => ⟨some [4], []⟩
  | 3 => ⟨some [0, 1, 11], []⟩
  | 4 => ⟨some [4], []⟩
  | 5 => ⟨some [0, 1, 19], []⟩
  | 6 => ⟨some [4], []⟩
  | 7 => ⟨some [], []⟩
  | 8 => ⟨some [4], []⟩
  | _ => ⟨none, []⟩
def reg29 : Nat → RegH
  | 0 => ⟨some [0, 1], []⟩
  | 1 => ⟨some [0, 1, 5], []⟩
  | 2 => ⟨some [4], []⟩
  | 3 => ⟨some [0, 1, 9], []⟩
  | 4 => ⟨some [4], []⟩
  | 5 => ⟨some [0, 1], []⟩
  | 6 => ⟨some [0, 1, 21], []⟩
  | 7 => ⟨some [], []⟩
  | 8 => ⟨some [4], []⟩
  | _ => ⟨none, []⟩
def reg30 : Nat → RegH
  | 0 => ⟨some [0, 5], []⟩
  | 1 => ⟨some [], []⟩
  | _ => ⟨none, []⟩
def reg31 : Nat → RegH
  | 0 => ⟨some [0, 1, 2], []⟩
  | 1 => ⟨some [0, 1, 2, 7], []⟩
  | 2 => ⟨some [6], []⟩
  | 3 => ⟨some [0, 1, 2, 12], []⟩
  | 4 => ⟨some [6], []⟩
  | 5 => ⟨some [], []⟩
  | 6 => ⟨some [6], []⟩
  | _ => ⟨none, []⟩
def reg32 : Nat → RegH
  | 0 => ⟨some [0], []⟩
  | 1 => ⟨some [2], []⟩
  | _ => ⟨none, []⟩
def reg33 : Nat → RegH
  | 0 => ⟨some [0], []⟩
  | 1 => ⟨some [2], []⟩
  | _ => ⟨none, []⟩
def reg34 : Nat → RegH
  | 0 => ⟨some [0, 1], []⟩
  | 1 => ⟨some [0, 1, 8], []⟩
  | 2 => ⟨some [4, 5], []⟩
  | 3 => ⟨some [4, 5], []⟩
  | _ => ⟨none, []⟩
def reg35 : Nat → RegH
  | 0 => ⟨some [], []⟩
  | 1 => ⟨some [1], []⟩
  | 2 => ⟨some [1, 3], []⟩
  | 3 => ⟨some [0], []⟩
  | _ => ⟨none, []⟩
def reg36 : Nat → RegH
  | 0 => ⟨some [1], []⟩
  | 1 => ⟨some [1, 16], []⟩
  | 2 => ⟨some [2, 3], []⟩
  | 3 => ⟨some [1, 4, 5], []⟩
  | 4 => ⟨some [1, 4, 5, 25], []⟩
  | 5 => ⟨some [2, 3], []⟩
  | 6 => ⟨some [4, 5, 6], []⟩
  | 7 => ⟨some [4, 5, 6, 34], []⟩
  | 8 => ⟨some [2, 3], []⟩
  | 9 => ⟨some [2, 3], []⟩
  | _ => ⟨none, []⟩
def reg37 : Nat → RegH
  | 0 => ⟨some [1], []⟩
  | 1 => ⟨some [2], []⟩
  | _ => ⟨none, []⟩
def reg38 : Nat → RegH
  | 0 => ⟨some [0], [(2, none)]⟩
  | 1 => ⟨some [0, 4], []⟩
  | 2 => ⟨some [0, 4, 16], []⟩
  | 3 => ⟨some [0, 4], []⟩
  | 4 => ⟨some [5], []⟩
  | 5 => ⟨some [5, 26], []⟩
  | 6 => ⟨some [2, 3], [(2, none)]⟩
  | 7 => ⟨some [5, 35], []⟩
  | 8 => ⟨some [2, 3], []⟩
  | 9 => ⟨some [2, 3], []⟩
  | _ => ⟨none, []⟩
def reg39 : Nat → RegH
  | 0 => ⟨some [0, 1], []⟩
  | 1 => ⟨some [0, 1, 5], []⟩
  | 2 => ⟨some [0, 1, 5, 6], []⟩
  | 3 => ⟨some [0, 1, 5, 6, 13], []⟩
  | 4 => ⟨some [0, 1, 5, 6], []⟩
  | 5 => ⟨some [0, 1, 5, 6, 7], []⟩
  | 6 => ⟨some [0, 1, 5, 6, 7, 8], []⟩
  | 7 => ⟨some [0, 1, 5, 6, 7, 8, 23], []⟩
  | 8 => ⟨some [0, 1, 5, 6, 7, 8], []⟩
  | 9 => ⟨some [0, 1, 5, 6, 7, 8], []⟩
  | 10 => ⟨some [0, 1, 5, 6], []⟩
  | 11 => ⟨some [4], []⟩
  | _ => ⟨none, []⟩
def reg40 : Nat → RegH
  | 0 => ⟨some [1], [(2, none)]⟩
  | 1 => ⟨some [1, 3], [(3, none)]⟩
  | 2 => ⟨some [1, 3, 4], []⟩
  | 3 => ⟨some [1, 3, 4, 6], []⟩
  | 4 => ⟨some [1, 3, 4], []⟩
  | 5 => ⟨some [1, 3, 4], []⟩
  | 6 => ⟨some [2], []⟩
  | _ => ⟨none, []⟩
def reg41 : Nat → RegH
  | 0 => ⟨some [1], []⟩
  | 1 => ⟨some [1, 4], []⟩
  | 2 => ⟨some [1, 9], []⟩
  | 3 => ⟨some [2, 3], []⟩
  | 4 => ⟨some [1, 12], []⟩
  | 5 => ⟨some [2, 3], []⟩
  | 6 => ⟨some [5], []⟩
  | 7 => ⟨some [5, 17], []⟩
  | 8 => ⟨some [2, 3], []⟩
  | 9 => ⟨some [2, 3], []⟩
  | _ => ⟨none, []⟩
def reg42 : Nat → RegH
  | 0 => ⟨some [0, 2], []⟩
  | 1 => ⟨some [2, 4, 5], []⟩
  | 2 => ⟨some [2, 4, 5, 18], []⟩
  | 3 => ⟨some [2, 3], []⟩
  | 4 => ⟨some [2, 4, 39], []⟩
  | 5 => ⟨some [2, 3], []⟩
  | 6 => ⟨some [2, 4, 6, 7], []⟩
  | 7 => ⟨some [2, 6, 7, 8, 9], []⟩
  | 8 => ⟨some [2, 6, 8, 63], []⟩
  | 9 => ⟨some [2, 3], []⟩
  | 10 => ⟨some [2, 7, 8, 10], []⟩
  | 11 => ⟨some [2, 7, 9, 10, 11], []⟩
  | 12 => ⟨some [2, 10, 11, 81], []⟩
  | 13 => ⟨some [2, 3], []⟩
  | 14 => ⟨some [2, 3], []⟩
  | _ => ⟨none, []⟩
def reg43 : Nat → RegH
  | 0 => ⟨some [1], []⟩
  | 1 => ⟨some [1, 4, 5], []⟩
  | 2 => ⟨some [2, 3], []⟩
  | _ => ⟨none, []⟩
def reg44 : Nat → RegH
  | 0 => ⟨some [0], []⟩
  | 1 => ⟨some [0, 3], []⟩
  | 2 => ⟨some [0, 3, 4], []⟩
  | 3 => ⟨some [0, 3, 4, 16], []⟩
  | 4 => ⟨some [0, 3, 4], []⟩
  | 5 => ⟨some [0, 3, 4, 5], []⟩
  | 6 => ⟨some [0, 3, 4, 6], []⟩
  | 7 => ⟨some [0, 3, 4, 6, 7], []⟩
  | 8 => ⟨some [0, 3, 4, 6, 7, 32], []⟩
  | 9 => ⟨some [0, 3, 4, 6, 7], []⟩
  | 10 => ⟨some [0, 3, 4, 6, 7], []⟩
  | 11 => ⟨some [0, 3, 4], []⟩
  | 12 => ⟨some [2], []⟩
  | _ => ⟨none, []⟩
def reg45 : Nat → RegH
  | 0 => ⟨some [], []⟩
  | 1 => ⟨some [0], []⟩
  | _ => ⟨none, []⟩
def reg46 : Nat → RegH
  | 0 => ⟨some [0, 1], []⟩
  | 1 => ⟨some [0, 1, 10], []⟩
  | 2 => ⟨some [15], []⟩
  | 3 => ⟨some [4], []⟩
  | 4 => ⟨some [4], []⟩
  | 5 => ⟨some [0, 1, 5], []⟩
  | 6 => ⟨some [0, 1, 5, 20], []⟩
  | 7 => ⟨some [0, 1, 5], []⟩
  | 8 => ⟨some [0, 1, 5, 31], []⟩
  | 9 => ⟨some [4], []⟩
  | 10 => ⟨some [0, 1, 5, 40], []⟩
  | 11 => ⟨some [4], []⟩
  | 12 => ⟨some [4], []⟩
  | _ => ⟨none, []⟩
def reg47 : Nat → RegH
  | 0 => ⟨some [0, 2], []⟩
  | 1 => ⟨some [0, 2, 3], []⟩
  | 2 => ⟨some [0, 2, 3, 4], []⟩
  | 3 => ⟨some [0, 2, 3, 4, 12], []⟩
  | 4 => ⟨some [0, 2, 3, 4], []⟩
  | 5 => ⟨some [0, 2, 3, 4, 17], []⟩
  | 6 => ⟨some [0, 2, 3, 4], []⟩
  | 7 => ⟨some [0, 2, 3, 4], []⟩
  | 8 => ⟨some [2], []⟩
  | _ => ⟨none, []⟩
def reg48 : Nat → RegH
  | 0 => ⟨some [2, 3, 4, 6], []⟩
  | 1 => ⟨some [2, 3, 4, 6, 19], []⟩
  | 2 => ⟨some [6, 7], []⟩
  | 3 => ⟨some [3, 4, 6, 8, 9], []⟩
  | 4 => ⟨some [3, 4, 6, 8, 9, 28], []⟩
  | 5 => ⟨some [6, 7], []⟩
  | 6 => ⟨some [3, 4, 6, 8, 10], []⟩
  | 7 => ⟨some [6, 10, 11], []⟩
  | 8 => ⟨some [6, 10, 11, 50], []⟩
  | 9 => ⟨some [6, 7], []⟩
  | 10 => ⟨some [6, 7], []⟩
  | _ => ⟨none, []⟩
def reg49 : Nat → RegH
  | 0 => ⟨some [0, 2], []⟩
  | 1 => ⟨some [2, 4, 5], []⟩
  | 2 => ⟨some [2, 4, 5, 12], []⟩
  | 3 => ⟨some [2, 3], []⟩
  | 4 => ⟨some [2, 3], []⟩
  | _ => ⟨none, []⟩
def reg50 : Nat → RegH
  | 0 => ⟨some [0, 1], []⟩
  | 1 => ⟨some [0, 1, 13], []⟩
  | 2 => ⟨some [4], []⟩
  | 3 => ⟨some [0, 1, 5], []⟩
  | 4 => ⟨some [0, 1, 5, 6], []⟩
  | 5 => ⟨some [0, 1, 5, 27], []⟩
  | 6 => ⟨some [0, 5, 7], []⟩
  | 7 => ⟨some [0, 5, 7, 29], []⟩
  | 8 => ⟨some [0, 5, 7], []⟩
  | 9 => ⟨some [0, 5, 7, 38], []⟩
  | 10 => ⟨some [4], []⟩
  | 11 => ⟨some [4], []⟩
  | 12 => ⟨some [4], []⟩
  | _ => ⟨none, []⟩
def reg51 : Nat → RegH
  | 0 => ⟨some [1, 2], []⟩
  | 1 => ⟨some [2], []⟩
  | _ => ⟨none, []⟩
def reg52 : Nat → RegH
  | 0 => ⟨some [1, 2], []⟩
  | 1 => ⟨some [2], []⟩
  | _ => ⟨none, []⟩
def reg53 : Nat → RegH
  | 0 => ⟨some [2, 3, 4], []⟩
  | 1 => ⟨some [4], []⟩
  | _ => ⟨none, []⟩
def reg54 : Nat → RegH
  | 0 => ⟨some [2, 3, 4], []⟩
  | 1 => ⟨some [4], []⟩
  | _ => ⟨none, []⟩
def reg55 : Nat → RegH
  | 0 => ⟨some [1, 2], []⟩
  | 1 => ⟨some [1, 2, 3], []⟩
  | 2 => ⟨some [2], []⟩
  | _ => ⟨none, []⟩
def reg56 : Nat → RegH
  | 0 => ⟨some [1, 2, 3, 4, 8], [(8, some 3), (8, some 4)]⟩
  | 1 => ⟨some [1, 2, 3, 4, 8, 18], []⟩
  | 2 => ⟨some [8, 9, 10], []⟩
  | 3 => ⟨some [1, 2, 3, 4, 8, 25], []⟩
  | 4 => ⟨some [8, 9, 10], []⟩
  | 5 => ⟨some [1, 2, 3, 4, 8, 33], []⟩
  | 6 => ⟨some [8, 9, 10], []⟩
  | 7 => ⟨some [1, 2, 3, 4, 8, 11], [(11, some 3), (11, some 4)]⟩
  | 8 => ⟨some [3, 4, 8, 11, 12, 13, 14], []⟩
  | 9 => ⟨some [3, 4, 8, 11, 12, 13, 14, 77], []⟩
  | 10 => ⟨some [8, 9, 10], []⟩
  | 11 => ⟨some [3, 4, 8, 11, 12, 13, 82], []⟩
  | 12 => ⟨some [8, 11, 13], []⟩
  | 13 => ⟨some [8, 9, 10], []⟩
  | 14 => ⟨some [3, 4, 8, 11, 12, 13, 94], []⟩
  | 15 => ⟨some [3, 4, 8, 11, 13, 15, 16, 17], [(15, some 3), (15, some 4)]⟩
  | 16 => ⟨some [3, 4, 8, 11, 13, 15, 16, 17, 106], []⟩
  | 17 => ⟨some [8, 9, 10], []⟩
  | 18 => ⟨some [3, 4, 8, 11, 13, 16], []⟩
  | 19 => ⟨some [3, 4, 8, 11, 12, 13], []⟩
  | 20 => ⟨some [8, 9, 10], []⟩
  | _ => ⟨none, []⟩
def reg57 : Nat → RegH
  | 0 => ⟨some [0, 1], []⟩
  | 1 => ⟨some [4], []⟩
  | _ => ⟨none, []⟩
def reg58 : Nat → RegH
  | 0 => ⟨some [0, 1, 2, 3, 8], [(8, some 3), (8, some 4)]⟩
  | 1 => ⟨some [0, 1, 2, 3, 8, 10], [(10, some 3), (10, some 4)]⟩
  | 2 => ⟨some [0, 1, 2, 3, 8, 10, 18], []⟩
  | 3 => ⟨some [8, 10], []⟩
  | 4 => ⟨some [8, 9], []⟩
  | 5 => ⟨some [0, 1, 2, 3, 8, 10, 25], []⟩
  | 6 => ⟨some [8, 10], []⟩
  | 7 => ⟨some [8, 9], []⟩
  | 8 => ⟨some [0, 1, 2, 3, 8, 10, 11], []⟩
  | 9 => ⟨some [0, 1, 2, 3, 8, 10, 11, 40], []⟩
  | 10 => ⟨some [8, 10], []⟩
  | 11 => ⟨some [8, 9], []⟩
  | 12 => ⟨some [0, 1, 2, 3, 8, 10, 11, 12, 13], []⟩
  | 13 => ⟨some [0, 1, 2, 3, 8, 10, 11, 12, 13, 57], []⟩
  | 14 => ⟨some [8, 9], []⟩
  | 15 => ⟨some [0, 1, 3, 8, 10, 11, 12, 13, 63], []⟩
  | 16 => ⟨some [8, 10], []⟩
  | 17 => ⟨some [8, 9], []⟩
  | 18 => ⟨some [0, 3, 8, 10, 11, 12, 13], []⟩
  | 19 => ⟨some [0, 3, 8, 10, 11, 12, 13], []⟩
  | 20 => ⟨some [0, 3, 8, 10, 12, 13], []⟩
  | 21 => ⟨some [0, 3, 8, 10, 12, 13, 82], []⟩
  | 22 => ⟨some [8, 10, 12, 13], []⟩
  | 23 => ⟨some [8, 9], []⟩
  | 24 => ⟨some [0, 3, 8, 10, 12, 13, 14], []⟩
  | 25 => ⟨some [0, 3, 8, 10, 12, 13, 14, 104], []⟩
  | 26 => ⟨some [0, 3, 8, 10, 12, 13, 15, 16], [(15, some 3), (15, some 4)]⟩
  | 27 => ⟨some [0, 3, 8, 10, 12, 13, 15, 16, 120], []⟩
  | 28 => ⟨some [8, 9], []⟩
  | 29 => ⟨some [0, 3, 8, 10, 12, 13, 16], []⟩
  | 30 => ⟨some [0, 3, 8, 10, 12, 13, 14], []⟩
  | 31 => ⟨some [8, 9], []⟩
  | _ => ⟨none, []⟩
def reg59 : Nat → RegH
  | 0 => ⟨some [0, 1], []⟩
  | 1 => ⟨some [0, 1, 9], []⟩
  | 2 => ⟨some [4], []⟩
  | 3 => ⟨some [0, 1, 11], []⟩
  | 4 => ⟨some [0, 1], []⟩
  | 5 => ⟨some [0, 1, 5], []⟩
  | 6 => ⟨some [0, 1, 5, 6], []⟩
  | 7 => ⟨some [0, 1, 5, 6, 23], []⟩
  | 8 => ⟨some [0, 1, 5, 6], []⟩
  | 9 => ⟨some [0, 1, 5, 7], []⟩
  | 10 => ⟨some [0, 1, 5, 7, 35], []⟩
  | 11 => ⟨some [0, 1, 5, 7], []⟩
  | 12 => ⟨some [4], []⟩
  | _ => ⟨none, []⟩
def reg60 : Nat → RegH
  | 0 => ⟨some [0, 1], []⟩
  | 1 => ⟨some [0, 1, 11], []⟩
  | 2 => ⟨some [4], []⟩
  | 3 => ⟨some [0, 1, 5], []⟩
  | 4 => ⟨some [4], []⟩
  | _ => ⟨none, []⟩
def reg61 : Nat → RegH
  | 0 => ⟨some [1], []⟩
  | 1 => ⟨some [1, 5], []⟩
  | 2 => ⟨some [2, 3], []⟩
  | 3 => ⟨some [1, 10], []⟩
  | 4 => ⟨some [2, 3], []⟩
  | 5 => ⟨some [4], []⟩
  | 6 => ⟨some [4, 17], []⟩
  | 7 => ⟨some [2, 3], []⟩
  | 8 => ⟨some [2, 3], []⟩
  | _ => ⟨none, []⟩
def reg62 : Nat → RegH
  | 0 => ⟨some [0, 3], [(4, none)]⟩
  | 1 => ⟨some [0, 3, 5], []⟩
  | 2 => ⟨some [0, 3, 5, 21], []⟩
  | 3 => ⟨some [0, 3, 5], []⟩
  | 4 => ⟨some [0, 3, 5, 6], []⟩
  | 5 => ⟨some [0, 3, 5, 6, 28, 29, 30], []⟩
  | 6 => ⟨some [0, 3, 5, 6, 28, 29, 30, 31], []⟩
  | 7 => ⟨some [0, 3, 5, 6, 8, 28, 29, 30], []⟩
  | 8 => ⟨some [0, 3, 5, 6, 28, 29, 30], []⟩
  | 9 => ⟨some [0, 3, 5, 6, 28, 29, 30], []⟩
  | 10 => ⟨some [0, 3, 6], []⟩
  | 11 => ⟨some [0, 3, 6, 44], []⟩
  | 12 => ⟨some [0, 3], []⟩
  | 13 => ⟨some [0, 3, 6, 9], []⟩
  | 14 => ⟨some [0, 3, 6, 9], []⟩
  | 15 => ⟨some [0, 3, 6, 10], []⟩
  | 16 => ⟨some [0, 3, 6, 10, 62], []⟩
  | 17 => ⟨some [0, 3, 6, 10], []⟩
  | 18 => ⟨some [0, 3, 6, 10], []⟩
  | 19 => ⟨some [0, 3], []⟩
  | 20 => ⟨some [0, 78, 79, 80], []⟩
  | 21 => ⟨some [0, 78, 79, 80, 81], []⟩
  | 22 => ⟨some [0, 12, 78, 79, 80], []⟩
  | 23 => ⟨some [0, 78, 79, 80], []⟩
  | 24 => ⟨some [0, 78, 79, 80], []⟩
  | 25 => ⟨some [4], []⟩
  | _ => ⟨none, []⟩
def reg63 : Nat → RegH
  | 0 => ⟨some [1, 2], []⟩
  | 1 => ⟨some [1, 2, 5], []⟩
  | 2 => ⟨some [4], []⟩
  | 3 => ⟨some [15], []⟩
  | 4 => ⟨some [4], []⟩
  | 5 => ⟨some [4], []⟩
  | _ => ⟨none, []⟩
def reg64 : Nat → RegH
  | 0 => ⟨some [1, 2], []⟩
  | 1 => ⟨some [4], []⟩
  | _ => ⟨none, []⟩
def reg65 : Nat → RegH
  | 0 => ⟨some [1], []⟩
  | 1 => ⟨some [1, 8], []⟩
  | 2 => ⟨some [2, 3], []⟩
  | 3 => ⟨some [4, 5], []⟩
  | 4 => ⟨some [2, 3], []⟩
  | _ => ⟨none, []⟩
def reg66 : Nat → RegH
  | 0 => ⟨some [1, 2], []⟩
  | 1 => ⟨some [4], []⟩
  | _ => ⟨none, []⟩
def reg67 : Nat → RegH
  | 0 => ⟨some [1], []⟩
  | 1 => ⟨some [2], []⟩
  | _ => ⟨none, []⟩
def reg68 : Nat → RegH
  | 0 => ⟨some [1], []⟩
  | 1 => ⟨some [1, 4, 5], []⟩
  | 2 => ⟨some [2, 3], []⟩
  | _ => ⟨none, []⟩
def reg69 : Nat → RegH
  | 0 => ⟨some [0], []⟩
  | 1 => ⟨some [2], []⟩
  | _ => ⟨none, []⟩
def reg70 : Nat → RegH
  | 0 => ⟨some [0], []⟩
  | 1 => ⟨some [2], []⟩
  | _ => ⟨none, []⟩
def reg71 : Nat → RegH
  | 0 => ⟨some [0], [(2, none)]⟩
  | 1 => ⟨some [0, 4], []⟩
  | 2 => ⟨some [2], [(2, none)]⟩
  | 3 => ⟨some [2], []⟩
  | _ => ⟨none, []⟩
def reg72 : Nat → RegH
  | 0 => ⟨some [0], []⟩
  | 1 => ⟨some [0, 6], []⟩
  | 2 => ⟨some [0], []⟩
  | 3 => ⟨some [0, 6, 14], []⟩
  | 4 => ⟨some [0, 16], []⟩
  | 5 => ⟨some [0], []⟩
  | 6 => ⟨some [], []⟩
  | 7 => ⟨some [2], []⟩
  | 8 => ⟨some [], []⟩
  | 9 => ⟨some [2], []⟩
  | _ => ⟨none, []⟩
def reg73 : Nat → RegH
  | 0 => ⟨some [0], []⟩
  | 1 => ⟨some [2], []⟩
  | _ => ⟨none, []⟩
def reg74 : Nat → RegH
  | 0 => ⟨some [1, 3, 5], []⟩
  | 1 => ⟨some [1, 3, 5, 17], []⟩
  | 2 => ⟨some [6], []⟩
  | 3 => ⟨some [3, 5, 7, 8], []⟩
  | 4 => ⟨some [3, 5, 7, 8, 24], []⟩
  | 5 => ⟨some [6], []⟩
  | 6 => ⟨some [3, 5, 7, 28], []⟩
  | 7 => ⟨some [6], []⟩
  | 8 => ⟨some [3, 5, 7, 9], []⟩
  | 9 => ⟨some [5, 8, 10], []⟩
  | 10 => ⟨some [68], []⟩
  | 11 => ⟨some [6], []⟩
  | 12 => ⟨some [6], []⟩
  | _ => ⟨none, []⟩
def reg75 : Nat → RegH
  | 0 => ⟨some [0], []⟩
  | 1 => ⟨some [0], []⟩
  | _ => ⟨none, []⟩
def reg76 : Nat → RegH
  | 0 => ⟨some [1], []⟩
  | 1 => ⟨some [2], []⟩
  | _ => ⟨none, []⟩
def reg77 : Nat → RegH
  | 0 => ⟨some [1, 2], []⟩
  | 1 => ⟨some [2, 4, 5], []⟩
  | 2 => ⟨some [2, 3], []⟩
  | _ => ⟨none, []⟩
def reg78 : Nat → RegH
  | 0 => ⟨some [0, 1], []⟩
  | 1 => ⟨some [0, 1, 8], []⟩
  | 2 => ⟨some [4], []⟩
  | 3 => ⟨some [4], []⟩
  | _ => ⟨none, []⟩
def reg79 : Nat → RegH
  | 0 => ⟨some [0], [(2, none)]⟩
  | 1 => ⟨some [0, 3], [(3, none)]⟩
  | 2 => ⟨some [0, 3, 4], []⟩
  | 3 => ⟨some [0, 3, 4, 8], []⟩
  | 4 => ⟨some [0, 3, 4], []⟩
  | 5 => ⟨some [0, 3, 4], []⟩
  | 6 => ⟨some [2], []⟩
  | _ => ⟨none, []⟩
def reg80 : Nat → RegH
  | 0 => ⟨some [1], []⟩
  | 1 => ⟨some [1, 22], []⟩
  | 2 => ⟨some [2], []⟩
  | 3 => ⟨some [1, 41], []⟩
  | 4 => ⟨some [2], []⟩
  | 5 => ⟨some [1, 3], []⟩
  | 6 => ⟨some [1, 3, 46], []⟩
  | 7 => ⟨some [1, 3], []⟩
  | 8 => ⟨some [1, 3, 4], []⟩
  | 9 => ⟨some [1, 3, 56], []⟩
  | 10 => ⟨some [2], []⟩
  | 11 => ⟨some [2], []⟩
  | _ => ⟨none, []⟩
def reg81 : Nat → RegH
  | 0 => ⟨some [1], []⟩
  | 1 => ⟨some [1, 3], []⟩
  | 2 => ⟨some [1, 3, 4], []⟩
  | 3 => ⟨some [1, 3, 4, 10], []⟩
  | 4 => ⟨some [1, 3, 4], []⟩
  | 5 => ⟨some [1, 3, 4, 5], []⟩
  | 6 => ⟨some [1, 3, 4, 5, 21], []⟩
  | 7 => ⟨some [1, 3, 4], []⟩
  | 8 => ⟨some [2], []⟩
  | _ => ⟨none, []⟩
def reg82 : Nat → RegH
  | 0 => ⟨some [1], [(2, none)]⟩
  | 1 => ⟨some [1, 3], []⟩
  | 2 => ⟨some [1, 3, 4], []⟩
  | 3 => ⟨some [1, 3, 4, 16], []⟩
  | 4 => ⟨some [1, 3, 4], []⟩
  | 5 => ⟨some [1, 3, 4], []⟩
  | 6 => ⟨some [1, 3, 5], []⟩
  | 7 => ⟨some [3, 5, 34], []⟩
  | 8 => ⟨some [3, 5], []⟩
  | 9 => ⟨some [3, 6], []⟩
  | 10 => ⟨some [3, 6, 7], []⟩
  | 11 => ⟨some [3, 6, 7, 43], []⟩
  | 12 => ⟨some [3, 6], []⟩
  | 13 => ⟨some [3, 6, 7, 50], []⟩
  | 14 => ⟨some [3, 6], []⟩
  | 15 => ⟨some [3, 6, 7, 57], []⟩
  | 16 => ⟨some [3, 6], []⟩
  | 17 => ⟨some [3, 6], []⟩
  | 18 => ⟨some [2], []⟩
  | _ => ⟨none, []⟩
def reg83 : Nat → RegH
  | 0 => ⟨some [1], []⟩
  | 1 => ⟨some [1, 17], []⟩
  | 2 => ⟨some [2, 3], []⟩
  | 3 => ⟨some [4, 5], []⟩
  | 4 => ⟨some [2, 3], []⟩
  | _ => ⟨none, []⟩
def reg84 : Nat → RegH
  | 0 => ⟨some [0, 2], []⟩
  | 1 => ⟨some [0, 2, 8], []⟩
  | 2 => ⟨some [2, 3], []⟩
  | 3 => ⟨some [2, 4, 5], []⟩
  | 4 => ⟨some [2, 3], []⟩
  | _ => ⟨none, []⟩
def reg85 : Nat → RegH
  | 0 => ⟨some [0], [(2, none)]⟩
  | 1 => ⟨some [0, 30], []⟩
  | 2 => ⟨some [2, 3], [(2, none)]⟩
  | 3 => ⟨some [4], []⟩
  | 4 => ⟨some [4, 37], []⟩
  | 5 => ⟨some [4], []⟩
  | 6 => ⟨some [4, 42], []⟩
  | 7 => ⟨some [2, 3], [(2, none)]⟩
  | 8 => ⟨some [2, 3], []⟩
  | _ => ⟨none, []⟩
def reg86 : Nat → RegH
  | 0 => ⟨some [0], []⟩
  | 1 => ⟨some [0, 3], []⟩
  | 2 => ⟨some [0, 3, 15], []⟩
  | 3 => ⟨some [0, 3], []⟩
  | 4 => ⟨some [2], []⟩
  | _ => ⟨none, []⟩
def reg87 : Nat → RegH
  | 0 => ⟨some [0, 2], []⟩
  | 1 => ⟨some [0, 2, 4], []⟩
  | 2 => ⟨some [0, 2, 4, 6], []⟩
  | 3 => ⟨some [2, 3], []⟩
  | 4 => ⟨some [0, 2, 4, 12], []⟩
  | 5 => ⟨some [2, 3], []⟩
  | 6 => ⟨some [0, 2, 4, 18], []⟩
  | 7 => ⟨some [0, 2, 4, 18, 19], []⟩
  | 8 => ⟨some [0, 2, 4, 5, 18], []⟩
  | 9 => ⟨some [0, 2, 4, 18], []⟩
  | 10 => ⟨some [0, 2, 4, 18], []⟩
  | 11 => ⟨some [2, 3], []⟩
  | _ => ⟨none, []⟩
def reg88 : Nat → RegH
  | 0 => ⟨some [2, 3, 4, 6], []⟩
  | 1 => ⟨some [2, 3, 4, 6, 7], []⟩
  | 2 => ⟨some [2, 3, 4, 6, 7, 8], []⟩
  | 3 => ⟨some [2, 3, 4, 6, 7, 8, 13], []⟩
  | 4 => ⟨some [2, 3, 4, 6, 7, 8], []⟩
  | 5 => ⟨some [2, 3, 4, 6, 7, 8], []⟩
  | 6 => ⟨some [2, 3, 4, 6, 7, 8], []⟩
  | 7 => ⟨some [2, 3, 4, 6, 7, 8], []⟩
  | 8 => ⟨some [2, 3, 4, 6, 7, 8, 9], []⟩
  | 9 => ⟨some [2, 3, 4, 6, 7, 8, 9], []⟩
  | 10 => ⟨some [2, 3, 4, 6, 7, 8], []⟩
  | 11 => ⟨some [6], []⟩
  | _ => ⟨none, []⟩
def reg89 : Nat → RegH
  | 0 => ⟨some [1, 2], []⟩
  | 1 => ⟨some [1, 2, 4], []⟩
  | 2 => ⟨some [2], []⟩
  | 3 => ⟨some [2], []⟩
  | _ => ⟨none, []⟩
def reg90 : Nat → RegH
  | _ => ⟨none, []⟩
def reg91 : Nat → RegH
  | 0 => ⟨some [1, 2], []⟩
  | 1 => ⟨some [1, 2, 7], []⟩
  | 2 => ⟨some [2], []⟩
  | 3 => ⟨some [1, 2, 3], []⟩
  | 4 => ⟨some [2], []⟩
  | _ => ⟨none, []⟩
def reg92 : Nat → RegH
  | 0 => ⟨some [3, 4, 5, 6], []⟩
  | 1 => ⟨some [5, 6, 7, 8], []⟩
  | 2 => ⟨some [6], []⟩
  | _ => ⟨none, []⟩
def reg93 : Nat → RegH
  | 0 => ⟨some [3, 4, 5, 6], []⟩
  | 1 => ⟨some [6], []⟩
  | _ => ⟨none, []⟩
def reg94 : Nat → RegH
  | 0 => ⟨some [2, 3, 4], []⟩
  | 1 => ⟨some [2, 3, 4, 6], []⟩
  | 2 => ⟨some [2, 3, 4, 6, 7], []⟩
  | 3 => ⟨some [2, 3, 4, 6, 7, 9], []⟩
  | 4 => ⟨some [2, 3, 4, 6, 7, 9, 10], []⟩
  | 5 => ⟨some [2, 3, 4, 6, 7, 8, 9], []⟩
  | 6 => ⟨some [2, 3, 4, 6, 7, 9], []⟩
  | 7 => ⟨some [2, 3, 4, 6, 7, 9], []⟩
  | 8 => ⟨some [4, 5], []⟩
  | _ => ⟨none, []⟩
def reg95 : Nat → RegH
  | 0 => ⟨some [3, 4, 5, 6], []⟩
  | 1 => ⟨some [4, 5, 6, 7], []⟩
  | 2 => ⟨some [4, 5, 6, 7, 8], []⟩
  | 3 => ⟨some [4, 5, 6, 7, 8, 9], []⟩
  | 4 => ⟨some [4, 5, 6, 7, 8, 9, 21], []⟩
  | 5 => ⟨some [4, 5, 6, 7, 8, 9], []⟩
  | 6 => ⟨some [4, 5, 6, 7, 8, 9], []⟩
  | 7 => ⟨some [4, 5, 6, 7, 8, 9], []⟩
  | 8 => ⟨some [6], []⟩
  | _ => ⟨none, []⟩
def reg96 : Nat → RegH
  | 0 => ⟨some [1, 2, 3], []⟩
  | 1 => ⟨some [1, 2, 3, 16], []⟩
  | 2 => ⟨some [6, 7, 8], []⟩
  | 3 => ⟨some [1, 2, 3, 9, 10], []⟩
  | 4 => ⟨some [1, 2, 3, 9, 10, 28], []⟩
  | 5 => ⟨some [6, 7, 8], []⟩
  | 6 => ⟨some [1, 2, 3, 9, 10, 38], []⟩
  | 7 => ⟨some [1, 2, 3, 10, 11], []⟩
  | 8 => ⟨some [1, 2, 3, 10, 11, 47], []⟩
  | 9 => ⟨some [6, 7, 8], []⟩
  | 10 => ⟨some [1, 2, 3, 9, 10, 11], []⟩
  | 11 => ⟨some [1, 2, 3, 9, 10, 11, 57, 58, 59], []⟩
  | 12 => ⟨some [1, 2, 3, 9, 10, 11, 57, 58, 59, 60], []⟩
  | 13 => ⟨some [1, 2, 3, 9, 10, 11, 13, 57, 58, 59], []⟩
  | 14 => ⟨some [1, 2, 3, 9, 10, 11, 57, 58, 59], []⟩
  | 15 => ⟨some [1, 2, 3, 9, 10, 11, 57, 58, 59], []⟩
  | 16 => ⟨some [1, 2, 9, 10, 11, 78], []⟩
  | 17 => ⟨some [6, 7, 8], []⟩
  | 18 => ⟨some [1, 2, 9, 10], []⟩
  | 19 => ⟨some [1, 9, 10, 89], []⟩
  | 20 => ⟨some [6, 7, 8], []⟩
  | 21 => ⟨some [6, 7, 8], []⟩
  | _ => ⟨none, []⟩
def reg97 : Nat → RegH
  | 0 => ⟨some [0, 2], []⟩
  | 1 => ⟨some [], []⟩
  | _ => ⟨none, []⟩
def reg98 : Nat → RegH
  | 0 => ⟨some [0, 1, 2], []⟩
  | 1 => ⟨some [0, 1, 2, 14], []⟩
  | 2 => ⟨some [], []⟩
  | 3 => ⟨some [6, 7], []⟩
  | 4 => ⟨some [0, 1, 2, 8], []⟩
  | 5 => ⟨some [0, 1, 2, 8, 27], []⟩
  | 6 => ⟨some [6, 7], []⟩
  | 7 => ⟨some [0, 1, 2, 8, 36], []⟩
  | 8 => ⟨some [], []⟩
  | 9 => ⟨some [6, 7], []⟩
  | 10 => ⟨some [0, 1, 2, 9], []⟩
  | 11 => ⟨some [0, 1, 9, 47], []⟩
  | 12 => ⟨some [], []⟩
  | 13 => ⟨some [6, 7], []⟩
  | 14 => ⟨some [0, 1, 9, 10], []⟩
  | 15 => ⟨some [0, 1, 9, 10, 11], []⟩
  | 16 => ⟨some [0, 1, 9, 10, 11, 53], []⟩
  | 17 => ⟨some [0, 1, 9, 10, 11], []⟩
  | 18 => ⟨some [0, 1, 9, 10, 11], []⟩
  | 19 => ⟨some [0, 1, 9, 10, 81], []⟩
  | 20 => ⟨some [], []⟩
  | 21 => ⟨some [6, 7], []⟩
  | 22 => ⟨some [6, 7], []⟩
  | _ => ⟨none, []⟩
def reg102 : Nat → RegH
  | 0 => ⟨some [0, 1, 3, 6], []⟩
  | 1 => ⟨some [0, 1, 3, 6, 19], []⟩
  | 2 => ⟨some [], []⟩
  | 3 => ⟨some [8], []⟩
  | 4 => ⟨some [0, 1, 3, 6, 9, 10], []⟩
  | 5 => ⟨some [0, 1, 3, 6, 35], []⟩
  | 6 => ⟨some [8], []⟩
  | 7 => ⟨some [1, 3, 6, 36], []⟩
  | 8 => ⟨some [], []⟩
  | 9 => ⟨some [8], []⟩
  | 10 => ⟨some [1, 3, 6, 36, 38, 39], []⟩
  | 11 => ⟨some [1, 3, 6, 11], []⟩
  | 12 => ⟨some [0, 1, 3, 6], []⟩
  | 13 => ⟨some [0, 1, 3, 6, 43], []⟩
  | 14 => ⟨some [8], []⟩
  | 15 => ⟨some [1, 3, 6, 36, 45, 46], []⟩
  | 16 => ⟨some [1, 3, 6, 12], []⟩
  | 17 => ⟨some [1, 3, 6, 48, 49, 50], []⟩
  | 18 => ⟨some [1, 3, 6, 48, 49, 50, 51], []⟩
  | 19 => ⟨some [1, 3, 6, 14, 48, 49, 50], []⟩
  | 20 => ⟨some [1, 3, 6, 14, 48, 49, 50, 55], []⟩
  | 21 => ⟨some [1, 3, 6, 48, 49, 50, 60], []⟩
  | 22 => ⟨some [8], []⟩
  | 23 => ⟨some [1, 3, 6, 48, 49, 50], []⟩
  | 24 => ⟨some [8], []⟩
  | _ => ⟨none, []⟩
def reg104 : Nat → RegH
  | 0 => ⟨some [0, 1, 2], []⟩
  | 1 => ⟨some [0, 1, 2, 19], []⟩
  | 2 => ⟨some [6], []⟩
  | 3 => ⟨some [0, 1, 2, 7, 8], []⟩
  | 4 => ⟨some [0, 1, 2, 30], []⟩
  | 5 => ⟨some [6], []⟩
  | 6 => ⟨some [1, 2, 31], []⟩
  | 7 => ⟨some [], []⟩
  | 8 => ⟨some [6], []⟩
  | 9 => ⟨some [1, 2, 31, 33, 34], []⟩
  | 10 => ⟨some [1, 2, 9], []⟩
  | 11 => ⟨some [0, 1, 2], []⟩
  | 12 => ⟨some [0, 1, 2, 38], []⟩
  | 13 => ⟨some [6], []⟩
  | 14 => ⟨some [1, 2, 31, 40, 41], []⟩
  | 15 => ⟨some [1, 2, 10], []⟩
  | 16 => ⟨some [1, 2, 43, 44, 45], []⟩
  | 17 => ⟨some [1, 2, 43, 44, 45, 46], []⟩
  | 18 => ⟨some [1, 2, 12, 43, 44, 45], []⟩
  | 19 => ⟨some [1, 2, 43, 44, 45, 52], []⟩
  | 20 => ⟨some [6], []⟩
  | 21 => ⟨some [1, 2, 43, 44, 45], []⟩
  | 22 => ⟨some [6], []⟩
  | _ => ⟨none, []⟩
def reg105 : Nat → RegH
  | 0 => ⟨some [1], []⟩
  | 1 => ⟨some [1, 41], []⟩
  | 2 => ⟨some [2], []⟩
  | 3 => ⟨some [2], []⟩
  | _ => ⟨none, []⟩
def reg106 : Nat → RegH
  | 0 => ⟨some [2, 3], []⟩
  | 1 => ⟨some [4], []⟩
  | _ => ⟨none, []⟩
def reg107 : Nat → RegH
  | 0 => ⟨some [1], []⟩
  | 1 => ⟨some [1, 3], []⟩
  | 2 => ⟨some [1, 3, 4], []⟩
  | 3 => ⟨some [1, 3, 4, 16], []⟩
  | 4 => ⟨some [1, 3, 4], []⟩
  | 5 => ⟨some [1, 3, 4], []⟩
  | 6 => ⟨some [2], []⟩
  | _ => ⟨none, []⟩
def reg108 : Nat → RegH
  | 0 => ⟨some [0], []⟩
  | 1 => ⟨some [0, 3], []⟩
  | 2 => ⟨some [2], []⟩
  | 3 => ⟨some [0, 6], []⟩
  | 4 => ⟨some [2], []⟩
  | 5 => ⟨some [9], []⟩
  | 6 => ⟨some [2], []⟩
  | 7 => ⟨some [2], []⟩
  | _ => ⟨none, []⟩
def reg109 : Nat → RegH
  | 0 => ⟨some [0], []⟩
  | 1 => ⟨some [4, 5], []⟩
  | 2 => ⟨some [4, 5, 15], []⟩
  | 3 => ⟨some [2, 3], []⟩
  | 4 => ⟨some [4, 19], []⟩
  | 5 => ⟨some [2, 3], []⟩
  | 6 => ⟨some [4, 6], []⟩
  | 7 => ⟨some [6, 21, 22, 23], []⟩
  | 8 => ⟨some [6, 21, 22, 23, 24], []⟩
  | 9 => ⟨some [6, 8, 21, 22, 23], []⟩
  | 10 => ⟨some [6, 21, 22, 23], []⟩
  | 11 => ⟨some [6, 21, 22, 23], []⟩
  | 12 => ⟨some [6, 34], []⟩
  | 13 => ⟨some [2, 3], []⟩
  | 14 => ⟨some [2, 3], []⟩
  | _ => ⟨none, []⟩
def reg110 : Nat → RegH
  | 0 => ⟨some [0], []⟩
  | 1 => ⟨some [4, 5], []⟩
  | 2 => ⟨some [4, 5, 14], []⟩
  | 3 => ⟨some [2, 3], []⟩
  | 4 => ⟨some [4, 6], []⟩
  | 5 => ⟨some [4, 6, 7], []⟩
  | 6 => ⟨some [4, 6, 7, 19], []⟩
  | 7 => ⟨some [4, 6, 7], []⟩
  | 8 => ⟨some [4, 6, 7], []⟩
  | 9 => ⟨some [4, 6, 7, 31], []⟩
  | 10 => ⟨some [2, 3], []⟩
  | 11 => ⟨some [2, 3], []⟩
  | _ => ⟨none, []⟩
def reg111 : Nat → RegH
  | 0 => ⟨some [0], []⟩
  | 1 => ⟨some [0, 4], []⟩
  | 2 => ⟨some [2], []⟩
  | 3 => ⟨some [2], []⟩
  | _ => ⟨none, []⟩
def reg112 : Nat → RegH
  | 0 => ⟨some [1], []⟩
  | 1 => ⟨some [1, 5], []⟩
  | 2 => ⟨some [2], []⟩
  | 3 => ⟨some [1, 11], []⟩
  | 4 => ⟨some [2], []⟩
  | 5 => ⟨some [1, 3], []⟩
  | 6 => ⟨some [1, 4], []⟩
  | 7 => ⟨some [2], []⟩
  | _ => ⟨none, []⟩
def reg113 : Nat → RegH
  | 0 => ⟨some [3, 4, 5, 6], []⟩
  | 1 => ⟨some [3, 4, 5, 6, 16], []⟩
  | 2 => ⟨some [6, 7], []⟩
  | 3 => ⟨some [3, 4, 6, 8, 9], []⟩
  | 4 => ⟨some [3, 4, 6, 10], []⟩
  | 5 => ⟨some [3, 4, 6, 10, 11], []⟩
  | 6 => ⟨some [3, 4, 6, 10, 11, 12], []⟩
  | 7 => ⟨some [3, 4, 6, 10, 11, 12, 34], []⟩
  | 8 => ⟨some [3, 4, 6, 10, 11, 12], []⟩
  | 9 => ⟨some [3, 4, 6, 10, 11, 12], []⟩
  | 10 => ⟨some [3, 4, 6, 10, 11, 12, 13], []⟩
  | 11 => ⟨some [3, 4, 6, 10, 11, 12, 13, 49], []⟩
  | 12 => ⟨some [3, 4, 6, 10, 11, 12], []⟩
  | 13 => ⟨some [6, 7], []⟩
  | _ => ⟨none, []⟩
def reg114 : Nat → RegH
  | 0 => ⟨some [2, 3], []⟩
  | 1 => ⟨some [6], []⟩
  | 2 => ⟨some [4], []⟩
  | _ => ⟨none, []⟩
def reg115 : Nat → RegH
  | 0 => ⟨some [0], []⟩
  | 1 => ⟨some [0], []⟩
  | _ => ⟨none, []⟩
def reg116 : Nat → RegH
  | 0 => ⟨some [0], [(2, none)]⟩
  | 1 => ⟨some [0, 12], []⟩
  | 2 => ⟨some [0], []⟩
  | 3 => ⟨some [0, 15], []⟩
  | 4 => ⟨some [2, 3], [(2, none)]⟩
  | 5 => ⟨some [0, 20], []⟩
  | 6 => ⟨some [2, 3], []⟩
  | 7 => ⟨some [2, 3], []⟩
  | _ => ⟨none, []⟩
def reg117 : Nat → RegH
  | 0 => ⟨some [1], []⟩
  | 1 => ⟨some [1, 3], []⟩
  | 2 => ⟨some [1, 3, 6], []⟩
  | 3 => ⟨some [1, 3, 6, 7], []⟩
  | 4 => ⟨some [1, 3, 4, 6], []⟩
  | 5 => ⟨some [1, 3, 6], []⟩
  | 6 => ⟨some [1, 3, 6], []⟩
  | 7 => ⟨some [2], []⟩
  | _ => ⟨none, []⟩
def reg118 : Nat → RegH
  | 0 => ⟨some [0], []⟩
  | 1 => ⟨some [0, 4], []⟩
  | 2 => ⟨some [2, 3], []⟩
  | 3 => ⟨some [0, 35], []⟩
  | 4 => ⟨some [0], []⟩
  | 5 => ⟨some [0, 40], []⟩
  | 6 => ⟨some [2, 3], []⟩
  | 7 => ⟨some [2, 3], []⟩
  | _ => ⟨none, []⟩
def reg119 : Nat → RegH
  | 0 => ⟨some [2, 3, 4], []⟩
  | 1 => ⟨some [2, 3, 4, 5, 6, 7], []⟩
  | 2 => ⟨some [2, 3, 4, 5, 6, 7, 8], []⟩
  | 3 => ⟨some [2, 3, 4, 5, 6, 7, 8, 9], []⟩
  | 4 => ⟨some [4, 5, 6, 7, 8, 9, 10], []⟩
  | 5 => ⟨some [4, 5, 6, 7, 8, 9, 10, 11], []⟩
  | 6 => ⟨some [4, 5, 6, 7, 8, 9, 10, 11, 12], []⟩
  | 7 => ⟨some [4, 5, 6, 7, 8, 9, 10, 11, 12], []⟩
  | 8 => ⟨some [4, 5, 6, 7, 8, 9, 10, 11, 12], []⟩
  | 9 => ⟨some [4, 5, 6, 7, 8, 9, 10, 11, 12], []⟩
  | 10 => ⟨some [4, 5, 6, 7, 8, 9, 10, 11, 12], []⟩
  | 11 => ⟨some [4, 5, 6, 7, 8, 9, 11, 12], []⟩
  | 12 => ⟨some [4], []⟩
  | _ => ⟨none, []⟩
def reg120 : Nat → RegH
  | 0 => ⟨some [0, 4, 5, 6], []⟩
  | 1 => ⟨some [6], []⟩
  | _ => ⟨none, []⟩
def reg121 : Nat → RegH
  | 0 => ⟨some [1, 2], []⟩
  | 1 => ⟨some [1, 2, 10], []⟩
  | 2 => ⟨some [4], []⟩
  | 3 => ⟨some [4], []⟩
  | _ => ⟨none, []⟩
def reg122 : Nat → RegH
  | 0 => ⟨some [2, 3, 4], []⟩
  | 1 => ⟨some [4], []⟩
  | _ => ⟨none, []⟩
def reg123 : Nat → RegH
  | 0 => ⟨some [1, 2], []⟩
  | 1 => ⟨some [1, 2, 3], []⟩
  | 2 => ⟨some [2], []⟩
  | _ => ⟨none, []⟩
def reg124 : Nat → RegH
  | 0 => ⟨some [2, 3, 4], []⟩
  | 1 => ⟨some [2, 3, 4, 6], []⟩
  | 2 => ⟨some [2, 3, 4, 6, 7], []⟩
  | 3 => ⟨some [2, 3, 4, 6, 7, 9], []⟩
  | 4 => ⟨some [2, 3, 4, 6, 7, 9, 10], []⟩
  | 5 => ⟨some [2, 3, 4, 6, 7, 8, 9], []⟩
  | 6 => ⟨some [2, 3, 4, 6, 7, 9], []⟩
  | 7 => ⟨some [2, 3, 4, 6, 7, 9], []⟩
  | 8 => ⟨some [4, 5], []⟩
  | _ => ⟨none, []⟩
def reg125 : Nat → RegH
  | 0 => ⟨some [2, 3, 4], []⟩
  | 1 => ⟨some [4], []⟩
  | _ => ⟨none, []⟩
def reg126 : Nat → RegH
  | 0 => ⟨some [1, 3, 5, 6], []⟩
  | 1 => ⟨some [1, 3, 6, 7, 8], []⟩
  | 2 => ⟨some [6], []⟩
  | _ => ⟨none, []⟩
def reg127 : Nat → RegH
  | 0 => ⟨some [3, 4, 5, 6], []⟩
  | 1 => ⟨some [6], []⟩
  | _ => ⟨none, []⟩
def reg129 : Nat → RegH
  | 0 => ⟨some [0, 4, 5, 6], []⟩
  | 1 => ⟨some [4, 5, 6, 7], []⟩
  | 2 => ⟨some [4, 5, 6, 7, 8], []⟩
  | 3 => ⟨some [4, 5, 6, 7, 8, 13], []⟩
  | 4 => ⟨some [4, 5, 6, 7, 8, 13, 14], []⟩
  | 5 => ⟨some [4, 5, 6, 7, 8, 9, 13], []⟩
  | 6 => ⟨some [4, 5, 6, 7, 8, 13], []⟩
  | 7 => ⟨some [4, 5, 6, 7, 8, 13], []⟩
  | 8 => ⟨some [6], []⟩
  | _ => ⟨none, []⟩
def reg132 : Nat → RegH
  | 0 => ⟨some [0, 1], []⟩
  | 1 => ⟨some [4], []⟩
  | _ => ⟨none, []⟩
def reg133 : Nat → RegH
  | 0 => ⟨some [1], []⟩
  | 1 => ⟨some [2], []⟩
  | _ => ⟨none, []⟩
def reg134 : Nat → RegH
  | 0 => ⟨some [1, 2], []⟩
  | 1 => ⟨some [3], []⟩
  | _ => ⟨none, []⟩
def reg135 : Nat → RegH
  | 0 => ⟨some [0], []⟩
  | 1 => ⟨some [0], []⟩
  | _ => ⟨none, []⟩
def reg136 : Nat → RegH
  | 0 => ⟨some [2, 3, 4], []⟩
  | 1 => ⟨some [4], []⟩
  | _ => ⟨none, []⟩
def reg137 : Nat → RegH
  | 0 => ⟨some [2, 3, 4], []⟩
  | 1 => ⟨some [4], []⟩
  | _ => ⟨none, []⟩
def reg138 : Nat → RegH
  | 0 => ⟨some [2, 3, 4], []⟩
  | 1 => ⟨some [4], []⟩
  | _ => ⟨none, []⟩
def reg139 : Nat → RegH
  | 0 => ⟨some [0], []⟩
  | 1 => ⟨some [0], []⟩
  | _ => ⟨none, []⟩
def reg140 : Nat → RegH
  | 0 => ⟨some [2, 3, 4], []⟩
  | 1 => ⟨some [4, 5, 6], []⟩
  | 2 => ⟨some [4, 5, 6, 7], []⟩
  | 3 => ⟨some [4], []⟩
  | _ => ⟨none, []⟩
def reg141 : Nat → RegH
  | 0 => ⟨some [2, 3, 4], []⟩
  | 1 => ⟨some [4, 5, 6], []⟩
  | 2 => ⟨some [4, 5, 6, 7, 8], []⟩
  | 3 => ⟨some [4], []⟩
  | _ => ⟨none, []⟩
def reg142 : Nat → RegH
  | 0 => ⟨some [1, 2], []⟩
  | 1 => ⟨some [2], []⟩
  | _ => ⟨none, []⟩
def reg143 : Nat → RegH
  | 0 => ⟨some [2, 3, 4], []⟩
  | 1 => ⟨some [2, 3, 4, 5], []⟩
  | 2 => ⟨some [2, 3, 4, 5, 16], []⟩
  | 3 => ⟨some [2, 3, 4, 5, 16, 17], []⟩
  | 4 => ⟨some [2, 3, 4, 5, 6, 16], []⟩
  | 5 => ⟨some [2, 3, 4, 5, 6, 7, 16], []⟩
  | 6 => ⟨some [2, 3, 4, 5, 6, 7, 8, 16], []⟩
  | 7 => ⟨some [2, 3, 4, 5, 6, 7, 8, 16, 25], []⟩
  | 8 => ⟨some [2, 3, 4, 5, 6, 7, 8, 16, 25, 26], []⟩
  | 9 => ⟨some [2, 3, 4, 5, 6, 7, 8, 9, 16, 25], []⟩
  | 10 => ⟨some [2, 3, 4, 5, 6, 7, 8, 9, 10, 11, 16, 25], []⟩
  | 11 => ⟨some [2, 3, 4, 5, 6, 7, 8, 9, 10, 11, 16, 25], []⟩
  | 12 => ⟨some [2, 3, 4, 5, 6, 7, 8, 9, 10, 11, 12, 16, 25], []⟩
  | 13 => ⟨some [2, 3, 4, 5, 6, 7, 8, 9, 10, 11, 16, 25], []⟩
  | 14 => ⟨some [2, 3, 4, 5, 6, 7, 9, 10, 11, 12, 16, 25], []⟩
  | 15 => ⟨some [2, 3, 4, 5, 6, 7, 8, 16, 25], []⟩
  | 16 => ⟨some [2, 3, 4, 5, 6, 7, 8, 16, 25], []⟩
  | 17 => ⟨some [2, 3, 4, 5, 6, 8, 16], []⟩
  | 18 => ⟨some [2, 3, 4, 5, 8, 14, 16], []⟩
  | 19 => ⟨some [2, 3, 4, 5, 8, 14, 16, 68], []⟩
  | 20 => ⟨some [2, 3, 4, 5, 8, 14, 16], []⟩
  | 21 => ⟨some [2, 3, 4, 5, 13, 14, 16], []⟩
  | 22 => ⟨some [2, 3, 4, 5, 8, 14, 16], []⟩
  | 23 => ⟨some [2, 3, 4, 5, 16], []⟩
  | 24 => ⟨some [2, 3, 4, 5, 16], []⟩
  | 25 => ⟨some [3, 4, 5, 15], []⟩
  | 26 => ⟨some [3, 4, 15], []⟩
  | 27 => ⟨some [4], []⟩
  | _ => ⟨none, []⟩
def reg144 : Nat → RegH
  | 0 => ⟨some [2, 3, 4], []⟩
  | 1 => ⟨some [2, 3, 4, 5], []⟩
  | 2 => ⟨some [2, 3, 4, 5, 12], []⟩
  | 3 => ⟨some [2, 3, 4, 5, 12, 13], []⟩
  | 4 => ⟨some [2, 3, 4, 5, 6, 12], []⟩
  | 5 => ⟨some [2, 3, 4, 5, 6, 7, 12], []⟩
  | 6 => ⟨some [2, 3, 4, 5, 6, 7, 12, 15], []⟩
  | 7 => ⟨some [2, 3, 4, 5, 6, 7, 12, 15, 16], []⟩
  | 8 => ⟨some [2, 3, 4, 5, 6, 7, 8, 12, 15], []⟩
  | 9 => ⟨some [2, 3, 4, 5, 6, 7, 8, 9, 10, 12, 15], []⟩
  | 10 => ⟨some [2, 3, 4, 5, 6, 7, 8, 9, 10, 12, 15], []⟩
  | 11 => ⟨some [2, 3, 4, 5, 6, 7, 8, 9, 10, 11, 12, 15], []⟩
  | 12 => ⟨some [2, 3, 4, 5, 6, 7, 8, 9, 10, 12, 15], []⟩
  | 13 => ⟨some [2, 3, 4, 5, 6, 8, 9, 10, 11, 12, 15], []⟩
  | 14 => ⟨some [2, 3, 4, 5, 6, 7, 12, 15], []⟩
  | 15 => ⟨some [2, 3, 4, 5, 6, 7, 12, 15], []⟩
  | 16 => ⟨some [2, 3, 4, 5, 12], []⟩
  | 17 => ⟨some [2, 3, 4, 5, 12], []⟩
  | 18 => ⟨some [4], []⟩
  | _ => ⟨none, []⟩
def reg146 : Nat → RegH
  | 0 => ⟨some [0, 1], []⟩
  | 1 => ⟨some [0, 1, 7, 8], []⟩
  | 2 => ⟨some [0, 1, 7, 8, 9], []⟩
  | 3 => ⟨some [0, 1, 5, 7, 8], []⟩
  | 4 => ⟨some [0, 1, 5, 7, 8, 16], []⟩
  | 5 => ⟨some [4], []⟩
  | 6 => ⟨some [0, 1, 7, 8], []⟩
  | 7 => ⟨some [4], []⟩
  | _ => ⟨none, []⟩
def reg147 : Nat → RegH
  | 0 => ⟨some [3, 4, 5, 6], []⟩
  | 1 => ⟨some [5, 6, 7, 8], []⟩
  | 2 => ⟨some [6, 7, 8, 9], []⟩
  | 3 => ⟨some [6], []⟩
  | _ => ⟨none, []⟩
def reg148 : Nat → RegH
  | 0 => ⟨some [0, 1], []⟩
  | 1 => ⟨some [0, 1, 6], []⟩
  | 2 => ⟨some [0, 1, 6, 7], []⟩
  | 3 => ⟨some [0, 1, 6, 7, 8], []⟩
  | 4 => ⟨some [0, 1, 6, 7, 8, 9], []⟩
  | 5 => ⟨some [0, 1, 6, 7, 8, 9, 10], []⟩
  | 6 => ⟨some [0, 1, 6, 7, 9, 11], []⟩
  | 7 => ⟨some [0, 1, 6, 7, 9, 11, 12], []⟩
  | 8 => ⟨some [0, 1, 6, 7, 9, 12, 13], []⟩
  | 9 => ⟨some [0, 1, 7, 9, 12, 13], []⟩
  | 10 => ⟨some [0, 1, 4], []⟩
  | 11 => ⟨some [4, 5], []⟩
  | _ => ⟨none, []⟩
def reg168 : Nat → RegH
  | 0 => ⟨some [0], []⟩
  | 1 => ⟨some [2], []⟩
  | _ => ⟨none, []⟩
def reg194 : Nat → RegH
  | 0 => ⟨some [], []⟩
  | 1 => ⟨some [], []⟩
  | 2 => ⟨some [], []⟩
  | 3 => ⟨some [], []⟩
  | 4 => ⟨some [], []⟩
  | 5 => ⟨some [], []⟩
  | 6 => ⟨some [], []⟩
  | 7 => ⟨some [], []⟩
  | _ => ⟨none, []⟩
def regL : List (Nat × (Nat → RegH)) := [
   (2, reg2)
  , (3, reg3)
  , (4, reg4)
  , (5, reg5)
  , (6, reg6)
  , (7, reg7)
  , (8, reg8)
  , (9, reg9)
  , (10, reg10)
  , (11, reg11)
  , (12, reg12)
  , (13, reg13)
  , (14, reg14)
  , (15, reg15)
  , (16, reg16)
  , (17, reg17)
  , (18, reg18)
  , (19, reg19)
  , (20, reg20)
  , (21, reg21)
  , (22, reg22)
  , (23, reg23)
  , (24, reg24)
  , (25, reg25)
  , (26, reg26)
  , (27, reg27)
  , (28, reg28)
  , (29, reg29)
  , (30, reg30)
  , (31, reg31)
  , (32, reg32)
  , (33, reg33)
  , (34, reg34)
  , (35, reg35)
  , (36, reg36)
  , (37, reg37)
  , (38, reg38)
  , (39, reg39)
  , (40, reg40)
  , (41, reg41)
  , (42, reg42)
  , (43, reg43)
  , (44, reg44)
  , (45, reg45)
  , (46, reg46)
  , (47, reg47)
  , (48, reg48)
  , (49, reg49)
  , (50, reg50)
  , (51, reg51)
  , (52, reg52)
  , (53, reg53)
  , (54, reg54)
  , (55, reg55)
  , (56, reg56)
  , (57, reg57)
  , (58, reg58)
  , (59, reg59)
  , (60, reg60)
  , (61, reg61)
  , (62, reg62)
  , (63, reg63)
  , (64, reg64)
  , (65, reg65)
  , (66, reg66)
  , (67, reg67)
  , (68, reg68)
  , (69, reg69)
  , (70, reg70)
  , (71, reg71)
  , (72, reg72)
  , (73, reg73)
  , (74, reg74)
  , (75, reg75)
  , (76, reg76)
  , (77, reg77)
  , (78, reg78)
  , (79, reg79)
  , (80, reg80)
  , (81, reg81)
  , (82, reg82)
  , (83, reg83)
  , (84, reg84)
  , (85, reg85)
  , (86, reg86)
  , (87, reg87)
  , (88, reg88)
  , (89, reg89)
  , (90, reg90)
  , (91, reg91)
  , (92, reg92)
  , (93, reg93)
  , (94, reg94)
  , (95, reg95)
  , (96, reg96)
  , (97, reg97)
  , (98, reg98)
  , (102, reg102)
  , (104, reg104)
  , (105, reg105)
  , (106, reg106)
  , (107, reg107)
  , (108, reg108)
  , (109, reg109)
  , (110, reg110)
  , (111, reg111)
  , (112, reg112)
  , (113, reg113)
  , (114, reg114)
  , (115, reg115)
  , (116, reg116)
  , (117, reg117)
  , (118, reg118)
  , (119, reg119)
  , (120, reg120)
  , (121, reg121)
  , (122, reg122)
  , (123, reg123)
  , (124, reg124)
  , (125, reg125)
  , (126, reg126)
  , (127, reg127)
  , (129, reg129)
  , (132, reg132)
  , (133, reg133)
  , (134, reg134)
  , (135, reg135)
  , (136, reg136)
  , (137, reg137)
  , (138, reg138)
  , (139, reg139)
  , (140, reg140)
  , (141, reg141)
  , (142, reg142)
  , (143, reg143)
  , (144, reg144)
  , (146, reg146)
  , (147, reg147)
  , (148, reg148)
  , (168, reg168)
  , (194, reg194)
]
def skipL : List Nat := []
def extL : List Nat := [16, 88, 89, 91, 92, 93, 94, 95, 112, 113, 119, 122, 123, 124, 127, 128, 140, 141, 143, 144, 145, 147]
/-- What is given besides the text: variables that are laid, and functions that are told apart. -/
structure GE where
  glob : Nat → Option (List D)
  ext : FuncId → List V → Option Ret
noncomputable def envG (G : GE) : Env := { tt := fun t => assoc t ttL, glob := G.glob, lin := fun f => (assoc f linL).getD [], live := fun f k => (assoc k ((assoc f liveL).getD [])).getD [], fns := fun f => match hasNat f skipL with | true => none | false => Tryd.prog.funcs[f]?, ext := fun f args => match hasNat f extL with | true => G.ext f args | false => none, reg := fun f => (assoc f regL).getD (fun _ => ⟨none, []⟩) }

theorem envOk (G : GE) (hG : ∀ f args r, G.ext f args = some r → Sound Tryd.prog G.glob f args r) : EnvOk Tryd.prog (envG G) := by
  refine ⟨ttOk_of (by kernel_rfl) (by kernel_rfl), fnsOk_skip (P := Tryd.prog) (live := (envG G).live) (skip := skipL) (by kernel_rfl), by kernel_rfl, fun f args r h => ?_, (fun f args bs bo r h => by cases h)⟩
  simp only [envG] at h
  split at h
  · exact hG f args r h
  · cases h

@[simp] theorem tt1 (G : GE) : (envG G).tt 1 = some { k := .fn, size := 1, bytes := 8, zero := [.nilfn], cmp := false, eq := true } := by kernel_rfl
@[simp] theorem tt2 (G : GE) : (envG G).tt 2 = some { k := (.int .i64), size := 1, bytes := 8, zero := [(.int .i64 (0))], cmp := true, eq := true } := by kernel_rfl
@[simp] theorem tt3 (G : GE) : (envG G).tt 3 = some { k := (.int .i64), size := 1, bytes := 8, zero := [(.int .i64 (0))], cmp := true, eq := true } := by kernel_rfl
@[simp] theorem tt4 (G : GE) : (envG G).tt 4 = some { k := .bool, size := 1, bytes := 1, zero := [(.bool false)], cmp := true, eq := true } := by kernel_rfl
@[simp] theorem tt5 (G : GE) : (envG G).tt 5 = some { k := (.int .u8), size := 1, bytes := 1, zero := [(.int .u8 (0))], cmp := true, eq := true } := by kernel_rfl
@[simp] theorem tt6 (G : GE) : (envG G).tt 6 = some { k := (.int .u8), size := 1, bytes := 1, zero := [(.int .u8 (0))], cmp := true, eq := true } := by kernel_rfl
@[simp] theorem tt7 (G : GE) : (envG G).tt 7 = some { k := (.struct [(0, 2), (1, 3), (2, 4), (3, 6)]), size := 4, bytes := 24, zero := [(.int .i64 (0)), (.int .i64 (0)), (.bool false), (.int .u8 (0))], cmp := true, eq := true } := by kernel_rfl
@[simp] theorem tt8 (G : GE) : (envG G).tt 8 = some { k := (.struct [(0, 2), (1, 3), (2, 4), (3, 6)]), size := 4, bytes := 24, zero := [(.int .i64 (0)), (.int .i64 (0)), (.bool false), (.int .u8 (0))], cmp := true, eq := true } := by kernel_rfl
@[simp] theorem tt9 (G : GE) : (envG G).tt 9 = some { k := .str, size := 1, bytes := 16, zero := [(.str [])], cmp := true, eq := true } := by kernel_rfl
@[simp] theorem tt10 (G : GE) : (envG G).tt 10 = some { k := .str, size := 1, bytes := 16, zero := [(.str [])], cmp := true, eq := true } := by kernel_rfl
@[simp] theorem tt11 (G : GE) : (envG G).tt 11 = some { k := .str, size := 1, bytes := 16, zero := [(.str [])], cmp := true, eq := true } := by kernel_rfl
@[simp] theorem tt12 (G : GE) : (envG G).tt 12 = some { k := (.int .u64), size := 1, bytes := 8, zero := [(.int .u64 (0))], cmp := true, eq := true } := by kernel_rfl
@[simp] theorem tt15 (G : GE) : (envG G).tt 15 = some { k := .ptr, size := 1, bytes := 8, zero := [.nilptr], cmp := true, eq := true } := by kernel_rfl
@[simp] theorem tt16 (G : GE) : (envG G).tt 16 = some { k := .ptr, size := 1, bytes := 8, zero := [.nilptr], cmp := true, eq := true } := by kernel_rfl
@[simp] theorem tt17 (G : GE) : (envG G).tt 17 = some { k := .ptr, size := 1, bytes := 8, zero := [.nilptr], cmp := true, eq := true } := by kernel_rfl
@[simp] theorem tt20 (G : GE) : (envG G).tt 20 = some { k := .iface, size := 1, bytes := 16, zero := [.nilifc], cmp := true, eq := true } := by kernel_rfl
@[simp] theorem tt21 (G : GE) : (envG G).tt 21 = some { k := (.int .i32), size := 1, bytes := 4, zero := [(.int .i32 (0))], cmp := true, eq := true } := by kernel_rfl
@[simp] theorem tt22 (G : GE) : (envG G).tt 22 = some { k := (.slice 5), size := 1, bytes := 24, zero := [(.nums .u8 true [])], cmp := false, eq := true } := by kernel_rfl
@[simp] theorem tt23 (G : GE) : (envG G).tt 23 = some { k := .fn, size := 1, bytes := 8, zero := [.nilfn], cmp := false, eq := true } := by kernel_rfl
@[simp] theorem tt24 (G : GE) : (envG G).tt 24 = some { k := (.slice 26), size := 1, bytes := 24, zero := [(.sl 5 true [])], cmp := false, eq := true } := by kernel_rfl
@[simp] theorem tt25 (G : GE) : (envG G).tt 25 = some { k := (.struct [(0, 3), (1, 3), (2, 4), (3, 22), (4, 24)]), size := 5, bytes := 72, zero := [(.int .i64 (0)), (.int .i64 (0)), (.bool false), (.nums .u8 true []), (.sl 5 true [])], cmp := false, eq := true } := by kernel_rfl
@[simp] theorem tt26 (G : GE) : (envG G).tt 26 = some { k := (.struct [(0, 3), (1, 3), (2, 4), (3, 22), (4, 24)]), size := 5, bytes := 72, zero := [(.int .i64 (0)), (.int .i64 (0)), (.bool false), (.nums .u8 true []), (.sl 5 true [])], cmp := false, eq := true } := by kernel_rfl
@[simp] theorem tt27 (G : GE) : (envG G).tt 27 = some { k := .iface, size := 1, bytes := 16, zero := [.nilifc], cmp := true, eq := true } := by kernel_rfl
@[simp] theorem tt28 (G : GE) : (envG G).tt 28 = some { k := .iface, size := 1, bytes := 16, zero := [.nilifc], cmp := true, eq := true } := by kernel_rfl
@[simp] theorem tt30 (G : GE) : (envG G).tt 30 = some { k := .fn, size := 1, bytes := 8, zero := [.nilfn], cmp := false, eq := true } := by kernel_rfl
@[simp] theorem tt32 (G : GE) : (envG G).tt 32 = some { k := .fn, size := 1, bytes := 8, zero := [.nilfn], cmp := false, eq := true } := by kernel_rfl
@[simp] theorem tt33 (G : GE) : (envG G).tt 33 = some { k := .fn, size := 1, bytes := 8, zero := [.nilfn], cmp := false, eq := true } := by kernel_rfl
@[simp] theorem tt34 (G : GE) : (envG G).tt 34 = some { k := .fn, size := 1, bytes := 8, zero := [.nilfn], cmp := false, eq := true } := by kernel_rfl
@[simp] theorem tt35 (G : GE) : (envG G).tt 35 = some { k := .fn, size := 1, bytes := 8, zero := [.nilfn], cmp := false, eq := true } := by kernel_rfl
@[simp] theorem tt36 (G : GE) : (envG G).tt 36 = some { k := (.int .i64), size := 1, bytes := 8, zero := [(.int .i64 (0))], cmp := true, eq := true } := by kernel_rfl
@[simp] theorem tt37 (G : GE) : (envG G).tt 37 = some { k := .fn, size := 1, bytes := 8, zero := [.nilfn], cmp := false, eq := true } := by kernel_rfl
@[simp] theorem tt39 (G : GE) : (envG G).tt 39 = some { k := .fn, size := 1, bytes := 8, zero := [.nilfn], cmp := false, eq := true } := by kernel_rfl
@[simp] theorem tt40 (G : GE) : (envG G).tt 40 = some { k := (.struct [(0, 3), (1, 3), (2, 3), (3, 3), (4, 22), (5, 22), (6, 22)]), size := 7, bytes := 104, zero := [(.int .i64 (0)), (.int .i64 (0)), (.int .i64 (0)), (.int .i64 (0)), (.nums .u8 true []), (.nums .u8 true []), (.nums .u8 true [])], cmp := false, eq := true } := by kernel_rfl
@[simp] theorem tt41 (G : GE) : (envG G).tt 41 = some { k := (.struct [(0, 3), (1, 3), (2, 3), (3, 3), (4, 22), (5, 22), (6, 22)]), size := 7, bytes := 104, zero := [(.int .i64 (0)), (.int .i64 (0)), (.int .i64 (0)), (.int .i64 (0)), (.nums .u8 true []), (.nums .u8 true []), (.nums .u8 true [])], cmp := false, eq := true } := by kernel_rfl
@[simp] theorem tt43 (G : GE) : (envG G).tt 43 = some { k := .fn, size := 1, bytes := 8, zero := [.nilfn], cmp := false, eq := true } := by kernel_rfl
@[simp] theorem tt44 (G : GE) : (envG G).tt 44 = some { k := .fn, size := 1, bytes := 8, zero := [.nilfn], cmp := false, eq := true } := by kernel_rfl
@[simp] theorem tt45 (G : GE) : (envG G).tt 45 = some { k := .fn, size := 1, bytes := 8, zero := [.nilfn], cmp := false, eq := true } := by kernel_rfl
@[simp] theorem tt47 (G : GE) : (envG G).tt 47 = some { k := .fn, size := 1, bytes := 8, zero := [.nilfn], cmp := false, eq := true } := by kernel_rfl
@[simp] theorem tt48 (G : GE) : (envG G).tt 48 = some { k := (.slice 55), size := 1, bytes := 24, zero := [(.sl 3 true [])], cmp := false, eq := true } := by kernel_rfl
@[simp] theorem tt49 (G : GE) : (envG G).tt 49 = some { k := .fn, size := 1, bytes := 8, zero := [.nilfn], cmp := false, eq := true } := by kernel_rfl
@[simp] theorem tt50 (G : GE) : (envG G).tt 50 = some { k := .ptr, size := 1, bytes := 8, zero := [.nilptr], cmp := true, eq := true } := by kernel_rfl
@[simp] theorem tt52 (G : GE) : (envG G).tt 52 = some { k := .fn, size := 1, bytes := 8, zero := [.nilfn], cmp := false, eq := true } := by kernel_rfl
@[simp] theorem tt53 (G : GE) : (envG G).tt 53 = some { k := (.int .u64), size := 1, bytes := 8, zero := [(.int .u64 (0))], cmp := true, eq := true } := by kernel_rfl
@[simp] theorem tt54 (G : GE) : (envG G).tt 54 = some { k := (.struct [(0, 3), (1, 3), (2, 22)]), size := 3, bytes := 40, zero := [(.int .i64 (0)), (.int .i64 (0)), (.nums .u8 true [])], cmp := false, eq := true } := by kernel_rfl
@[simp] theorem tt55 (G : GE) : (envG G).tt 55 = some { k := (.struct [(0, 3), (1, 3), (2, 22)]), size := 3, bytes := 40, zero := [(.int .i64 (0)), (.int .i64 (0)), (.nums .u8 true [])], cmp := false, eq := true } := by kernel_rfl
@[simp] theorem tt56 (G : GE) : (envG G).tt 56 = some { k := .fn, size := 1, bytes := 8, zero := [.nilfn], cmp := false, eq := true } := by kernel_rfl
@[simp] theorem tt57 (G : GE) : (envG G).tt 57 = some { k := .fn, size := 1, bytes := 8, zero := [.nilfn], cmp := false, eq := true } := by kernel_rfl
@[simp] theorem tt58 (G : GE) : (envG G).tt 58 = some { k := .fn, size := 1, bytes := 8, zero := [.nilfn], cmp := false, eq := true } := by kernel_rfl
@[simp] theorem tt59 (G : GE) : (envG G).tt 59 = some { k := .fn, size := 1, bytes := 8, zero := [.nilfn], cmp := false, eq := true } := by kernel_rfl
@[simp] theorem tt60 (G : GE) : (envG G).tt 60 = some { k := .fn, size := 1, bytes := 8, zero := [.nilfn], cmp := false, eq := true } := by kernel_rfl
@[simp] theorem tt61 (G : GE) : (envG G).tt 61 = some { k := .fn, size := 1, bytes := 8, zero := [.nilfn], cmp := false, eq := true } := by kernel_rfl
@[simp] theorem tt62 (G : GE) : (envG G).tt 62 = some { k := .fn, size := 1, bytes := 8, zero := [.nilfn], cmp := false, eq := true } := by kernel_rfl
@[simp] theorem tt63 (G : GE) : (envG G).tt 63 = some { k := (.arr 6 53), size := 6, bytes := 48, zero := [(.int .u64 (0)), (.int .u64 (0)), (.int .u64 (0)), (.int .u64 (0)), (.int .u64 (0)), (.int .u64 (0))], cmp := true, eq := true } := by kernel_rfl
@[simp] theorem tt64 (G : GE) : (envG G).tt 64 = some { k := (.arr 6 53), size := 6, bytes := 48, zero := [(.int .u64 (0)), (.int .u64 (0)), (.int .u64 (0)), (.int .u64 (0)), (.int .u64 (0)), (.int .u64 (0))], cmp := true, eq := true } := by kernel_rfl
@[simp] theorem tt65 (G : GE) : (envG G).tt 65 = some { k := (.struct [(0, 64), (6, 64)]), size := 12, bytes := 96, zero := [(.int .u64 (0)), (.int .u64 (0)), (.int .u64 (0)), (.int .u64 (0)), (.int .u64 (0)), (.int .u64 (0)), (.int .u64 (0)), (.int .u64 (0)), (.int .u64 (0)), (.int .u64 (0)), (.int .u64 (0)), (.int .u64 (0))], cmp := true, eq := true } := by kernel_rfl
@[simp] theorem tt66 (G : GE) : (envG G).tt 66 = some { k := (.struct [(0, 64), (6, 64)]), size := 12, bytes := 96, zero := [(.int .u64 (0)), (.int .u64 (0)), (.int .u64 (0)), (.int .u64 (0)), (.int .u64 (0)), (.int .u64 (0)), (.int .u64 (0)), (.int .u64 (0)), (.int .u64 (0)), (.int .u64 (0)), (.int .u64 (0)), (.int .u64 (0))], cmp := true, eq := true } := by kernel_rfl
@[simp] theorem tt67 (G : GE) : (envG G).tt 67 = some { k := .fn, size := 1, bytes := 8, zero := [.nilfn], cmp := false, eq := true } := by kernel_rfl
@[simp] theorem tt68 (G : GE) : (envG G).tt 68 = some { k := .fn, size := 1, bytes := 8, zero := [.nilfn], cmp := false, eq := true } := by kernel_rfl
@[simp] theorem tt70 (G : GE) : (envG G).tt 70 = some { k := .fn, size := 1, bytes := 8, zero := [.nilfn], cmp := false, eq := true } := by kernel_rfl
@[simp] theorem tt71 (G : GE) : (envG G).tt 71 = some { k := .fn, size := 1, bytes := 8, zero := [.nilfn], cmp := false, eq := true } := by kernel_rfl
@[simp] theorem tt72 (G : GE) : (envG G).tt 72 = some { k := (.slice 53), size := 1, bytes := 24, zero := [(.nums .u64 true [])], cmp := false, eq := true } := by kernel_rfl
@[simp] theorem tt73 (G : GE) : (envG G).tt 73 = some { k := (.slice 53), size := 1, bytes := 24, zero := [(.nums .u64 true [])], cmp := false, eq := true } := by kernel_rfl
@[simp] theorem tt74 (G : GE) : (envG G).tt 74 = some { k := .fn, size := 1, bytes := 8, zero := [.nilfn], cmp := false, eq := true } := by kernel_rfl
@[simp] theorem tt75 (G : GE) : (envG G).tt 75 = some { k := .fn, size := 1, bytes := 8, zero := [.nilfn], cmp := false, eq := true } := by kernel_rfl
@[simp] theorem tt77 (G : GE) : (envG G).tt 77 = some { k := .fn, size := 1, bytes := 8, zero := [.nilfn], cmp := false, eq := true } := by kernel_rfl
@[simp] theorem tt78 (G : GE) : (envG G).tt 78 = some { k := .fn, size := 1, bytes := 8, zero := [.nilfn], cmp := false, eq := true } := by kernel_rfl
@[simp] theorem tt80 (G : GE) : (envG G).tt 80 = some { k := .fn, size := 1, bytes := 8, zero := [.nilfn], cmp := false, eq := true } := by kernel_rfl
@[simp] theorem tt81 (G : GE) : (envG G).tt 81 = some { k := .fn, size := 1, bytes := 8, zero := [.nilfn], cmp := false, eq := true } := by kernel_rfl
@[simp] theorem tt82 (G : GE) : (envG G).tt 82 = some { k := .fn, size := 1, bytes := 8, zero := [.nilfn], cmp := false, eq := true } := by kernel_rfl
@[simp] theorem tt83 (G : GE) : (envG G).tt 83 = some { k := .fn, size := 1, bytes := 8, zero := [.nilfn], cmp := false, eq := true } := by kernel_rfl
@[simp] theorem tt84 (G : GE) : (envG G).tt 84 = some { k := .fn, size := 1, bytes := 8, zero := [.nilfn], cmp := false, eq := true } := by kernel_rfl
@[simp] theorem tt85 (G : GE) : (envG G).tt 85 = some { k := .fn, size := 1, bytes := 8, zero := [.nilfn], cmp := false, eq := true } := by kernel_rfl
@[simp] theorem tt87 (G : GE) : (envG G).tt 87 = some { k := .fn, size := 1, bytes := 8, zero := [.nilfn], cmp := false, eq := true } := by kernel_rfl
@[simp] theorem tt88 (G : GE) : (envG G).tt 88 = some { k := .fn, size := 1, bytes := 8, zero := [.nilfn], cmp := false, eq := true } := by kernel_rfl
@[simp] theorem tt89 (G : GE) : (envG G).tt 89 = some { k := (.struct [(0, 64), (6, 64), (12, 4)]), size := 13, bytes := 104, zero := [(.int .u64 (0)), (.int .u64 (0)), (.int .u64 (0)), (.int .u64 (0)), (.int .u64 (0)), (.int .u64 (0)), (.int .u64 (0)), (.int .u64 (0)), (.int .u64 (0)), (.int .u64 (0)), (.int .u64 (0)), (.int .u64 (0)), (.bool false)], cmp := true, eq := true } := by kernel_rfl
@[simp] theorem tt90 (G : GE) : (envG G).tt 90 = some { k := (.struct [(0, 64), (6, 64), (12, 4)]), size := 13, bytes := 104, zero := [(.int .u64 (0)), (.int .u64 (0)), (.int .u64 (0)), (.int .u64 (0)), (.int .u64 (0)), (.int .u64 (0)), (.int .u64 (0)), (.int .u64 (0)), (.int .u64 (0)), (.int .u64 (0)), (.int .u64 (0)), (.int .u64 (0)), (.bool false)], cmp := true, eq := true } := by kernel_rfl
@[simp] theorem tt91 (G : GE) : (envG G).tt 91 = some { k := .fn, size := 1, bytes := 8, zero := [.nilfn], cmp := false, eq := true } := by kernel_rfl
@[simp] theorem tt92 (G : GE) : (envG G).tt 92 = some { k := .fn, size := 1, bytes := 8, zero := [.nilfn], cmp := false, eq := true } := by kernel_rfl
@[simp] theorem tt93 (G : GE) : (envG G).tt 93 = some { k := .fn, size := 1, bytes := 8, zero := [.nilfn], cmp := false, eq := true } := by kernel_rfl
@[simp] theorem tt94 (G : GE) : (envG G).tt 94 = some { k := .fn, size := 1, bytes := 8, zero := [.nilfn], cmp := false, eq := true } := by kernel_rfl
@[simp] theorem tt96 (G : GE) : (envG G).tt 96 = some { k := (.struct [(0, 22)]), size := 1, bytes := 24, zero := [(.nums .u8 true [])], cmp := false, eq := true } := by kernel_rfl
@[simp] theorem tt97 (G : GE) : (envG G).tt 97 = some { k := (.struct [(0, 22)]), size := 1, bytes := 24, zero := [(.nums .u8 true [])], cmp := false, eq := true } := by kernel_rfl
@[simp] theorem tt98 (G : GE) : (envG G).tt 98 = some { k := .fn, size := 1, bytes := 8, zero := [.nilfn], cmp := false, eq := true } := by kernel_rfl
@[simp] theorem tt99 (G : GE) : (envG G).tt 99 = some { k := .fn, size := 1, bytes := 8, zero := [.nilfn], cmp := false, eq := true } := by kernel_rfl
@[simp] theorem tt100 (G : GE) : (envG G).tt 100 = some { k := .ptr, size := 1, bytes := 8, zero := [.nilptr], cmp := true, eq := true } := by kernel_rfl
@[simp] theorem tt101 (G : GE) : (envG G).tt 101 = some { k := (.struct [(0, 22), (1, 3), (2, 3)]), size := 3, bytes := 40, zero := [(.nums .u8 true []), (.int .i64 (0)), (.int .i64 (0))], cmp := false, eq := true } := by kernel_rfl
@[simp] theorem tt102 (G : GE) : (envG G).tt 102 = some { k := (.struct [(0, 22), (1, 3), (2, 3)]), size := 3, bytes := 40, zero := [(.nums .u8 true []), (.int .i64 (0)), (.int .i64 (0))], cmp := false, eq := true } := by kernel_rfl
@[simp] theorem tt104 (G : GE) : (envG G).tt 104 = some { k := .fn, size := 1, bytes := 8, zero := [.nilfn], cmp := false, eq := true } := by kernel_rfl
@[simp] theorem tt105 (G : GE) : (envG G).tt 105 = some { k := .ptr, size := 1, bytes := 8, zero := [.nilptr], cmp := true, eq := true } := by kernel_rfl
@[simp] theorem tt106 (G : GE) : (envG G).tt 106 = some { k := .fn, size := 1, bytes := 8, zero := [.nilfn], cmp := false, eq := true } := by kernel_rfl
@[simp] theorem tt107 (G : GE) : (envG G).tt 107 = some { k := .ptr, size := 1, bytes := 8, zero := [.nilptr], cmp := true, eq := true } := by kernel_rfl
@[simp] theorem tt108 (G : GE) : (envG G).tt 108 = some { k := (.struct [(0, 3), (1, 28)]), size := 2, bytes := 24, zero := [(.int .i64 (0)), .nilifc], cmp := true, eq := false } := by kernel_rfl
@[simp] theorem tt109 (G : GE) : (envG G).tt 109 = some { k := (.struct [(0, 3), (1, 28)]), size := 2, bytes := 24, zero := [(.int .i64 (0)), .nilifc], cmp := true, eq := false } := by kernel_rfl
@[simp] theorem tt111 (G : GE) : (envG G).tt 111 = some { k := .fn, size := 1, bytes := 8, zero := [.nilfn], cmp := false, eq := true } := by kernel_rfl
@[simp] theorem tt112 (G : GE) : (envG G).tt 112 = some { k := .fn, size := 1, bytes := 8, zero := [.nilfn], cmp := false, eq := true } := by kernel_rfl
@[simp] theorem tt113 (G : GE) : (envG G).tt 113 = some { k := .fn, size := 1, bytes := 8, zero := [.nilfn], cmp := false, eq := true } := by kernel_rfl
@[simp] theorem tt114 (G : GE) : (envG G).tt 114 = some { k := .fn, size := 1, bytes := 8, zero := [.nilfn], cmp := false, eq := true } := by kernel_rfl
@[simp] theorem tt115 (G : GE) : (envG G).tt 115 = some { k := .ptr, size := 1, bytes := 8, zero := [.nilptr], cmp := true, eq := true } := by kernel_rfl
@[simp] theorem tt116 (G : GE) : (envG G).tt 116 = some { k := (.slice 115), size := 1, bytes := 24, zero := [(.sl 1 true [])], cmp := false, eq := true } := by kernel_rfl
@[simp] theorem tt118 (G : GE) : (envG G).tt 118 = some { k := .fn, size := 1, bytes := 8, zero := [.nilfn], cmp := false, eq := true } := by kernel_rfl
@[simp] theorem tt119 (G : GE) : (envG G).tt 119 = some { k := (.slice 3), size := 1, bytes := 24, zero := [(.nums .i64 true [])], cmp := false, eq := true } := by kernel_rfl
@[simp] theorem tt120 (G : GE) : (envG G).tt 120 = some { k := .ptr, size := 1, bytes := 8, zero := [.nilptr], cmp := true, eq := true } := by kernel_rfl
@[simp] theorem tt121 (G : GE) : (envG G).tt 121 = some { k := (.slice 120), size := 1, bytes := 24, zero := [(.sl 1 true [])], cmp := false, eq := true } := by kernel_rfl
@[simp] theorem tt122 (G : GE) : (envG G).tt 122 = some { k := .fn, size := 1, bytes := 8, zero := [.nilfn], cmp := false, eq := true } := by kernel_rfl
@[simp] theorem tt123 (G : GE) : (envG G).tt 123 = some { k := .fn, size := 1, bytes := 8, zero := [.nilfn], cmp := false, eq := true } := by kernel_rfl
@[simp] theorem tt124 (G : GE) : (envG G).tt 124 = some { k := .fn, size := 1, bytes := 8, zero := [.nilfn], cmp := false, eq := true } := by kernel_rfl
@[simp] theorem tt125 (G : GE) : (envG G).tt 125 = some { k := (.arr 2 22), size := 2, bytes := 48, zero := [(.nums .u8 true []), (.nums .u8 true [])], cmp := false, eq := true } := by kernel_rfl
@[simp] theorem tt126 (G : GE) : (envG G).tt 126 = some { k := (.struct [(0, 125), (2, 22), (3, 53), (4, 4), (5, 3), (6, 3)]), size := 7, bytes := 104, zero := [(.nums .u8 true []), (.nums .u8 true []), (.nums .u8 true []), (.int .u64 (0)), (.bool false), (.int .i64 (0)), (.int .i64 (0))], cmp := false, eq := true } := by kernel_rfl
@[simp] theorem tt127 (G : GE) : (envG G).tt 127 = some { k := (.struct [(0, 125), (2, 22), (3, 53), (4, 4), (5, 3), (6, 3)]), size := 7, bytes := 104, zero := [(.nums .u8 true []), (.nums .u8 true []), (.nums .u8 true []), (.int .u64 (0)), (.bool false), (.int .i64 (0)), (.int .i64 (0))], cmp := false, eq := true } := by kernel_rfl
@[simp] theorem tt128 (G : GE) : (envG G).tt 128 = some { k := .fn, size := 1, bytes := 8, zero := [.nilfn], cmp := false, eq := true } := by kernel_rfl
@[simp] theorem tt129 (G : GE) : (envG G).tt 129 = some { k := .fn, size := 1, bytes := 8, zero := [.nilfn], cmp := false, eq := true } := by kernel_rfl
@[simp] theorem tt130 (G : GE) : (envG G).tt 130 = some { k := .fn, size := 1, bytes := 8, zero := [.nilfn], cmp := false, eq := true } := by kernel_rfl
@[simp] theorem tt131 (G : GE) : (envG G).tt 131 = some { k := .fn, size := 1, bytes := 8, zero := [.nilfn], cmp := false, eq := true } := by kernel_rfl
@[simp] theorem tt132 (G : GE) : (envG G).tt 132 = some { k := .fn, size := 1, bytes := 8, zero := [.nilfn], cmp := false, eq := true } := by kernel_rfl
@[simp] theorem tt133 (G : GE) : (envG G).tt 133 = some { k := .fn, size := 1, bytes := 8, zero := [.nilfn], cmp := false, eq := true } := by kernel_rfl
@[simp] theorem tt134 (G : GE) : (envG G).tt 134 = some { k := .fn, size := 1, bytes := 8, zero := [.nilfn], cmp := false, eq := true } := by kernel_rfl
@[simp] theorem tt135 (G : GE) : (envG G).tt 135 = some { k := .fn, size := 1, bytes := 8, zero := [.nilfn], cmp := false, eq := true } := by kernel_rfl
@[simp] theorem tt137 (G : GE) : (envG G).tt 137 = some { k := .fn, size := 1, bytes := 8, zero := [.nilfn], cmp := false, eq := true } := by kernel_rfl
@[simp] theorem tt138 (G : GE) : (envG G).tt 138 = some { k := .fn, size := 1, bytes := 8, zero := [.nilfn], cmp := false, eq := true } := by kernel_rfl
@[simp] theorem tt139 (G : GE) : (envG G).tt 139 = some { k := (.struct [(0, 64), (6, 64), (12, 64)]), size := 18, bytes := 144, zero := [(.int .u64 (0)), (.int .u64 (0)), (.int .u64 (0)), (.int .u64 (0)), (.int .u64 (0)), (.int .u64 (0)), (.int .u64 (0)), (.int .u64 (0)), (.int .u64 (0)), (.int .u64 (0)), (.int .u64 (0)), (.int .u64 (0)), (.int .u64 (0)), (.int .u64 (0)), (.int .u64 (0)), (.int .u64 (0)), (.int .u64 (0)), (.int .u64 (0))], cmp := true, eq := true } := by kernel_rfl
@[simp] theorem tt140 (G : GE) : (envG G).tt 140 = some { k := (.struct [(0, 64), (6, 64), (12, 64)]), size := 18, bytes := 144, zero := [(.int .u64 (0)), (.int .u64 (0)), (.int .u64 (0)), (.int .u64 (0)), (.int .u64 (0)), (.int .u64 (0)), (.int .u64 (0)), (.int .u64 (0)), (.int .u64 (0)), (.int .u64 (0)), (.int .u64 (0)), (.int .u64 (0)), (.int .u64 (0)), (.int .u64 (0)), (.int .u64 (0)), (.int .u64 (0)), (.int .u64 (0)), (.int .u64 (0))], cmp := true, eq := true } := by kernel_rfl
@[simp] theorem tt141 (G : GE) : (envG G).tt 141 = some { k := .fn, size := 1, bytes := 8, zero := [.nilfn], cmp := false, eq := true } := by kernel_rfl
@[simp] theorem tt142 (G : GE) : (envG G).tt 142 = some { k := .fn, size := 1, bytes := 8, zero := [.nilfn], cmp := false, eq := true } := by kernel_rfl
@[simp] theorem tt143 (G : GE) : (envG G).tt 143 = some { k := .fn, size := 1, bytes := 8, zero := [.nilfn], cmp := false, eq := true } := by kernel_rfl
@[simp] theorem tt144 (G : GE) : (envG G).tt 144 = some { k := .fn, size := 1, bytes := 8, zero := [.nilfn], cmp := false, eq := true } := by kernel_rfl
@[simp] theorem tt145 (G : GE) : (envG G).tt 145 = some { k := (.struct [(0, 64), (6, 53), (7, 64)]), size := 13, bytes := 104, zero := [(.int .u64 (0)), (.int .u64 (0)), (.int .u64 (0)), (.int .u64 (0)), (.int .u64 (0)), (.int .u64 (0)), (.int .u64 (0)), (.int .u64 (0)), (.int .u64 (0)), (.int .u64 (0)), (.int .u64 (0)), (.int .u64 (0)), (.int .u64 (0))], cmp := true, eq := true } := by kernel_rfl
@[simp] theorem tt146 (G : GE) : (envG G).tt 146 = some { k := (.struct [(0, 64), (6, 53), (7, 64)]), size := 13, bytes := 104, zero := [(.int .u64 (0)), (.int .u64 (0)), (.int .u64 (0)), (.int .u64 (0)), (.int .u64 (0)), (.int .u64 (0)), (.int .u64 (0)), (.int .u64 (0)), (.int .u64 (0)), (.int .u64 (0)), (.int .u64 (0)), (.int .u64 (0)), (.int .u64 (0))], cmp := true, eq := true } := by kernel_rfl
@[simp] theorem tt148 (G : GE) : (envG G).tt 148 = some { k := .fn, size := 1, bytes := 8, zero := [.nilfn], cmp := false, eq := true } := by kernel_rfl
@[simp] theorem tt149 (G : GE) : (envG G).tt 149 = some { k := (.int .u64), size := 1, bytes := 8, zero := [(.int .u64 (0))], cmp := true, eq := true } := by kernel_rfl
@[simp] theorem tt151 (G : GE) : (envG G).tt 151 = some { k := .fn, size := 1, bytes := 8, zero := [.nilfn], cmp := false, eq := true } := by kernel_rfl
@[simp] theorem tt152 (G : GE) : (envG G).tt 152 = some { k := .fn, size := 1, bytes := 8, zero := [.nilfn], cmp := false, eq := true } := by kernel_rfl
@[simp] theorem tt154 (G : GE) : (envG G).tt 154 = some { k := .fn, size := 1, bytes := 8, zero := [.nilfn], cmp := false, eq := true } := by kernel_rfl
@[simp] theorem tt156 (G : GE) : (envG G).tt 156 = some { k := (.int .u64), size := 1, bytes := 8, zero := [(.int .u64 (0))], cmp := true, eq := true } := by kernel_rfl
@[simp] theorem tt159 (G : GE) : (envG G).tt 159 = some { k := .fn, size := 1, bytes := 8, zero := [.nilfn], cmp := false, eq := true } := by kernel_rfl
@[simp] theorem tt160 (G : GE) : (envG G).tt 160 = some { k := .iface, size := 1, bytes := 16, zero := [.nilifc], cmp := true, eq := true } := by kernel_rfl
@[simp] theorem tt161 (G : GE) : (envG G).tt 161 = some { k := .iface, size := 1, bytes := 16, zero := [.nilifc], cmp := true, eq := true } := by kernel_rfl
@[simp] theorem tt162 (G : GE) : (envG G).tt 162 = some { k := .fn, size := 1, bytes := 8, zero := [.nilfn], cmp := false, eq := true } := by kernel_rfl
@[simp] theorem tt163 (G : GE) : (envG G).tt 163 = some { k := (.int .u8), size := 1, bytes := 1, zero := [(.int .u8 (0))], cmp := true, eq := true } := by kernel_rfl
@[simp] theorem tt164 (G : GE) : (envG G).tt 164 = some { k := .fn, size := 1, bytes := 8, zero := [.nilfn], cmp := false, eq := true } := by kernel_rfl
@[simp] theorem tt165 (G : GE) : (envG G).tt 165 = some { k := .fn, size := 1, bytes := 8, zero := [.nilfn], cmp := false, eq := true } := by kernel_rfl
@[simp] theorem tt166 (G : GE) : (envG G).tt 166 = some { k := .fn, size := 1, bytes := 8, zero := [.nilfn], cmp := false, eq := true } := by kernel_rfl
@[simp] theorem tt167 (G : GE) : (envG G).tt 167 = some { k := .fn, size := 1, bytes := 8, zero := [.nilfn], cmp := false, eq := true } := by kernel_rfl
@[simp] theorem tt168 (G : GE) : (envG G).tt 168 = some { k := .fn, size := 1, bytes := 8, zero := [.nilfn], cmp := false, eq := true } := by kernel_rfl
@[simp] theorem tt169 (G : GE) : (envG G).tt 169 = some { k := .fn, size := 1, bytes := 8, zero := [.nilfn], cmp := false, eq := true } := by kernel_rfl
@[simp] theorem tt170 (G : GE) : (envG G).tt 170 = some { k := .fn, size := 1, bytes := 8, zero := [.nilfn], cmp := false, eq := true } := by kernel_rfl
@[simp] theorem tt171 (G : GE) : (envG G).tt 171 = some { k := .fn, size := 1, bytes := 8, zero := [.nilfn], cmp := false, eq := true } := by kernel_rfl
@[simp] theorem tt172 (G : GE) : (envG G).tt 172 = some { k := .fn, size := 1, bytes := 8, zero := [.nilfn], cmp := false, eq := true } := by kernel_rfl
@[simp] theorem tt173 (G : GE) : (envG G).tt 173 = some { k := .fn, size := 1, bytes := 8, zero := [.nilfn], cmp := false, eq := true } := by kernel_rfl
@[simp] theorem tt175 (G : GE) : (envG G).tt 175 = some { k := .fn, size := 1, bytes := 8, zero := [.nilfn], cmp := false, eq := true } := by kernel_rfl
@[simp] theorem tt176 (G : GE) : (envG G).tt 176 = some { k := .fn, size := 1, bytes := 8, zero := [.nilfn], cmp := false, eq := true } := by kernel_rfl
@[simp] theorem tt177 (G : GE) : (envG G).tt 177 = some { k := .fn, size := 1, bytes := 8, zero := [.nilfn], cmp := false, eq := true } := by kernel_rfl
@[simp] theorem tt178 (G : GE) : (envG G).tt 178 = some { k := .fn, size := 1, bytes := 8, zero := [.nilfn], cmp := false, eq := true } := by kernel_rfl
@[simp] theorem tt179 (G : GE) : (envG G).tt 179 = some { k := .fn, size := 1, bytes := 8, zero := [.nilfn], cmp := false, eq := true } := by kernel_rfl
@[simp] theorem tt180 (G : GE) : (envG G).tt 180 = some { k := .fn, size := 1, bytes := 8, zero := [.nilfn], cmp := false, eq := true } := by kernel_rfl
@[simp] theorem tt181 (G : GE) : (envG G).tt 181 = some { k := .fn, size := 1, bytes := 8, zero := [.nilfn], cmp := false, eq := true } := by kernel_rfl
@[simp] theorem tt182 (G : GE) : (envG G).tt 182 = some { k := .fn, size := 1, bytes := 8, zero := [.nilfn], cmp := false, eq := true } := by kernel_rfl
@[simp] theorem tt183 (G : GE) : (envG G).tt 183 = some { k := .fn, size := 1, bytes := 8, zero := [.nilfn], cmp := false, eq := true } := by kernel_rfl
@[simp] theorem tt184 (G : GE) : (envG G).tt 184 = some { k := .fn, size := 1, bytes := 8, zero := [.nilfn], cmp := false, eq := true } := by kernel_rfl
@[simp] theorem tt186 (G : GE) : (envG G).tt 186 = some { k := .fn, size := 1, bytes := 8, zero := [.nilfn], cmp := false, eq := true } := by kernel_rfl
@[simp] theorem tt187 (G : GE) : (envG G).tt 187 = some { k := .fn, size := 1, bytes := 8, zero := [.nilfn], cmp := false, eq := true } := by kernel_rfl
@[simp] theorem tt190 (G : GE) : (envG G).tt 190 = some { k := .ptr, size := 1, bytes := 8, zero := [.nilptr], cmp := true, eq := true } := by kernel_rfl
@[simp] theorem tt191 (G : GE) : (envG G).tt 191 = some { k := .fn, size := 1, bytes := 8, zero := [.nilfn], cmp := false, eq := true } := by kernel_rfl
@[simp] theorem tt192 (G : GE) : (envG G).tt 192 = some { k := .fn, size := 1, bytes := 8, zero := [.nilfn], cmp := false, eq := true } := by kernel_rfl
@[simp] theorem tt193 (G : GE) : (envG G).tt 193 = some { k := .iface, size := 1, bytes := 16, zero := [.nilifc], cmp := true, eq := true } := by kernel_rfl
@[simp] theorem tt195 (G : GE) : (envG G).tt 195 = some { k := .fn, size := 1, bytes := 8, zero := [.nilfn], cmp := false, eq := true } := by kernel_rfl
@[simp] theorem tt196 (G : GE) : (envG G).tt 196 = some { k := .iface, size := 1, bytes := 16, zero := [.nilifc], cmp := true, eq := true } := by kernel_rfl
@[simp] theorem tt197 (G : GE) : (envG G).tt 197 = some { k := .fn, size := 1, bytes := 8, zero := [.nilfn], cmp := false, eq := true } := by kernel_rfl
@[simp] theorem tt198 (G : GE) : (envG G).tt 198 = some { k := .iface, size := 1, bytes := 16, zero := [.nilifc], cmp := true, eq := true } := by kernel_rfl
@[simp] theorem tt199 (G : GE) : (envG G).tt 199 = some { k := (.slice 28), size := 1, bytes := 24, zero := [(.sl 1 true [])], cmp := false, eq := true } := by kernel_rfl
@[simp] theorem tt200 (G : GE) : (envG G).tt 200 = some { k := .fn, size := 1, bytes := 8, zero := [.nilfn], cmp := false, eq := true } := by kernel_rfl
@[simp] theorem tt201 (G : GE) : (envG G).tt 201 = some { k := .iface, size := 1, bytes := 16, zero := [.nilifc], cmp := true, eq := true } := by kernel_rfl
@[simp] theorem tt203 (G : GE) : (envG G).tt 203 = some { k := .fn, size := 1, bytes := 8, zero := [.nilfn], cmp := false, eq := true } := by kernel_rfl
@[simp] theorem tt204 (G : GE) : (envG G).tt 204 = some { k := .fn, size := 1, bytes := 8, zero := [.nilfn], cmp := false, eq := true } := by kernel_rfl
@[simp] theorem tt205 (G : GE) : (envG G).tt 205 = some { k := (.arr 64 5), size := 64, bytes := 64, zero := [(.int .u8 (0)), (.int .u8 (0)), (.int .u8 (0)), (.int .u8 (0)), (.int .u8 (0)), (.int .u8 (0)), (.int .u8 (0)), (.int .u8 (0)), (.int .u8 (0)), (.int .u8 (0)), (.int .u8 (0)), (.int .u8 (0)), (.int .u8 (0)), (.int .u8 (0)), (.int .u8 (0)), (.int .u8 (0)), (.int .u8 (0)), (.int .u8 (0)), (.int .u8 (0)), (.int .u8 (0)), (.int .u8 (0)), (.int .u8 (0)), (.int .u8 (0)), (.int .u8 (0)), (.int .u8 (0)), (.int .u8 (0)), (.int .u8 (0)), (.int .u8 (0)), (.int .u8 (0)), (.int .u8 (0)), (.int .u8 (0)), (.int .u8 (0)), (.int .u8 (0)), (.int .u8 (0)), (.int .u8 (0)), (.int .u8 (0)), (.int .u8 (0)), (.int .u8 (0)), (.int .u8 (0)), (.int .u8 (0)), (.int .u8 (0)), (.int .u8 (0)), (.int .u8 (0)), (.int .u8 (0)), (.int .u8 (0)), (.int .u8 (0)), (.int .u8 (0)), (.int .u8 (0)), (.int .u8 (0)), (.int .u8 (0)), (.int .u8 (0)), (.int .u8 (0)), (.int .u8 (0)), (.int .u8 (0)), (.int .u8 (0)), (.int .u8 (0)), (.int .u8 (0)), (.int .u8 (0)), (.int .u8 (0)), (.int .u8 (0)), (.int .u8 (0)), (.int .u8 (0)), (.int .u8 (0)), (.int .u8 (0))], cmp := true, eq := true } := by kernel_rfl
@[simp] theorem tt206 (G : GE) : (envG G).tt 206 = some { k := (.arr 4 140), size := 72, bytes := 576, zero := [(.int .u64 (0)), (.int .u64 (0)), (.int .u64 (0)), (.int .u64 (0)), (.int .u64 (0)), (.int .u64 (0)), (.int .u64 (0)), (.int .u64 (0)), (.int .u64 (0)), (.int .u64 (0)), (.int .u64 (0)), (.int .u64 (0)), (.int .u64 (0)), (.int .u64 (0)), (.int .u64 (0)), (.int .u64 (0)), (.int .u64 (0)), (.int .u64 (0)), (.int .u64 (0)), (.int .u64 (0)), (.int .u64 (0)), (.int .u64 (0)), (.int .u64 (0)), (.int .u64 (0)), (.int .u64 (0)), (.int .u64 (0)), (.int .u64 (0)), (.int .u64 (0)), (.int .u64 (0)), (.int .u64 (0)), (.int .u64 (0)), (.int .u64 (0)), (.int .u64 (0)), (.int .u64 (0)), (.int .u64 (0)), (.int .u64 (0)), (.int .u64 (0)), (.int .u64 (0)), (.int .u64 (0)), (.int .u64 (0)), (.int .u64 (0)), (.int .u64 (0)), (.int .u64 (0)), (.int .u64 (0)), (.int .u64 (0)), (.int .u64 (0)), (.int .u64 (0)), (.int .u64 (0)), (.int .u64 (0)), (.int .u64 (0)), (.int .u64 (0)), (.int .u64 (0)), (.int .u64 (0)), (.int .u64 (0)), (.int .u64 (0)), (.int .u64 (0)), (.int .u64 (0)), (.int .u64 (0)), (.int .u64 (0)), (.int .u64 (0)), (.int .u64 (0)), (.int .u64 (0)), (.int .u64 (0)), (.int .u64 (0)), (.int .u64 (0)), (.int .u64 (0)), (.int .u64 (0)), (.int .u64 (0)), (.int .u64 (0)), (.int .u64 (0)), (.int .u64 (0)), (.int .u64 (0))], cmp := true, eq := true } := by kernel_rfl
@[simp] theorem tt207 (G : GE) : (envG G).tt 207 = some { k := .fn, size := 1, bytes := 8, zero := [.nilfn], cmp := false, eq := true } := by kernel_rfl
@[simp] theorem tt208 (G : GE) : (envG G).tt 208 = some { k := (.arr 12 53), size := 12, bytes := 96, zero := [(.int .u64 (0)), (.int .u64 (0)), (.int .u64 (0)), (.int .u64 (0)), (.int .u64 (0)), (.int .u64 (0)), (.int .u64 (0)), (.int .u64 (0)), (.int .u64 (0)), (.int .u64 (0)), (.int .u64 (0)), (.int .u64 (0))], cmp := true, eq := true } := by kernel_rfl
@[simp] theorem tt209 (G : GE) : (envG G).tt 209 = some { k := (.arr 12 53), size := 12, bytes := 96, zero := [(.int .u64 (0)), (.int .u64 (0)), (.int .u64 (0)), (.int .u64 (0)), (.int .u64 (0)), (.int .u64 (0)), (.int .u64 (0)), (.int .u64 (0)), (.int .u64 (0)), (.int .u64 (0)), (.int .u64 (0)), (.int .u64 (0))], cmp := true, eq := true } := by kernel_rfl
@[simp] theorem tt210 (G : GE) : (envG G).tt 210 = some { k := .fn, size := 1, bytes := 8, zero := [.nilfn], cmp := false, eq := true } := by kernel_rfl
@[simp] theorem tt211 (G : GE) : (envG G).tt 211 = some { k := .fn, size := 1, bytes := 8, zero := [.nilfn], cmp := false, eq := true } := by kernel_rfl
@[simp] theorem tt212 (G : GE) : (envG G).tt 212 = some { k := .fn, size := 1, bytes := 8, zero := [.nilfn], cmp := false, eq := true } := by kernel_rfl
@[simp] theorem tt213 (G : GE) : (envG G).tt 213 = some { k := .fn, size := 1, bytes := 8, zero := [.nilfn], cmp := false, eq := true } := by kernel_rfl
@[simp] theorem tt216 (G : GE) : (envG G).tt 216 = some { k := (.arr 0 16), size := 0, bytes := 0, zero := [], cmp := true, eq := true } := by kernel_rfl
@[simp] theorem tt219 (G : GE) : (envG G).tt 219 = some { k := .fn, size := 1, bytes := 8, zero := [.nilfn], cmp := false, eq := true } := by kernel_rfl
@[simp] theorem tt220 (G : GE) : (envG G).tt 220 = some { k := (.int .u32), size := 1, bytes := 4, zero := [(.int .u32 (0))], cmp := true, eq := true } := by kernel_rfl
@[simp] theorem tt221 (G : GE) : (envG G).tt 221 = some { k := (.int .u8), size := 1, bytes := 1, zero := [(.int .u8 (0))], cmp := true, eq := true } := by kernel_rfl
@[simp] theorem tt222 (G : GE) : (envG G).tt 222 = some { k := .fn, size := 1, bytes := 8, zero := [.nilfn], cmp := false, eq := true } := by kernel_rfl
@[simp] theorem tt223 (G : GE) : (envG G).tt 223 = some { k := .ptr, size := 1, bytes := 8, zero := [.nilptr], cmp := true, eq := true } := by kernel_rfl
@[simp] theorem tt224 (G : GE) : (envG G).tt 224 = some { k := (.int .i32), size := 1, bytes := 4, zero := [(.int .i32 (0))], cmp := true, eq := true } := by kernel_rfl
@[simp] theorem tt225 (G : GE) : (envG G).tt 225 = some { k := (.int .i32), size := 1, bytes := 4, zero := [(.int .i32 (0))], cmp := true, eq := true } := by kernel_rfl
@[simp] theorem tt228 (G : GE) : (envG G).tt 228 = some { k := .fn, size := 1, bytes := 8, zero := [.nilfn], cmp := false, eq := true } := by kernel_rfl
@[simp] theorem tt229 (G : GE) : (envG G).tt 229 = some { k := .fn, size := 1, bytes := 8, zero := [.nilfn], cmp := false, eq := true } := by kernel_rfl
@[simp] theorem tt232 (G : GE) : (envG G).tt 232 = some { k := .ptr, size := 1, bytes := 8, zero := [.nilptr], cmp := true, eq := true } := by kernel_rfl
@[simp] theorem tt233 (G : GE) : (envG G).tt 233 = some { k := .fn, size := 1, bytes := 8, zero := [.nilfn], cmp := false, eq := true } := by kernel_rfl
@[simp] theorem tt234 (G : GE) : (envG G).tt 234 = some { k := (.int .u16), size := 1, bytes := 2, zero := [(.int .u16 (0))], cmp := true, eq := true } := by kernel_rfl
@[simp] theorem tt237 (G : GE) : (envG G).tt 237 = some { k := (.slice 240), size := 1, bytes := 24, zero := [(.sl 4 true [])], cmp := false, eq := true } := by kernel_rfl
@[simp] theorem tt238 (G : GE) : (envG G).tt 238 = some { k := (.int .i32), size := 1, bytes := 4, zero := [(.int .i32 (0))], cmp := true, eq := true } := by kernel_rfl
@[simp] theorem tt241 (G : GE) : (envG G).tt 241 = some { k := .ptr, size := 1, bytes := 8, zero := [.nilptr], cmp := true, eq := true } := by kernel_rfl
end Go.Proofs.YtjmcgdhekjkjfaaDoor
