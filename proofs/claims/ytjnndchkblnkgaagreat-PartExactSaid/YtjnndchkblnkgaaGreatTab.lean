/- The table of this seat's types, written by tab.py. -/
import Derived.Test.YtjnndchkblnkgaaGreatProg
import Derived.Test.YtjnndchkblnkgaaGreatEng1
namespace Go.Proofs.YtjnndchkblnkgaaGreat
open Go.RowKit
set_option maxRecDepth 100000
def Tb : Tab where
  sz := [(2, 1), (3, 1), (4, 1), (5, 1), (6, 1), (7, 4), (8, 4), (12, 1), (15, 1), (16, 1), (17, 1), (18, 1), (19, 1), (21, 1), (22, 1), (23, 1), (24, 1), (25, 3), (26, 3), (27, 1), (28, 4), (29, 4), (32, 6), (33, 6), (34, 8), (35, 8), (38, 1), (54, 2), (55, 2), (59, 1), (60, 1), (61, 5), (62, 5), (63, 2), (64, 2), (65, 1), (66, 3), (67, 3), (73, 1), (78, 2), (79, 2), (85, 1), (96, 1), (117, 1), (120, 1), (126, 1), (133, 0), (134, 0), (135, 0), (137, 1), (138, 1), (139, 1), (141, 1), (142, 1), (143, 1)]
  sc := [2, 3, 4, 5, 6, 12, 15, 16, 17, 21, 22, 23, 24, 27, 38, 59, 60, 65, 73, 85, 96, 117, 120, 126, 137, 138, 139, 141, 142, 143]
  ag := [7, 8, 18, 19, 25, 26, 28, 29, 32, 33, 34, 35, 54, 55, 61, 62, 63, 64, 66, 67, 78, 79, 133, 134, 135]
  sl := [(22, 55, 2), (23, 62, 5), (24, 64, 2), (27, 35, 8), (59, 3, 1), (60, 79, 2), (117, 4, 1), (120, 38, 1)]
  ar := [(133, 0, 16, 1)]
  fo := [(7, [0, 1, 2, 3]), (8, [0, 1, 2, 3]), (18, [0]), (19, [0]), (25, [0, 1, 2]), (26, [0, 1, 2]), (28, [0, 3]), (29, [0, 3]), (32, [0, 1, 2, 3, 4, 5]), (33, [0, 1, 2, 3, 4, 5]), (34, [0, 1, 7]), (35, [0, 1, 7]), (54, [0, 1]), (55, [0, 1]), (61, [0, 1, 2, 3, 4]), (62, [0, 1, 2, 3, 4]), (63, [0, 1]), (64, [0, 1]), (66, [0]), (67, [0]), (78, [0, 1]), (79, [0, 1])]
  pl := [(7, [(0, 1), (1, 1), (2, 1), (3, 1)]), (8, [(0, 1), (1, 1), (2, 1), (3, 1)]), (18, [(0, 1)]), (19, [(0, 1)]), (25, [(0, 1), (1, 1), (2, 1)]), (26, [(0, 1), (1, 1), (2, 1)]), (28, [(0, 3), (3, 1)]), (29, [(0, 3), (3, 1)]), (32, [(0, 1), (1, 1), (2, 1), (3, 1), (4, 1), (5, 1)]), (33, [(0, 1), (1, 1), (2, 1), (3, 1), (4, 1), (5, 1)]), (34, [(0, 1), (1, 6), (7, 1)]), (35, [(0, 1), (1, 6), (7, 1)]), (54, [(0, 1), (1, 1)]), (55, [(0, 1), (1, 1)]), (61, [(0, 1), (1, 1), (2, 1), (3, 1), (4, 1)]), (62, [(0, 1), (1, 1), (2, 1), (3, 1), (4, 1)]), (63, [(0, 1), (1, 1)]), (64, [(0, 1), (1, 1)]), (66, [(0, 3)]), (67, [(0, 3)]), (78, [(0, 1), (1, 1)]), (79, [(0, 1), (1, 1)])]
  ik := [(2, .i64), (3, .i64), (5, .u8), (6, .u8), (12, .u64), (21, .i32), (38, .i64), (126, .u64), (137, .u32), (138, .u8), (139, .u8), (142, .i32), (143, .i32)]
  bo := [4]
  eb := [(2, 8), (3, 8), (4, 1), (5, 1), (6, 1), (7, 24), (8, 24), (12, 8), (15, 8), (16, 8), (17, 8), (18, 8), (19, 8), (21, 4), (22, 24), (23, 24), (24, 24), (25, 72), (26, 72), (27, 24), (28, 96), (29, 96), (32, 48), (33, 48), (34, 64), (35, 64), (38, 8), (54, 16), (55, 16), (59, 24), (60, 24), (61, 64), (62, 64), (63, 16), (64, 16), (65, 8), (66, 72), (67, 72), (73, 8), (78, 16), (79, 16), (85, 8), (96, 8), (117, 24), (120, 24), (126, 8), (133, 0), (134, 0), (135, 0), (137, 4), (138, 1), (139, 1), (141, 8), (142, 4), (143, 4)]
  zs := [(2, .int .i64 0), (3, .int .i64 0), (4, .bool false), (5, .int .u8 0), (6, .int .u8 0), (7, .agg #[.int .i64 0, .int .i64 0, .bool false, .int .u8 0]), (8, .agg #[.int .i64 0, .int .i64 0, .bool false, .int .u8 0]), (12, .int .u64 0), (15, .pointer none), (16, .pointer none), (17, .pointer none), (18, .agg #[.pointer none]), (19, .agg #[.pointer none]), (21, .int .i32 0), (22, .slice none 0 0), (23, .slice none 0 0), (24, .slice none 0 0), (25, .agg #[.slice none 0 0, .slice none 0 0, .slice none 0 0]), (26, .agg #[.slice none 0 0, .slice none 0 0, .slice none 0 0]), (27, .slice none 0 0), (28, .agg #[.slice none 0 0, .slice none 0 0, .slice none 0 0, .slice none 0 0]), (29, .agg #[.slice none 0 0, .slice none 0 0, .slice none 0 0, .slice none 0 0]), (32, .agg #[.int .i64 0, .int .i64 0, .int .i64 0, .int .i64 0, .int .i64 0, .int .i64 0]), (33, .agg #[.int .i64 0, .int .i64 0, .int .i64 0, .int .i64 0, .int .i64 0, .int .i64 0]), (34, .agg #[.int .i64 0, .int .i64 0, .int .i64 0, .int .i64 0, .int .i64 0, .int .i64 0, .int .i64 0, .bool false]), (35, .agg #[.int .i64 0, .int .i64 0, .int .i64 0, .int .i64 0, .int .i64 0, .int .i64 0, .int .i64 0, .bool false]), (38, .int .i64 0), (54, .agg #[.int .i64 0, .int .i64 0]), (55, .agg #[.int .i64 0, .int .i64 0]), (59, .slice none 0 0), (60, .slice none 0 0), (61, .agg #[.bool false, .bool false, .int .i64 0, .slice none 0 0, .slice none 0 0]), (62, .agg #[.bool false, .bool false, .int .i64 0, .slice none 0 0, .slice none 0 0]), (63, .agg #[.int .i64 0, .int .i64 0]), (64, .agg #[.int .i64 0, .int .i64 0]), (65, .pointer none), (66, .agg #[.slice none 0 0, .slice none 0 0, .slice none 0 0]), (67, .agg #[.slice none 0 0, .slice none 0 0, .slice none 0 0]), (73, .pointer none), (78, .agg #[.int .i64 0, .int .i64 0]), (79, .agg #[.int .i64 0, .int .i64 0]), (85, .pointer none), (96, .pointer none), (117, .slice none 0 0), (120, .slice none 0 0), (126, .int .u64 0), (133, .agg #[]), (134, .agg #[]), (135, .agg #[]), (137, .int .u32 0), (138, .int .u8 0), (139, .int .u8 0), (141, .pointer none), (142, .int .i32 0), (143, .int .i32 0)]
set_option maxRecDepth 100000 in
theorem tb_ok : TabOk Tryz.prog Tb where
  sz := by kernel_rfl
  sc := by kernel_rfl
  ag := by kernel_rfl
  sl := by kernel_rfl
  ar := by kernel_rfl
  fo := by kernel_rfl
  pl := by kernel_rfl
  ik := by kernel_rfl
  bo := by kernel_rfl
  eb := by kernel_rfl
  zs := ⟨by kernel_rfl, by kernel_rfl, by kernel_rfl, by kernel_rfl, by kernel_rfl, by kernel_rfl, by kernel_rfl, by kernel_rfl, by kernel_rfl, by kernel_rfl, by kernel_rfl, by kernel_rfl, by kernel_rfl, by kernel_rfl, by kernel_rfl, by kernel_rfl, by kernel_rfl, by kernel_rfl, by kernel_rfl, by kernel_rfl, by kernel_rfl, by kernel_rfl, by kernel_rfl, by kernel_rfl, by kernel_rfl, by kernel_rfl, by kernel_rfl, by kernel_rfl, by kernel_rfl, by kernel_rfl, by kernel_rfl, by kernel_rfl, by kernel_rfl, by kernel_rfl, by kernel_rfl, by kernel_rfl, by kernel_rfl, by kernel_rfl, by kernel_rfl, by kernel_rfl, by kernel_rfl, by kernel_rfl, by kernel_rfl, by kernel_rfl, by kernel_rfl, by kernel_rfl, by kernel_rfl, by kernel_rfl, by kernel_rfl, by kernel_rfl, by kernel_rfl, by kernel_rfl, by kernel_rfl, by kernel_rfl, by kernel_rfl, trivial⟩
def Lt : List (Nat × List Leaf) := [(7, [.i .i64, .i .i64, .b, .i .u8]), (8, [.i .i64, .i .i64, .b, .i .u8]), (32, [.i .i64, .i .i64, .i .i64, .i .i64, .i .i64, .i .i64]), (33, [.i .i64, .i .i64, .i .i64, .i .i64, .i .i64, .i .i64]), (34, [.i .i64, .i .i64, .i .i64, .i .i64, .i .i64, .i .i64, .i .i64, .b]), (35, [.i .i64, .i .i64, .i .i64, .i .i64, .i .i64, .i .i64, .i .i64, .b]), (54, [.i .i64, .i .i64]), (55, [.i .i64, .i .i64]), (63, [.i .i64, .i .i64]), (64, [.i .i64, .i .i64]), (78, [.i .i64, .i .i64]), (79, [.i .i64, .i .i64])]
theorem lt_ok : LfOk Tryz.prog Lt := ⟨⟨by kernel_rfl, by kernel_rfl, by kernel_rfl⟩, ⟨by kernel_rfl, by kernel_rfl, by kernel_rfl⟩, ⟨by kernel_rfl, by kernel_rfl, by kernel_rfl⟩, ⟨by kernel_rfl, by kernel_rfl, by kernel_rfl⟩, ⟨by kernel_rfl, by kernel_rfl, by kernel_rfl⟩, ⟨by kernel_rfl, by kernel_rfl, by kernel_rfl⟩, ⟨by kernel_rfl, by kernel_rfl, by kernel_rfl⟩, ⟨by kernel_rfl, by kernel_rfl, by kernel_rfl⟩, ⟨by kernel_rfl, by kernel_rfl, by kernel_rfl⟩, ⟨by kernel_rfl, by kernel_rfl, by kernel_rfl⟩, ⟨by kernel_rfl, by kernel_rfl, by kernel_rfl⟩, ⟨by kernel_rfl, by kernel_rfl, by kernel_rfl⟩, trivial⟩
theorem cal3 : Cal Tryz.prog 3 := ⟨_, _, Tryz.func3, by kernel_rfl, rfl⟩
theorem cal4 : Cal Tryz.prog 4 := ⟨_, _, Tryz.func4, by kernel_rfl, rfl⟩
theorem cal5 : Cal Tryz.prog 5 := ⟨_, _, Tryz.func5, by kernel_rfl, rfl⟩
theorem cal6 : Cal Tryz.prog 6 := ⟨_, _, Tryz.func6, by kernel_rfl, rfl⟩
theorem cal7 : Cal Tryz.prog 7 := ⟨_, _, Tryz.func7, by kernel_rfl, rfl⟩
theorem cal8 : Cal Tryz.prog 8 := ⟨_, _, Tryz.func8, by kernel_rfl, rfl⟩
theorem cal9 : Cal Tryz.prog 9 := ⟨_, _, Tryz.func9, by kernel_rfl, rfl⟩
theorem cal10 : Cal Tryz.prog 10 := ⟨_, _, Tryz.func10, by kernel_rfl, rfl⟩
theorem cal11 : Cal Tryz.prog 11 := ⟨_, _, Tryz.func11, by kernel_rfl, rfl⟩
theorem cal12 : Cal Tryz.prog 12 := ⟨_, _, Tryz.func12, by kernel_rfl, rfl⟩
theorem cal13 : Cal Tryz.prog 13 := ⟨_, _, Tryz.func13, by kernel_rfl, rfl⟩
theorem cal14 : Cal Tryz.prog 14 := ⟨_, _, Tryz.func14, by kernel_rfl, rfl⟩
theorem cal15 : Cal Tryz.prog 15 := ⟨_, _, Tryz.func15, by kernel_rfl, rfl⟩
theorem cal16 : Cal Tryz.prog 16 := ⟨_, _, Tryz.func16, by kernel_rfl, rfl⟩
theorem cal17 : Cal Tryz.prog 17 := ⟨_, _, Tryz.func17, by kernel_rfl, rfl⟩
theorem cal18 : Cal Tryz.prog 18 := ⟨_, _, Tryz.func18, by kernel_rfl, rfl⟩
theorem cal19 : Cal Tryz.prog 19 := ⟨_, _, Tryz.func19, by kernel_rfl, rfl⟩
theorem cal20 : Cal Tryz.prog 20 := ⟨_, _, Tryz.func20, by kernel_rfl, rfl⟩
theorem cal21 : Cal Tryz.prog 21 := ⟨_, _, Tryz.func21, by kernel_rfl, rfl⟩
theorem cal22 : Cal Tryz.prog 22 := ⟨_, _, Tryz.func22, by kernel_rfl, rfl⟩
theorem cal23 : Cal Tryz.prog 23 := ⟨_, _, Tryz.func23, by kernel_rfl, rfl⟩
theorem cal24 : Cal Tryz.prog 24 := ⟨_, _, Tryz.func24, by kernel_rfl, rfl⟩
theorem cal25 : Cal Tryz.prog 25 := ⟨_, _, Tryz.func25, by kernel_rfl, rfl⟩
theorem cal26 : Cal Tryz.prog 26 := ⟨_, _, Tryz.func26, by kernel_rfl, rfl⟩
theorem cal27 : Cal Tryz.prog 27 := ⟨_, _, Tryz.func27, by kernel_rfl, rfl⟩
theorem cal28 : Cal Tryz.prog 28 := ⟨_, _, Tryz.func28, by kernel_rfl, rfl⟩
theorem cal29 : Cal Tryz.prog 29 := ⟨_, _, Tryz.func29, by kernel_rfl, rfl⟩
theorem cal30 : Cal Tryz.prog 30 := ⟨_, _, Tryz.func30, by kernel_rfl, rfl⟩
theorem cal31 : Cal Tryz.prog 31 := ⟨_, _, Tryz.func31, by kernel_rfl, rfl⟩
theorem cal32 : Cal Tryz.prog 32 := ⟨_, _, Tryz.func32, by kernel_rfl, rfl⟩
theorem cal33 : Cal Tryz.prog 33 := ⟨_, _, Tryz.func33, by kernel_rfl, rfl⟩
theorem cal34 : Cal Tryz.prog 34 := ⟨_, _, Tryz.func34, by kernel_rfl, rfl⟩
theorem cal35 : Cal Tryz.prog 35 := ⟨_, _, Tryz.func35, by kernel_rfl, rfl⟩
theorem cal36 : Cal Tryz.prog 36 := ⟨_, _, Tryz.func36, by kernel_rfl, rfl⟩
theorem cal37 : Cal Tryz.prog 37 := ⟨_, _, Tryz.func37, by kernel_rfl, rfl⟩
theorem cal38 : Cal Tryz.prog 38 := ⟨_, _, Tryz.func38, by kernel_rfl, rfl⟩
theorem cal39 : Cal Tryz.prog 39 := ⟨_, _, Tryz.func39, by kernel_rfl, rfl⟩
theorem cal40 : Cal Tryz.prog 40 := ⟨_, _, Tryz.func40, by kernel_rfl, rfl⟩
theorem cal41 : Cal Tryz.prog 41 := ⟨_, _, Tryz.func41, by kernel_rfl, rfl⟩
theorem cal42 : Cal Tryz.prog 42 := ⟨_, _, Tryz.func42, by kernel_rfl, rfl⟩
theorem cal43 : Cal Tryz.prog 43 := ⟨_, _, Tryz.func43, by kernel_rfl, rfl⟩
theorem cal44 : Cal Tryz.prog 44 := ⟨_, _, Tryz.func44, by kernel_rfl, rfl⟩
theorem cal45 : Cal Tryz.prog 45 := ⟨_, _, Tryz.func45, by kernel_rfl, rfl⟩
theorem cal46 : Cal Tryz.prog 46 := ⟨_, _, Tryz.func46, by kernel_rfl, rfl⟩
theorem cal47 : Cal Tryz.prog 47 := ⟨_, _, Tryz.func47, by kernel_rfl, rfl⟩
theorem cal48 : Cal Tryz.prog 48 := ⟨_, _, Tryz.func48, by kernel_rfl, rfl⟩
theorem cal49 : Cal Tryz.prog 49 := ⟨_, _, Tryz.func49, by kernel_rfl, rfl⟩
theorem cal50 : Cal Tryz.prog 50 := ⟨_, _, Tryz.func50, by kernel_rfl, rfl⟩
theorem cal51 : Cal Tryz.prog 51 := ⟨_, _, Tryz.func51, by kernel_rfl, rfl⟩
theorem cal52 : Cal Tryz.prog 52 := ⟨_, _, Tryz.func52, by kernel_rfl, rfl⟩
theorem cal53 : Cal Tryz.prog 53 := ⟨_, _, Tryz.func53, by kernel_rfl, rfl⟩
theorem cal54 : Cal Tryz.prog 54 := ⟨_, _, Tryz.func54, by kernel_rfl, rfl⟩
theorem cal55 : Cal Tryz.prog 55 := ⟨_, _, Tryz.func55, by kernel_rfl, rfl⟩
theorem cal56 : Cal Tryz.prog 56 := ⟨_, _, Tryz.func56, by kernel_rfl, rfl⟩
theorem cal57 : Cal Tryz.prog 57 := ⟨_, _, Tryz.func57, by kernel_rfl, rfl⟩
theorem cal58 : Cal Tryz.prog 58 := ⟨_, _, Tryz.func58, by kernel_rfl, rfl⟩
theorem cal59 : Cal Tryz.prog 59 := ⟨_, _, Tryz.func59, by kernel_rfl, rfl⟩
theorem cal60 : Cal Tryz.prog 60 := ⟨_, _, Tryz.func60, by kernel_rfl, rfl⟩
theorem cal61 : Cal Tryz.prog 61 := ⟨_, _, Tryz.func61, by kernel_rfl, rfl⟩
theorem cal62 : Cal Tryz.prog 62 := ⟨_, _, Tryz.func62, by kernel_rfl, rfl⟩
theorem cal63 : Cal Tryz.prog 63 := ⟨_, _, Tryz.func63, by kernel_rfl, rfl⟩
theorem cal64 : Cal Tryz.prog 64 := ⟨_, _, Tryz.func64, by kernel_rfl, rfl⟩
theorem cal65 : Cal Tryz.prog 65 := ⟨_, _, Tryz.func65, by kernel_rfl, rfl⟩
theorem cal66 : Cal Tryz.prog 66 := ⟨_, _, Tryz.func66, by kernel_rfl, rfl⟩
theorem cal67 : Cal Tryz.prog 67 := ⟨_, _, Tryz.func67, by kernel_rfl, rfl⟩
theorem cal68 : Cal Tryz.prog 68 := ⟨_, _, Tryz.func68, by kernel_rfl, rfl⟩
theorem cal69 : Cal Tryz.prog 69 := ⟨_, _, Tryz.func69, by kernel_rfl, rfl⟩
theorem cal70 : Cal Tryz.prog 70 := ⟨_, _, Tryz.func70, by kernel_rfl, rfl⟩
theorem cal71 : Cal Tryz.prog 71 := ⟨_, _, Tryz.func71, by kernel_rfl, rfl⟩
theorem cal72 : Cal Tryz.prog 72 := ⟨_, _, Tryz.func72, by kernel_rfl, rfl⟩
theorem cal73 : Cal Tryz.prog 73 := ⟨_, _, Tryz.func73, by kernel_rfl, rfl⟩
theorem cal74 : Cal Tryz.prog 74 := ⟨_, _, Tryz.func74, by kernel_rfl, rfl⟩
theorem cal75 : Cal Tryz.prog 75 := ⟨_, _, Tryz.func75, by kernel_rfl, rfl⟩
theorem cal76 : Cal Tryz.prog 76 := ⟨_, _, Tryz.func76, by kernel_rfl, rfl⟩
theorem cal77 : Cal Tryz.prog 77 := ⟨_, _, Tryz.func77, by kernel_rfl, rfl⟩
theorem cal78 : Cal Tryz.prog 78 := ⟨_, _, Tryz.func78, by kernel_rfl, rfl⟩
theorem cal79 : Cal Tryz.prog 79 := ⟨_, _, Tryz.func79, by kernel_rfl, rfl⟩
theorem cal80 : Cal Tryz.prog 80 := ⟨_, _, Tryz.func80, by kernel_rfl, rfl⟩
theorem cal81 : Cal Tryz.prog 81 := ⟨_, _, Tryz.func81, by kernel_rfl, rfl⟩
theorem cal82 : Cal Tryz.prog 82 := ⟨_, _, Tryz.func82, by kernel_rfl, rfl⟩
theorem cal83 : Cal Tryz.prog 83 := ⟨_, _, Tryz.func83, by kernel_rfl, rfl⟩
theorem cal84 : Cal Tryz.prog 84 := ⟨_, _, Tryz.func84, by kernel_rfl, rfl⟩
theorem cal85 : Cal Tryz.prog 85 := ⟨_, _, Tryz.func85, by kernel_rfl, rfl⟩
theorem cal86 : Cal Tryz.prog 86 := ⟨_, _, Tryz.func86, by kernel_rfl, rfl⟩
theorem cal87 : Cal Tryz.prog 87 := ⟨_, _, Tryz.func87, by kernel_rfl, rfl⟩
theorem cal88 : Cal Tryz.prog 88 := ⟨_, _, Tryz.func88, by kernel_rfl, rfl⟩
theorem cal89 : Cal Tryz.prog 89 := ⟨_, _, Tryz.func89, by kernel_rfl, rfl⟩
theorem cal90 : Cal Tryz.prog 90 := ⟨_, _, Tryz.func90, by kernel_rfl, rfl⟩
theorem cal91 : Cal Tryz.prog 91 := ⟨_, _, Tryz.func91, by kernel_rfl, rfl⟩
theorem cal92 : Cal Tryz.prog 92 := ⟨_, _, Tryz.func92, by kernel_rfl, rfl⟩
theorem cal93 : Cal Tryz.prog 93 := ⟨_, _, Tryz.func93, by kernel_rfl, rfl⟩
theorem cal94 : Cal Tryz.prog 94 := ⟨_, _, Tryz.func94, by kernel_rfl, rfl⟩
theorem cal95 : Cal Tryz.prog 95 := ⟨_, _, Tryz.func95, by kernel_rfl, rfl⟩
theorem cal96 : Cal Tryz.prog 96 := ⟨_, _, Tryz.func96, by kernel_rfl, rfl⟩
theorem cal97 : Cal Tryz.prog 97 := ⟨_, _, Tryz.func97, by kernel_rfl, rfl⟩
theorem cal98 : Cal Tryz.prog 98 := ⟨_, _, Tryz.func98, by kernel_rfl, rfl⟩
theorem cal99 : Cal Tryz.prog 99 := ⟨_, _, Tryz.func99, by kernel_rfl, rfl⟩
theorem cal100 : Cal Tryz.prog 100 := ⟨_, _, Tryz.func100, by kernel_rfl, rfl⟩
theorem cal101 : Cal Tryz.prog 101 := ⟨_, _, Tryz.func101, by kernel_rfl, rfl⟩
theorem cal102 : Cal Tryz.prog 102 := ⟨_, _, Tryz.func102, by kernel_rfl, rfl⟩
theorem cal103 : Cal Tryz.prog 103 := ⟨_, _, Tryz.func103, by kernel_rfl, rfl⟩
theorem cal105 : Cal Tryz.prog 105 := ⟨_, _, Tryz.func105, by kernel_rfl, rfl⟩
theorem cal106 : Cal Tryz.prog 106 := ⟨_, _, Tryz.func106, by kernel_rfl, rfl⟩
theorem cal107 : Cal Tryz.prog 107 := ⟨_, _, Tryz.func107, by kernel_rfl, rfl⟩
theorem cal108 : Cal Tryz.prog 108 := ⟨_, _, Tryz.func108, by kernel_rfl, rfl⟩
def calN : List Nat := [3, 4, 5, 6, 7, 8, 9, 10, 11, 12, 13, 14, 15, 16, 17, 18, 19, 20, 21, 22, 23, 24, 25, 26, 27, 28, 29, 30, 31, 32, 33, 34, 35, 36, 37, 38, 39, 40, 41, 42, 43, 44, 45, 46, 47, 48, 49, 50, 51, 52, 53, 54, 55, 56, 57, 58, 59, 60, 61, 62, 63, 64, 65, 66, 67, 68, 69, 70, 71, 72, 73, 74, 75, 76, 77, 78, 79, 80, 81, 82, 83, 84, 85, 86, 87, 88, 89, 90, 91, 92, 93, 94, 95, 96, 97, 98, 99, 100, 101, 102, 103, 105, 106, 107, 108]
def AllC : List Nat → Prop
  | [] => True
  | f :: r => Cal Tryz.prog f ∧ AllC r
theorem calAll : AllC calN := ⟨cal3, cal4, cal5, cal6, cal7, cal8, cal9, cal10, cal11, cal12, cal13, cal14, cal15, cal16, cal17, cal18, cal19, cal20, cal21, cal22, cal23, cal24, cal25, cal26, cal27, cal28, cal29, cal30, cal31, cal32, cal33, cal34, cal35, cal36, cal37, cal38, cal39, cal40, cal41, cal42, cal43, cal44, cal45, cal46, cal47, cal48, cal49, cal50, cal51, cal52, cal53, cal54, cal55, cal56, cal57, cal58, cal59, cal60, cal61, cal62, cal63, cal64, cal65, cal66, cal67, cal68, cal69, cal70, cal71, cal72, cal73, cal74, cal75, cal76, cal77, cal78, cal79, cal80, cal81, cal82, cal83, cal84, cal85, cal86, cal87, cal88, cal89, cal90, cal91, cal92, cal93, cal94, cal95, cal96, cal97, cal98, cal99, cal100, cal101, cal102, cal103, cal105, cal106, cal107, cal108, trivial⟩
theorem allC_get : ∀ (l : List Nat), AllC l → ∀ f, f ∈ l → Cal Tryz.prog f
  | [], _, _, h => nomatch h
  | k :: r, ha, f, h => by
    rcases List.mem_cons.1 h with rfl | h2
    · exact ha.1
    · exact allC_get r ha.2 f h2
theorem calOk (f : Nat) (h : mem calN f = true) : Cal Tryz.prog f := allC_get _ calAll f (mem_mem h)
end Go.Proofs.YtjnndchkblnkgaaGreat
