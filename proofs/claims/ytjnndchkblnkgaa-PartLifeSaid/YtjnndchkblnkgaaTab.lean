/- The table of this seat's types, written by tab.py. -/
import Derived.Test.YtjnndchkblnkgaaProg
import Derived.Test.YtjnndchkblnkgaaEng1
namespace Go.Proofs.Ytjnndchkblnkgaa
open Go.RowKit
set_option maxRecDepth 100000
def Tb : Tab where
  sz := [(2, 1), (3, 1), (4, 1), (5, 1), (6, 1), (7, 4), (8, 4), (12, 1), (15, 1), (16, 1), (17, 1), (18, 1), (19, 1), (21, 1), (22, 1), (23, 1), (24, 1), (25, 3), (26, 3), (27, 1), (28, 4), (29, 4), (32, 1), (36, 6), (37, 6), (38, 8), (39, 8), (45, 1), (47, 1), (50, 2), (51, 2), (55, 1), (56, 5), (57, 5), (58, 2), (59, 2), (62, 1), (65, 3), (66, 3), (67, 1), (74, 2), (75, 2), (80, 1), (93, 1), (108, 1), (114, 1), (121, 0), (122, 0), (123, 0), (125, 1), (126, 1), (127, 1), (129, 1), (130, 1), (131, 1)]
  sc := [2, 3, 4, 5, 6, 12, 15, 16, 17, 21, 22, 23, 24, 27, 32, 45, 47, 55, 62, 67, 80, 93, 108, 114, 125, 126, 127, 129, 130, 131]
  ag := [7, 8, 18, 19, 25, 26, 28, 29, 36, 37, 38, 39, 50, 51, 56, 57, 58, 59, 65, 66, 74, 75, 121, 122, 123]
  sl := [(22, 51, 2), (23, 57, 5), (24, 59, 2), (27, 39, 8), (45, 37, 6), (47, 3, 1), (55, 75, 2), (108, 32, 1), (114, 4, 1)]
  ar := [(121, 0, 16, 1)]
  fo := [(7, [0, 1, 2, 3]), (8, [0, 1, 2, 3]), (18, [0]), (19, [0]), (25, [0, 1, 2]), (26, [0, 1, 2]), (28, [0, 3]), (29, [0, 3]), (36, [0, 1, 2, 3, 4, 5]), (37, [0, 1, 2, 3, 4, 5]), (38, [0, 1, 7]), (39, [0, 1, 7]), (50, [0, 1]), (51, [0, 1]), (56, [0, 1, 2, 3, 4]), (57, [0, 1, 2, 3, 4]), (58, [0, 1]), (59, [0, 1]), (65, [0]), (66, [0]), (74, [0, 1]), (75, [0, 1])]
  pl := [(7, [(0, 1), (1, 1), (2, 1), (3, 1)]), (8, [(0, 1), (1, 1), (2, 1), (3, 1)]), (18, [(0, 1)]), (19, [(0, 1)]), (25, [(0, 1), (1, 1), (2, 1)]), (26, [(0, 1), (1, 1), (2, 1)]), (28, [(0, 3), (3, 1)]), (29, [(0, 3), (3, 1)]), (36, [(0, 1), (1, 1), (2, 1), (3, 1), (4, 1), (5, 1)]), (37, [(0, 1), (1, 1), (2, 1), (3, 1), (4, 1), (5, 1)]), (38, [(0, 1), (1, 6), (7, 1)]), (39, [(0, 1), (1, 6), (7, 1)]), (50, [(0, 1), (1, 1)]), (51, [(0, 1), (1, 1)]), (56, [(0, 1), (1, 1), (2, 1), (3, 1), (4, 1)]), (57, [(0, 1), (1, 1), (2, 1), (3, 1), (4, 1)]), (58, [(0, 1), (1, 1)]), (59, [(0, 1), (1, 1)]), (65, [(0, 3)]), (66, [(0, 3)]), (74, [(0, 1), (1, 1)]), (75, [(0, 1), (1, 1)])]
  ik := [(2, .i64), (3, .i64), (5, .u8), (6, .u8), (12, .u64), (21, .i32), (32, .i64), (67, .u64), (125, .u32), (126, .u8), (127, .u8), (130, .i32), (131, .i32)]
  bo := [4]
  eb := [(2, 8), (3, 8), (4, 1), (5, 1), (6, 1), (7, 24), (8, 24), (12, 8), (15, 8), (16, 8), (17, 8), (18, 8), (19, 8), (21, 4), (22, 24), (23, 24), (24, 24), (25, 72), (26, 72), (27, 24), (28, 96), (29, 96), (32, 8), (36, 48), (37, 48), (38, 64), (39, 64), (45, 24), (47, 24), (50, 16), (51, 16), (55, 24), (56, 64), (57, 64), (58, 16), (59, 16), (62, 8), (65, 72), (66, 72), (67, 8), (74, 16), (75, 16), (80, 8), (93, 8), (108, 24), (114, 24), (121, 0), (122, 0), (123, 0), (125, 4), (126, 1), (127, 1), (129, 8), (130, 4), (131, 4)]
  zs := [(2, .int .i64 0), (3, .int .i64 0), (4, .bool false), (5, .int .u8 0), (6, .int .u8 0), (7, .agg #[.int .i64 0, .int .i64 0, .bool false, .int .u8 0]), (8, .agg #[.int .i64 0, .int .i64 0, .bool false, .int .u8 0]), (12, .int .u64 0), (15, .pointer none), (16, .pointer none), (17, .pointer none), (18, .agg #[.pointer none]), (19, .agg #[.pointer none]), (21, .int .i32 0), (22, .slice none 0 0), (23, .slice none 0 0), (24, .slice none 0 0), (25, .agg #[.slice none 0 0, .slice none 0 0, .slice none 0 0]), (26, .agg #[.slice none 0 0, .slice none 0 0, .slice none 0 0]), (27, .slice none 0 0), (28, .agg #[.slice none 0 0, .slice none 0 0, .slice none 0 0, .slice none 0 0]), (29, .agg #[.slice none 0 0, .slice none 0 0, .slice none 0 0, .slice none 0 0]), (32, .int .i64 0), (36, .agg #[.int .i64 0, .int .i64 0, .int .i64 0, .int .i64 0, .int .i64 0, .int .i64 0]), (37, .agg #[.int .i64 0, .int .i64 0, .int .i64 0, .int .i64 0, .int .i64 0, .int .i64 0]), (38, .agg #[.int .i64 0, .int .i64 0, .int .i64 0, .int .i64 0, .int .i64 0, .int .i64 0, .int .i64 0, .bool false]), (39, .agg #[.int .i64 0, .int .i64 0, .int .i64 0, .int .i64 0, .int .i64 0, .int .i64 0, .int .i64 0, .bool false]), (45, .slice none 0 0), (47, .slice none 0 0), (50, .agg #[.int .i64 0, .int .i64 0]), (51, .agg #[.int .i64 0, .int .i64 0]), (55, .slice none 0 0), (56, .agg #[.bool false, .bool false, .int .i64 0, .slice none 0 0, .slice none 0 0]), (57, .agg #[.bool false, .bool false, .int .i64 0, .slice none 0 0, .slice none 0 0]), (58, .agg #[.int .i64 0, .int .i64 0]), (59, .agg #[.int .i64 0, .int .i64 0]), (62, .pointer none), (65, .agg #[.slice none 0 0, .slice none 0 0, .slice none 0 0]), (66, .agg #[.slice none 0 0, .slice none 0 0, .slice none 0 0]), (67, .int .u64 0), (74, .agg #[.int .i64 0, .int .i64 0]), (75, .agg #[.int .i64 0, .int .i64 0]), (80, .pointer none), (93, .pointer none), (108, .slice none 0 0), (114, .slice none 0 0), (121, .agg #[]), (122, .agg #[]), (123, .agg #[]), (125, .int .u32 0), (126, .int .u8 0), (127, .int .u8 0), (129, .pointer none), (130, .int .i32 0), (131, .int .i32 0)]
set_option maxRecDepth 100000 in
theorem tb_ok : TabOk Try.prog Tb where
  sz := by kernel_rfl
  sc := by kernel_rfl
  ag := by kernel_rfl
  sl := by kernel_rfl
  ar := by kernel_rfl
  fo := by kernel_rfl
  pl := by kernel_rfl
  ik := by kernel_rfl
  bo := by kernel_rfl
  eb := by kernel_rfl
  zs := ⟨by kernel_rfl, by kernel_rfl, by kernel_rfl, by kernel_rfl, by kernel_rfl, by kernel_rfl, by kernel_rfl, by kernel_rfl, by kernel_rfl, by kernel_rfl, by kernel_rfl, by kernel_rfl, by kernel_rfl, by kernel_rfl, by kernel_rfl, by kernel_rfl, by kernel_rfl, by kernel_rfl, by kernel_rfl, by kernel_rfl, by kernel_rfl, by kernel_rfl, by kernel_rfl, by kernel_rfl, by kernel_rfl, by kernel_rfl, by kernel_rfl, by kernel_rfl, by kernel_rfl, by kernel_rfl, by kernel_rfl, by kernel_rfl, by kernel_rfl, by kernel_rfl, by kernel_rfl, by kernel_rfl, by kernel_rfl, by kernel_rfl, by kernel_rfl, by kernel_rfl, by kernel_rfl, by kernel_rfl, by kernel_rfl, by kernel_rfl, by kernel_rfl, by kernel_rfl, by kernel_rfl, by kernel_rfl, by kernel_rfl, by kernel_rfl, by kernel_rfl, by kernel_rfl, by kernel_rfl, by kernel_rfl, by kernel_rfl, trivial⟩
def Lt : List (Nat × List Leaf) := [(7, [.i .i64, .i .i64, .b, .i .u8]), (8, [.i .i64, .i .i64, .b, .i .u8]), (36, [.i .i64, .i .i64, .i .i64, .i .i64, .i .i64, .i .i64]), (37, [.i .i64, .i .i64, .i .i64, .i .i64, .i .i64, .i .i64]), (38, [.i .i64, .i .i64, .i .i64, .i .i64, .i .i64, .i .i64, .i .i64, .b]), (39, [.i .i64, .i .i64, .i .i64, .i .i64, .i .i64, .i .i64, .i .i64, .b]), (50, [.i .i64, .i .i64]), (51, [.i .i64, .i .i64]), (58, [.i .i64, .i .i64]), (59, [.i .i64, .i .i64]), (74, [.i .i64, .i .i64]), (75, [.i .i64, .i .i64])]
theorem lt_ok : LfOk Try.prog Lt := ⟨⟨by kernel_rfl, by kernel_rfl, by kernel_rfl⟩, ⟨by kernel_rfl, by kernel_rfl, by kernel_rfl⟩, ⟨by kernel_rfl, by kernel_rfl, by kernel_rfl⟩, ⟨by kernel_rfl, by kernel_rfl, by kernel_rfl⟩, ⟨by kernel_rfl, by kernel_rfl, by kernel_rfl⟩, ⟨by kernel_rfl, by kernel_rfl, by kernel_rfl⟩, ⟨by kernel_rfl, by kernel_rfl, by kernel_rfl⟩, ⟨by kernel_rfl, by kernel_rfl, by kernel_rfl⟩, ⟨by kernel_rfl, by kernel_rfl, by kernel_rfl⟩, ⟨by kernel_rfl, by kernel_rfl, by kernel_rfl⟩, ⟨by kernel_rfl, by kernel_rfl, by kernel_rfl⟩, ⟨by kernel_rfl, by kernel_rfl, by kernel_rfl⟩, trivial⟩
theorem cal3 : Cal Try.prog 3 := ⟨_, _, Try.func3, by kernel_rfl, rfl⟩
theorem cal4 : Cal Try.prog 4 := ⟨_, _, Try.func4, by kernel_rfl, rfl⟩
theorem cal5 : Cal Try.prog 5 := ⟨_, _, Try.func5, by kernel_rfl, rfl⟩
theorem cal6 : Cal Try.prog 6 := ⟨_, _, Try.func6, by kernel_rfl, rfl⟩
theorem cal7 : Cal Try.prog 7 := ⟨_, _, Try.func7, by kernel_rfl, rfl⟩
theorem cal8 : Cal Try.prog 8 := ⟨_, _, Try.func8, by kernel_rfl, rfl⟩
theorem cal9 : Cal Try.prog 9 := ⟨_, _, Try.func9, by kernel_rfl, rfl⟩
theorem cal10 : Cal Try.prog 10 := ⟨_, _, Try.func10, by kernel_rfl, rfl⟩
theorem cal11 : Cal Try.prog 11 := ⟨_, _, Try.func11, by kernel_rfl, rfl⟩
theorem cal12 : Cal Try.prog 12 := ⟨_, _, Try.func12, by kernel_rfl, rfl⟩
theorem cal13 : Cal Try.prog 13 := ⟨_, _, Try.func13, by kernel_rfl, rfl⟩
theorem cal14 : Cal Try.prog 14 := ⟨_, _, Try.func14, by kernel_rfl, rfl⟩
theorem cal15 : Cal Try.prog 15 := ⟨_, _, Try.func15, by kernel_rfl, rfl⟩
theorem cal16 : Cal Try.prog 16 := ⟨_, _, Try.func16, by kernel_rfl, rfl⟩
theorem cal17 : Cal Try.prog 17 := ⟨_, _, Try.func17, by kernel_rfl, rfl⟩
theorem cal18 : Cal Try.prog 18 := ⟨_, _, Try.func18, by kernel_rfl, rfl⟩
theorem cal19 : Cal Try.prog 19 := ⟨_, _, Try.func19, by kernel_rfl, rfl⟩
theorem cal20 : Cal Try.prog 20 := ⟨_, _, Try.func20, by kernel_rfl, rfl⟩
theorem cal21 : Cal Try.prog 21 := ⟨_, _, Try.func21, by kernel_rfl, rfl⟩
theorem cal22 : Cal Try.prog 22 := ⟨_, _, Try.func22, by kernel_rfl, rfl⟩
theorem cal23 : Cal Try.prog 23 := ⟨_, _, Try.func23, by kernel_rfl, rfl⟩
theorem cal24 : Cal Try.prog 24 := ⟨_, _, Try.func24, by kernel_rfl, rfl⟩
theorem cal25 : Cal Try.prog 25 := ⟨_, _, Try.func25, by kernel_rfl, rfl⟩
theorem cal26 : Cal Try.prog 26 := ⟨_, _, Try.func26, by kernel_rfl, rfl⟩
theorem cal27 : Cal Try.prog 27 := ⟨_, _, Try.func27, by kernel_rfl, rfl⟩
theorem cal28 : Cal Try.prog 28 := ⟨_, _, Try.func28, by kernel_rfl, rfl⟩
theorem cal29 : Cal Try.prog 29 := ⟨_, _, Try.func29, by kernel_rfl, rfl⟩
theorem cal30 : Cal Try.prog 30 := ⟨_, _, Try.func30, by kernel_rfl, rfl⟩
theorem cal31 : Cal Try.prog 31 := ⟨_, _, Try.func31, by kernel_rfl, rfl⟩
theorem cal32 : Cal Try.prog 32 := ⟨_, _, Try.func32, by kernel_rfl, rfl⟩
theorem cal33 : Cal Try.prog 33 := ⟨_, _, Try.func33, by kernel_rfl, rfl⟩
theorem cal34 : Cal Try.prog 34 := ⟨_, _, Try.func34, by kernel_rfl, rfl⟩
theorem cal35 : Cal Try.prog 35 := ⟨_, _, Try.func35, by kernel_rfl, rfl⟩
theorem cal36 : Cal Try.prog 36 := ⟨_, _, Try.func36, by kernel_rfl, rfl⟩
theorem cal37 : Cal Try.prog 37 := ⟨_, _, Try.func37, by kernel_rfl, rfl⟩
theorem cal38 : Cal Try.prog 38 := ⟨_, _, Try.func38, by kernel_rfl, rfl⟩
theorem cal39 : Cal Try.prog 39 := ⟨_, _, Try.func39, by kernel_rfl, rfl⟩
theorem cal40 : Cal Try.prog 40 := ⟨_, _, Try.func40, by kernel_rfl, rfl⟩
theorem cal41 : Cal Try.prog 41 := ⟨_, _, Try.func41, by kernel_rfl, rfl⟩
theorem cal42 : Cal Try.prog 42 := ⟨_, _, Try.func42, by kernel_rfl, rfl⟩
theorem cal43 : Cal Try.prog 43 := ⟨_, _, Try.func43, by kernel_rfl, rfl⟩
theorem cal44 : Cal Try.prog 44 := ⟨_, _, Try.func44, by kernel_rfl, rfl⟩
theorem cal45 : Cal Try.prog 45 := ⟨_, _, Try.func45, by kernel_rfl, rfl⟩
theorem cal46 : Cal Try.prog 46 := ⟨_, _, Try.func46, by kernel_rfl, rfl⟩
theorem cal47 : Cal Try.prog 47 := ⟨_, _, Try.func47, by kernel_rfl, rfl⟩
theorem cal48 : Cal Try.prog 48 := ⟨_, _, Try.func48, by kernel_rfl, rfl⟩
theorem cal49 : Cal Try.prog 49 := ⟨_, _, Try.func49, by kernel_rfl, rfl⟩
theorem cal50 : Cal Try.prog 50 := ⟨_, _, Try.func50, by kernel_rfl, rfl⟩
theorem cal51 : Cal Try.prog 51 := ⟨_, _, Try.func51, by kernel_rfl, rfl⟩
theorem cal52 : Cal Try.prog 52 := ⟨_, _, Try.func52, by kernel_rfl, rfl⟩
theorem cal53 : Cal Try.prog 53 := ⟨_, _, Try.func53, by kernel_rfl, rfl⟩
theorem cal54 : Cal Try.prog 54 := ⟨_, _, Try.func54, by kernel_rfl, rfl⟩
theorem cal55 : Cal Try.prog 55 := ⟨_, _, Try.func55, by kernel_rfl, rfl⟩
theorem cal56 : Cal Try.prog 56 := ⟨_, _, Try.func56, by kernel_rfl, rfl⟩
theorem cal57 : Cal Try.prog 57 := ⟨_, _, Try.func57, by kernel_rfl, rfl⟩
theorem cal58 : Cal Try.prog 58 := ⟨_, _, Try.func58, by kernel_rfl, rfl⟩
theorem cal59 : Cal Try.prog 59 := ⟨_, _, Try.func59, by kernel_rfl, rfl⟩
theorem cal60 : Cal Try.prog 60 := ⟨_, _, Try.func60, by kernel_rfl, rfl⟩
theorem cal61 : Cal Try.prog 61 := ⟨_, _, Try.func61, by kernel_rfl, rfl⟩
theorem cal62 : Cal Try.prog 62 := ⟨_, _, Try.func62, by kernel_rfl, rfl⟩
theorem cal63 : Cal Try.prog 63 := ⟨_, _, Try.func63, by kernel_rfl, rfl⟩
theorem cal64 : Cal Try.prog 64 := ⟨_, _, Try.func64, by kernel_rfl, rfl⟩
theorem cal65 : Cal Try.prog 65 := ⟨_, _, Try.func65, by kernel_rfl, rfl⟩
theorem cal66 : Cal Try.prog 66 := ⟨_, _, Try.func66, by kernel_rfl, rfl⟩
theorem cal67 : Cal Try.prog 67 := ⟨_, _, Try.func67, by kernel_rfl, rfl⟩
theorem cal68 : Cal Try.prog 68 := ⟨_, _, Try.func68, by kernel_rfl, rfl⟩
theorem cal69 : Cal Try.prog 69 := ⟨_, _, Try.func69, by kernel_rfl, rfl⟩
theorem cal70 : Cal Try.prog 70 := ⟨_, _, Try.func70, by kernel_rfl, rfl⟩
theorem cal71 : Cal Try.prog 71 := ⟨_, _, Try.func71, by kernel_rfl, rfl⟩
theorem cal72 : Cal Try.prog 72 := ⟨_, _, Try.func72, by kernel_rfl, rfl⟩
theorem cal73 : Cal Try.prog 73 := ⟨_, _, Try.func73, by kernel_rfl, rfl⟩
theorem cal74 : Cal Try.prog 74 := ⟨_, _, Try.func74, by kernel_rfl, rfl⟩
theorem cal75 : Cal Try.prog 75 := ⟨_, _, Try.func75, by kernel_rfl, rfl⟩
theorem cal76 : Cal Try.prog 76 := ⟨_, _, Try.func76, by kernel_rfl, rfl⟩
theorem cal77 : Cal Try.prog 77 := ⟨_, _, Try.func77, by kernel_rfl, rfl⟩
theorem cal78 : Cal Try.prog 78 := ⟨_, _, Try.func78, by kernel_rfl, rfl⟩
theorem cal79 : Cal Try.prog 79 := ⟨_, _, Try.func79, by kernel_rfl, rfl⟩
theorem cal80 : Cal Try.prog 80 := ⟨_, _, Try.func80, by kernel_rfl, rfl⟩
theorem cal81 : Cal Try.prog 81 := ⟨_, _, Try.func81, by kernel_rfl, rfl⟩
theorem cal82 : Cal Try.prog 82 := ⟨_, _, Try.func82, by kernel_rfl, rfl⟩
theorem cal83 : Cal Try.prog 83 := ⟨_, _, Try.func83, by kernel_rfl, rfl⟩
theorem cal84 : Cal Try.prog 84 := ⟨_, _, Try.func84, by kernel_rfl, rfl⟩
theorem cal85 : Cal Try.prog 85 := ⟨_, _, Try.func85, by kernel_rfl, rfl⟩
theorem cal87 : Cal Try.prog 87 := ⟨_, _, Try.func87, by kernel_rfl, rfl⟩
theorem cal88 : Cal Try.prog 88 := ⟨_, _, Try.func88, by kernel_rfl, rfl⟩
theorem cal89 : Cal Try.prog 89 := ⟨_, _, Try.func89, by kernel_rfl, rfl⟩
theorem cal90 : Cal Try.prog 90 := ⟨_, _, Try.func90, by kernel_rfl, rfl⟩
def calN : List Nat := [3, 4, 5, 6, 7, 8, 9, 10, 11, 12, 13, 14, 15, 16, 17, 18, 19, 20, 21, 22, 23, 24, 25, 26, 27, 28, 29, 30, 31, 32, 33, 34, 35, 36, 37, 38, 39, 40, 41, 42, 43, 44, 45, 46, 47, 48, 49, 50, 51, 52, 53, 54, 55, 56, 57, 58, 59, 60, 61, 62, 63, 64, 65, 66, 67, 68, 69, 70, 71, 72, 73, 74, 75, 76, 77, 78, 79, 80, 81, 82, 83, 84, 85, 87, 88, 89, 90]
def AllC : List Nat → Prop
  | [] => True
  | f :: r => Cal Try.prog f ∧ AllC r
theorem calAll : AllC calN := ⟨cal3, cal4, cal5, cal6, cal7, cal8, cal9, cal10, cal11, cal12, cal13, cal14, cal15, cal16, cal17, cal18, cal19, cal20, cal21, cal22, cal23, cal24, cal25, cal26, cal27, cal28, cal29, cal30, cal31, cal32, cal33, cal34, cal35, cal36, cal37, cal38, cal39, cal40, cal41, cal42, cal43, cal44, cal45, cal46, cal47, cal48, cal49, cal50, cal51, cal52, cal53, cal54, cal55, cal56, cal57, cal58, cal59, cal60, cal61, cal62, cal63, cal64, cal65, cal66, cal67, cal68, cal69, cal70, cal71, cal72, cal73, cal74, cal75, cal76, cal77, cal78, cal79, cal80, cal81, cal82, cal83, cal84, cal85, cal87, cal88, cal89, cal90, trivial⟩
theorem allC_get : ∀ (l : List Nat), AllC l → ∀ f, f ∈ l → Cal Try.prog f
  | [], _, _, h => nomatch h
  | k :: r, ha, f, h => by
    rcases List.mem_cons.1 h with rfl | h2
    · exact ha.1
    · exact allC_get r ha.2 f h2
theorem calOk (f : Nat) (h : mem calN f = true) : Cal Try.prog f := allC_get _ calAll f (mem_mem h)
end Go.Proofs.Ytjnndchkblnkgaa
