/- The table of this seat's types, written by tab.py. -/
import Derived.Test.YtdfkcjjbflcafaaProg
import Derived.Test.YtdfkcjjbflcafaaEngS
namespace Go.Proofs.Ytdfkcjjbflcafaa
open Go.RowKit
set_option maxRecDepth 100000
def Tb : Tab where
  sz := [(2, 1), (3, 1), (4, 1), (5, 1), (6, 1), (7, 4), (8, 4), (12, 1), (15, 1), (16, 1), (17, 1), (18, 1), (19, 1), (21, 1), (22, 1), (23, 1), (24, 1), (25, 3), (26, 3), (27, 1), (28, 4), (29, 4), (32, 1), (40, 2), (41, 2), (45, 6), (46, 6), (47, 8), (48, 8), (55, 1), (56, 1), (57, 5), (58, 5), (59, 2), (60, 2), (61, 1), (62, 3), (63, 3), (69, 2), (70, 2), (72, 1), (83, 1), (88, 0), (89, 0), (90, 0), (92, 1), (93, 1), (94, 1), (96, 1), (97, 1), (98, 1)]
  sc := [2, 3, 4, 5, 6, 12, 15, 16, 17, 21, 22, 23, 24, 27, 32, 55, 56, 61, 72, 83, 92, 93, 94, 96, 97, 98]
  ag := [7, 8, 18, 19, 25, 26, 28, 29, 40, 41, 45, 46, 47, 48, 57, 58, 59, 60, 62, 63, 69, 70, 88, 89, 90]
  sl := [(22, 41, 2), (23, 58, 5), (24, 60, 2), (27, 48, 8), (55, 3, 1), (56, 70, 2), (83, 4, 1)]
  ar := [(88, 0, 16, 1)]
  fo := [(7, [0, 1, 2, 3]), (8, [0, 1, 2, 3]), (18, [0]), (19, [0]), (25, [0, 1, 2]), (26, [0, 1, 2]), (28, [0, 3]), (29, [0, 3]), (40, [0, 1]), (41, [0, 1]), (45, [0, 1, 2, 3, 4, 5]), (46, [0, 1, 2, 3, 4, 5]), (47, [0, 1, 7]), (48, [0, 1, 7]), (57, [0, 1, 2, 3, 4]), (58, [0, 1, 2, 3, 4]), (59, [0, 1]), (60, [0, 1]), (62, [0]), (63, [0]), (69, [0, 1]), (70, [0, 1])]
  pl := [(7, [(0, 1), (1, 1), (2, 1), (3, 1)]), (8, [(0, 1), (1, 1), (2, 1), (3, 1)]), (18, [(0, 1)]), (19, [(0, 1)]), (25, [(0, 1), (1, 1), (2, 1)]), (26, [(0, 1), (1, 1), (2, 1)]), (28, [(0, 3), (3, 1)]), (29, [(0, 3), (3, 1)]), (40, [(0, 1), (1, 1)]), (41, [(0, 1), (1, 1)]), (45, [(0, 1), (1, 1), (2, 1), (3, 1), (4, 1), (5, 1)]), (46, [(0, 1), (1, 1), (2, 1), (3, 1), (4, 1), (5, 1)]), (47, [(0, 1), (1, 6), (7, 1)]), (48, [(0, 1), (1, 6), (7, 1)]), (57, [(0, 1), (1, 1), (2, 1), (3, 1), (4, 1)]), (58, [(0, 1), (1, 1), (2, 1), (3, 1), (4, 1)]), (59, [(0, 1), (1, 1)]), (60, [(0, 1), (1, 1)]), (62, [(0, 3)]), (63, [(0, 3)]), (69, [(0, 1), (1, 1)]), (70, [(0, 1), (1, 1)])]
  ik := [(2, .i64), (3, .i64), (5, .u8), (6, .u8), (12, .u64), (21, .i32), (32, .i64), (92, .u32), (93, .u8), (94, .u8), (97, .i32), (98, .i32)]
  bo := [4]
  eb := [(2, 8), (3, 8), (4, 1), (5, 1), (6, 1), (7, 24), (8, 24), (12, 8), (15, 8), (16, 8), (17, 8), (18, 8), (19, 8), (21, 4), (22, 24), (23, 24), (24, 24), (25, 72), (26, 72), (27, 24), (28, 96), (29, 96), (32, 8), (40, 16), (41, 16), (45, 48), (46, 48), (47, 64), (48, 64), (55, 24), (56, 24), (57, 64), (58, 64), (59, 16), (60, 16), (61, 8), (62, 72), (63, 72), (69, 16), (70, 16), (72, 8), (83, 24), (88, 0), (89, 0), (90, 0), (92, 4), (93, 1), (94, 1), (96, 8), (97, 4), (98, 4)]
  zs := [(2, .int .i64 0), (3, .int .i64 0), (4, .bool false), (5, .int .u8 0), (6, .int .u8 0), (7, .agg #[.int .i64 0, .int .i64 0, .bool false, .int .u8 0]), (8, .agg #[.int .i64 0, .int .i64 0, .bool false, .int .u8 0]), (12, .int .u64 0), (15, .pointer none), (16, .pointer none), (17, .pointer none), (18, .agg #[.pointer none]), (19, .agg #[.pointer none]), (21, .int .i32 0), (22, .slice none 0 0), (23, .slice none 0 0), (24, .slice none 0 0), (25, .agg #[.slice none 0 0, .slice none 0 0, .slice none 0 0]), (26, .agg #[.slice none 0 0, .slice none 0 0, .slice none 0 0]), (27, .slice none 0 0), (28, .agg #[.slice none 0 0, .slice none 0 0, .slice none 0 0, .slice none 0 0]), (29, .agg #[.slice none 0 0, .slice none 0 0, .slice none 0 0, .slice none 0 0]), (32, .int .i64 0), (40, .agg #[.int .i64 0, .int .i64 0]), (41, .agg #[.int .i64 0, .int .i64 0]), (45, .agg #[.int .i64 0, .int .i64 0, .int .i64 0, .int .i64 0, .int .i64 0, .int .i64 0]), (46, .agg #[.int .i64 0, .int .i64 0, .int .i64 0, .int .i64 0, .int .i64 0, .int .i64 0]), (47, .agg #[.int .i64 0, .int .i64 0, .int .i64 0, .int .i64 0, .int .i64 0, .int .i64 0, .int .i64 0, .bool false]), (48, .agg #[.int .i64 0, .int .i64 0, .int .i64 0, .int .i64 0, .int .i64 0, .int .i64 0, .int .i64 0, .bool false]), (55, .slice none 0 0), (56, .slice none 0 0), (57, .agg #[.bool false, .bool false, .int .i64 0, .slice none 0 0, .slice none 0 0]), (58, .agg #[.bool false, .bool false, .int .i64 0, .slice none 0 0, .slice none 0 0]), (59, .agg #[.int .i64 0, .int .i64 0]), (60, .agg #[.int .i64 0, .int .i64 0]), (61, .pointer none), (62, .agg #[.slice none 0 0, .slice none 0 0, .slice none 0 0]), (63, .agg #[.slice none 0 0, .slice none 0 0, .slice none 0 0]), (69, .agg #[.int .i64 0, .int .i64 0]), (70, .agg #[.int .i64 0, .int .i64 0]), (72, .pointer none), (83, .slice none 0 0), (88, .agg #[]), (89, .agg #[]), (90, .agg #[]), (92, .int .u32 0), (93, .int .u8 0), (94, .int .u8 0), (96, .pointer none), (97, .int .i32 0), (98, .int .i32 0)]
set_option maxRecDepth 100000 in
theorem tb_ok : TabOk Try.prog Tb where
  sz := by kernel_rfl
  sc := by kernel_rfl
  ag := by kernel_rfl
  sl := by kernel_rfl
  ar := by kernel_rfl
  fo := by kernel_rfl
  pl := by kernel_rfl
  ik := by kernel_rfl
  bo := by kernel_rfl
  eb := by kernel_rfl
  zs := ⟨by kernel_rfl, by kernel_rfl, by kernel_rfl, by kernel_rfl, by kernel_rfl, by kernel_rfl, by kernel_rfl, by kernel_rfl, by kernel_rfl, by kernel_rfl, by kernel_rfl, by kernel_rfl, by kernel_rfl, by kernel_rfl, by kernel_rfl, by kernel_rfl, by kernel_rfl, by kernel_rfl, by kernel_rfl, by kernel_rfl, by kernel_rfl, by kernel_rfl, by kernel_rfl, by kernel_rfl, by kernel_rfl, by kernel_rfl, by kernel_rfl, by kernel_rfl, by kernel_rfl, by kernel_rfl, by kernel_rfl, by kernel_rfl, by kernel_rfl, by kernel_rfl, by kernel_rfl, by kernel_rfl, by kernel_rfl, by kernel_rfl, by kernel_rfl, by kernel_rfl, by kernel_rfl, by kernel_rfl, by kernel_rfl, by kernel_rfl, by kernel_rfl, by kernel_rfl, by kernel_rfl, by kernel_rfl, by kernel_rfl, by kernel_rfl, by kernel_rfl, trivial⟩
def Lt : List (Nat × List Leaf) := [(7, [.i .i64, .i .i64, .b, .i .u8]), (8, [.i .i64, .i .i64, .b, .i .u8]), (40, [.i .i64, .i .i64]), (41, [.i .i64, .i .i64]), (45, [.i .i64, .i .i64, .i .i64, .i .i64, .i .i64, .i .i64]), (46, [.i .i64, .i .i64, .i .i64, .i .i64, .i .i64, .i .i64]), (47, [.i .i64, .i .i64, .i .i64, .i .i64, .i .i64, .i .i64, .i .i64, .b]), (48, [.i .i64, .i .i64, .i .i64, .i .i64, .i .i64, .i .i64, .i .i64, .b]), (59, [.i .i64, .i .i64]), (60, [.i .i64, .i .i64]), (69, [.i .i64, .i .i64]), (70, [.i .i64, .i .i64])]
theorem lt_ok : LfOk Try.prog Lt := ⟨⟨by kernel_rfl, by kernel_rfl, by kernel_rfl⟩, ⟨by kernel_rfl, by kernel_rfl, by kernel_rfl⟩, ⟨by kernel_rfl, by kernel_rfl, by kernel_rfl⟩, ⟨by kernel_rfl, by kernel_rfl, by kernel_rfl⟩, ⟨by kernel_rfl, by kernel_rfl, by kernel_rfl⟩, ⟨by kernel_rfl, by kernel_rfl, by kernel_rfl⟩, ⟨by kernel_rfl, by kernel_rfl, by kernel_rfl⟩, ⟨by kernel_rfl, by kernel_rfl, by kernel_rfl⟩, ⟨by kernel_rfl, by kernel_rfl, by kernel_rfl⟩, ⟨by kernel_rfl, by kernel_rfl, by kernel_rfl⟩, ⟨by kernel_rfl, by kernel_rfl, by kernel_rfl⟩, ⟨by kernel_rfl, by kernel_rfl, by kernel_rfl⟩, trivial⟩
theorem cal3 : Cal Try.prog 3 := ⟨_, _, Try.func3, by kernel_rfl, rfl⟩
theorem cal4 : Cal Try.prog 4 := ⟨_, _, Try.func4, by kernel_rfl, rfl⟩
theorem cal5 : Cal Try.prog 5 := ⟨_, _, Try.func5, by kernel_rfl, rfl⟩
theorem cal6 : Cal Try.prog 6 := ⟨_, _, Try.func6, by kernel_rfl, rfl⟩
theorem cal7 : Cal Try.prog 7 := ⟨_, _, Try.func7, by kernel_rfl, rfl⟩
theorem cal8 : Cal Try.prog 8 := ⟨_, _, Try.func8, by kernel_rfl, rfl⟩
theorem cal9 : Cal Try.prog 9 := ⟨_, _, Try.func9, by kernel_rfl, rfl⟩
theorem cal10 : Cal Try.prog 10 := ⟨_, _, Try.func10, by kernel_rfl, rfl⟩
theorem cal11 : Cal Try.prog 11 := ⟨_, _, Try.func11, by kernel_rfl, rfl⟩
theorem cal12 : Cal Try.prog 12 := ⟨_, _, Try.func12, by kernel_rfl, rfl⟩
theorem cal13 : Cal Try.prog 13 := ⟨_, _, Try.func13, by kernel_rfl, rfl⟩
theorem cal14 : Cal Try.prog 14 := ⟨_, _, Try.func14, by kernel_rfl, rfl⟩
theorem cal15 : Cal Try.prog 15 := ⟨_, _, Try.func15, by kernel_rfl, rfl⟩
theorem cal16 : Cal Try.prog 16 := ⟨_, _, Try.func16, by kernel_rfl, rfl⟩
theorem cal17 : Cal Try.prog 17 := ⟨_, _, Try.func17, by kernel_rfl, rfl⟩
theorem cal18 : Cal Try.prog 18 := ⟨_, _, Try.func18, by kernel_rfl, rfl⟩
theorem cal19 : Cal Try.prog 19 := ⟨_, _, Try.func19, by kernel_rfl, rfl⟩
theorem cal20 : Cal Try.prog 20 := ⟨_, _, Try.func20, by kernel_rfl, rfl⟩
theorem cal21 : Cal Try.prog 21 := ⟨_, _, Try.func21, by kernel_rfl, rfl⟩
theorem cal22 : Cal Try.prog 22 := ⟨_, _, Try.func22, by kernel_rfl, rfl⟩
theorem cal23 : Cal Try.prog 23 := ⟨_, _, Try.func23, by kernel_rfl, rfl⟩
theorem cal24 : Cal Try.prog 24 := ⟨_, _, Try.func24, by kernel_rfl, rfl⟩
theorem cal25 : Cal Try.prog 25 := ⟨_, _, Try.func25, by kernel_rfl, rfl⟩
theorem cal26 : Cal Try.prog 26 := ⟨_, _, Try.func26, by kernel_rfl, rfl⟩
theorem cal27 : Cal Try.prog 27 := ⟨_, _, Try.func27, by kernel_rfl, rfl⟩
theorem cal28 : Cal Try.prog 28 := ⟨_, _, Try.func28, by kernel_rfl, rfl⟩
theorem cal29 : Cal Try.prog 29 := ⟨_, _, Try.func29, by kernel_rfl, rfl⟩
theorem cal30 : Cal Try.prog 30 := ⟨_, _, Try.func30, by kernel_rfl, rfl⟩
theorem cal31 : Cal Try.prog 31 := ⟨_, _, Try.func31, by kernel_rfl, rfl⟩
theorem cal32 : Cal Try.prog 32 := ⟨_, _, Try.func32, by kernel_rfl, rfl⟩
theorem cal33 : Cal Try.prog 33 := ⟨_, _, Try.func33, by kernel_rfl, rfl⟩
theorem cal34 : Cal Try.prog 34 := ⟨_, _, Try.func34, by kernel_rfl, rfl⟩
theorem cal35 : Cal Try.prog 35 := ⟨_, _, Try.func35, by kernel_rfl, rfl⟩
theorem cal36 : Cal Try.prog 36 := ⟨_, _, Try.func36, by kernel_rfl, rfl⟩
theorem cal37 : Cal Try.prog 37 := ⟨_, _, Try.func37, by kernel_rfl, rfl⟩
theorem cal38 : Cal Try.prog 38 := ⟨_, _, Try.func38, by kernel_rfl, rfl⟩
theorem cal39 : Cal Try.prog 39 := ⟨_, _, Try.func39, by kernel_rfl, rfl⟩
theorem cal40 : Cal Try.prog 40 := ⟨_, _, Try.func40, by kernel_rfl, rfl⟩
theorem cal41 : Cal Try.prog 41 := ⟨_, _, Try.func41, by kernel_rfl, rfl⟩
theorem cal42 : Cal Try.prog 42 := ⟨_, _, Try.func42, by kernel_rfl, rfl⟩
theorem cal43 : Cal Try.prog 43 := ⟨_, _, Try.func43, by kernel_rfl, rfl⟩
theorem cal44 : Cal Try.prog 44 := ⟨_, _, Try.func44, by kernel_rfl, rfl⟩
theorem cal45 : Cal Try.prog 45 := ⟨_, _, Try.func45, by kernel_rfl, rfl⟩
def calN : List Nat := [3, 4, 5, 6, 7, 8, 9, 10, 11, 12, 13, 14, 15, 16, 17, 18, 19, 20, 21, 22, 23, 24, 25, 26, 27, 28, 29, 30, 31, 32, 33, 34, 35, 36, 37, 38, 39, 40, 41, 42, 43, 44, 45]
def AllC : List Nat → Prop
  | [] => True
  | f :: r => Cal Try.prog f ∧ AllC r
theorem calAll : AllC calN := ⟨cal3, cal4, cal5, cal6, cal7, cal8, cal9, cal10, cal11, cal12, cal13, cal14, cal15, cal16, cal17, cal18, cal19, cal20, cal21, cal22, cal23, cal24, cal25, cal26, cal27, cal28, cal29, cal30, cal31, cal32, cal33, cal34, cal35, cal36, cal37, cal38, cal39, cal40, cal41, cal42, cal43, cal44, cal45, trivial⟩
theorem allC_get : ∀ (l : List Nat), AllC l → ∀ f, f ∈ l → Cal Try.prog f
  | [], _, _, h => nomatch h
  | k :: r, ha, f, h => by
    rcases List.mem_cons.1 h with rfl | h2
    · exact ha.1
    · exact allC_get r ha.2 f h2
theorem calOk (f : Nat) (h : mem calN f = true) : Cal Try.prog f := allC_get _ calAll f (mem_mem h)
end Go.Proofs.Ytdfkcjjbflcafaa
