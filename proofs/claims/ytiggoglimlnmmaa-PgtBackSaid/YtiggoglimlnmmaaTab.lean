/- The table of this seat's types, written by tab.py. -/
import Derived.Test.YtiggoglimlnmmaaProg
import Derived.Test.YtiggoglimlnmmaaEng1
namespace Go.Proofs.Ytiggoglimlnmmaa
open Go.RowKit
set_option maxRecDepth 100000
def Tb : Tab where
  sz := [(2,1),(3,1),(4,1),(5,1),(6,1),(7,4),(8,4),(12,1),(15,1),(16,1),(17,1),(18,1),(19,1),(21,1),(22,1),(23,1),(24,1),(25,1),(26,1),(27,4),(28,4),(29,64),(31,6),(32,6),(33,9),(34,9),(35,13),(36,13),(37,1),(45,1),(49,1),(55,1),(56,2),(57,2),(58,10),(59,10),(75,2),(76,2),(83,2),(84,2),(85,11),(86,11),(90,1),(91,1),(94,1),(101,3),(102,3),(105,3),(106,3),(113,0),(114,0),(115,0),(116,1),(117,1),(118,1),(120,1),(121,1),(122,1)]
  sc := [2,3,4,5,6,12,15,16,17,21,22,25,26,37,45,49,55,94,116,117,118,120,121,122]
  ag := [7,8,18,19,23,24,27,28,29,31,32,33,34,35,36,56,57,58,59,75,76,83,84,85,86,90,91,101,102,105,106,113,114,115]
  sl := [(22,45,1),(25,3,1),(26,36,13),(49,76,2),(94,102,3)]
  ar := [(29,64,3,1),(113,0,16,1)]
  fo := [(7,[0,1,2,3]),(8,[0,1,2,3]),(18,[0]),(19,[0]),(23,[0]),(24,[0]),(27,[0,1,2,3]),(28,[0,1,2,3]),(31,[0,1,2,3,4,5]),(32,[0,1,2,3,4,5]),(33,[0,1,2,8]),(34,[0,1,2,8]),(35,[0,1,2,3,12]),(36,[0,1,2,3,12]),(56,[0,1]),(57,[0,1]),(58,[0,9]),(59,[0,9]),(75,[0,1]),(76,[0,1]),(83,[0,1]),(84,[0,1]),(85,[0,2]),(86,[0,2]),(90,[0]),(91,[0]),(101,[0,1,2]),(102,[0,1,2]),(105,[0]),(106,[0])]
  pl := [(7,[(0,1),(1,1),(2,1),(3,1)]),(8,[(0,1),(1,1),(2,1),(3,1)]),(18,[(0,1)]),(19,[(0,1)]),(23,[(0,1)]),(24,[(0,1)]),(27,[(0,1),(1,1),(2,1),(3,1)]),(28,[(0,1),(1,1),(2,1),(3,1)]),(31,[(0,1),(1,1),(2,1),(3,1),(4,1),(5,1)]),(32,[(0,1),(1,1),(2,1),(3,1),(4,1),(5,1)]),(33,[(0,1),(1,1),(2,6),(8,1)]),(34,[(0,1),(1,1),(2,6),(8,1)]),(35,[(0,1),(1,1),(2,1),(3,9),(12,1)]),(36,[(0,1),(1,1),(2,1),(3,9),(12,1)]),(56,[(0,1),(1,1)]),(57,[(0,1),(1,1)]),(58,[(0,9),(9,1)]),(59,[(0,9),(9,1)]),(75,[(0,1),(1,1)]),(76,[(0,1),(1,1)]),(83,[(0,1),(1,1)]),(84,[(0,1),(1,1)]),(85,[(0,2),(2,9)]),(86,[(0,2),(2,9)]),(90,[(0,1)]),(91,[(0,1)]),(101,[(0,1),(1,1),(2,1)]),(102,[(0,1),(1,1),(2,1)]),(105,[(0,3)]),(106,[(0,3)])]
  ik := [(2,.i64),(3,.i64),(5,.u8),(6,.u8),(12,.u64),(21,.i32),(37,.i64),(45,.u64),(55,.u64),(116,.u32),(117,.u8),(118,.u8),(121,.i32),(122,.i32)]
  bo := [4]
  eb := [(2,8),(3,8),(4,1),(5,1),(6,1),(7,24),(8,24),(12,8),(15,8),(16,8),(17,8),(18,8),(19,8),(21,4),(22,24),(23,24),(24,24),(25,24),(26,24),(27,80),(28,80),(29,512),(31,16),(32,16),(33,40),(34,40),(35,88),(36,88),(37,8),(45,8),(49,24),(55,8),(56,32),(57,32),(58,64),(59,64),(75,16),(76,16),(83,16),(84,16),(85,56),(86,56),(90,24),(91,24),(94,24),(101,24),(102,24),(105,24),(106,24),(113,0),(114,0),(115,0),(116,4),(117,1),(118,1),(120,8),(121,4),(122,4)]
  zs := [(2,.int .i64 0),(3,.int .i64 0),(4,.bool false),(5,.int .u8 0),(6,.int .u8 0),(7,.agg #[.int .i64 0, .int .i64 0, .bool false, .int .u8 0]),(8,.agg #[.int .i64 0, .int .i64 0, .bool false, .int .u8 0]),(12,.int .u64 0),(15,.pointer none),(16,.pointer none),(17,.pointer none),(18,.agg #[.pointer none]),(19,.agg #[.pointer none]),(21,.int .i32 0),(22,.slice none 0 0),(23,.agg #[.slice none 0 0]),(24,.agg #[.slice none 0 0]),(25,.slice none 0 0),(26,.slice none 0 0),(27,.agg #[.slice none 0 0, .int .i64 0, .slice none 0 0, .slice none 0 0]),(28,.agg #[.slice none 0 0, .int .i64 0, .slice none 0 0, .slice none 0 0]),(29,.agg #[.int .i64 0, .int .i64 0, .int .i64 0, .int .i64 0, .int .i64 0, .int .i64 0, .int .i64 0, .int .i64 0, .int .i64 0, .int .i64 0, .int .i64 0, .int .i64 0, .int .i64 0, .int .i64 0, .int .i64 0, .int .i64 0, .int .i64 0, .int .i64 0, .int .i64 0, .int .i64 0, .int .i64 0, .int .i64 0, .int .i64 0, .int .i64 0, .int .i64 0, .int .i64 0, .int .i64 0, .int .i64 0, .int .i64 0, .int .i64 0, .int .i64 0, .int .i64 0, .int .i64 0, .int .i64 0, .int .i64 0, .int .i64 0, .int .i64 0, .int .i64 0, .int .i64 0, .int .i64 0, .int .i64 0, .int .i64 0, .int .i64 0, .int .i64 0, .int .i64 0, .int .i64 0, .int .i64 0, .int .i64 0, .int .i64 0, .int .i64 0, .int .i64 0, .int .i64 0, .int .i64 0, .int .i64 0, .int .i64 0, .int .i64 0, .int .i64 0, .int .i64 0, .int .i64 0, .int .i64 0, .int .i64 0, .int .i64 0, .int .i64 0, .int .i64 0]),(31,.agg #[.bool false, .bool false, .bool false, .bool false, .bool false, .int .i64 0]),(32,.agg #[.bool false, .bool false, .bool false, .bool false, .bool false, .int .i64 0]),(33,.agg #[.int .i64 0, .int .i64 0, .bool false, .bool false, .bool false, .bool false, .bool false, .int .i64 0, .int .i64 0]),(34,.agg #[.int .i64 0, .int .i64 0, .bool false, .bool false, .bool false, .bool false, .bool false, .int .i64 0, .int .i64 0]),(35,.agg #[.int .i64 0, .int .i64 0, .int .i64 0, .int .i64 0, .int .i64 0, .bool false, .bool false, .bool false, .bool false, .bool false, .int .i64 0, .int .i64 0, .slice none 0 0]),(36,.agg #[.int .i64 0, .int .i64 0, .int .i64 0, .int .i64 0, .int .i64 0, .bool false, .bool false, .bool false, .bool false, .bool false, .int .i64 0, .int .i64 0, .slice none 0 0]),(37,.int .i64 0),(45,.int .u64 0),(49,.slice none 0 0),(55,.int .u64 0),(56,.agg #[.slice none 0 0, .int .i64 0]),(57,.agg #[.slice none 0 0, .int .i64 0]),(58,.agg #[.int .i64 0, .int .i64 0, .bool false, .bool false, .bool false, .bool false, .bool false, .int .i64 0, .int .i64 0, .slice none 0 0]),(59,.agg #[.int .i64 0, .int .i64 0, .bool false, .bool false, .bool false, .bool false, .bool false, .int .i64 0, .int .i64 0, .slice none 0 0]),(75,.agg #[.int .i64 0, .int .i64 0]),(76,.agg #[.int .i64 0, .int .i64 0]),(83,.agg #[.int .i64 0, .int .i64 0]),(84,.agg #[.int .i64 0, .int .i64 0]),(85,.agg #[.int .i64 0, .int .i64 0, .int .i64 0, .int .i64 0, .bool false, .bool false, .bool false, .bool false, .bool false, .int .i64 0, .int .i64 0]),(86,.agg #[.int .i64 0, .int .i64 0, .int .i64 0, .int .i64 0, .bool false, .bool false, .bool false, .bool false, .bool false, .int .i64 0, .int .i64 0]),(90,.agg #[.slice none 0 0]),(91,.agg #[.slice none 0 0]),(94,.slice none 0 0),(101,.agg #[.int .i64 0, .int .i64 0, .int .u64 0]),(102,.agg #[.int .i64 0, .int .i64 0, .int .u64 0]),(105,.agg #[.int .i64 0, .int .i64 0, .int .u64 0]),(106,.agg #[.int .i64 0, .int .i64 0, .int .u64 0]),(113,.agg #[]),(114,.agg #[]),(115,.agg #[]),(116,.int .u32 0),(117,.int .u8 0),(118,.int .u8 0),(120,.pointer none),(121,.int .i32 0),(122,.int .i32 0)]
set_option maxRecDepth 100000 in
theorem tb_ok : TabOk Try.prog Tb where
  sz := by kernel_rfl
  sc := by kernel_rfl
  ag := by kernel_rfl
  sl := by kernel_rfl
  ar := by kernel_rfl
  fo := by kernel_rfl
  pl := by kernel_rfl
  ik := by kernel_rfl
  bo := by kernel_rfl
  eb := by kernel_rfl
  zs := by (repeat' (first | exact trivial | kernel_rfl | refine And.intro ?_ ?_))
def Lt : List (Nat × List Leaf) := [(7,[.i .i64,.i .i64,.b,.i .u8]),(8,[.i .i64,.i .i64,.b,.i .u8]),(31,[.b,.b,.b,.b,.b,.i .i64]),(32,[.b,.b,.b,.b,.b,.i .i64]),(33,[.i .i64,.i .i64,.b,.b,.b,.b,.b,.i .i64,.i .i64]),(34,[.i .i64,.i .i64,.b,.b,.b,.b,.b,.i .i64,.i .i64]),(75,[.i .i64,.i .i64]),(76,[.i .i64,.i .i64]),(83,[.i .i64,.i .i64]),(84,[.i .i64,.i .i64]),(85,[.i .i64,.i .i64,.i .i64,.i .i64,.b,.b,.b,.b,.b,.i .i64,.i .i64]),(86,[.i .i64,.i .i64,.i .i64,.i .i64,.b,.b,.b,.b,.b,.i .i64,.i .i64]),(101,[.i .i64,.i .i64,.i .u64]),(102,[.i .i64,.i .i64,.i .u64]),(105,[.i .i64,.i .i64,.i .u64]),(106,[.i .i64,.i .i64,.i .u64])]
theorem lt_ok : LfOk Try.prog Lt := by (repeat' (first | exact trivial | kernel_rfl | refine And.intro ?_ ?_))
def calN : List Nat := [3,4,5,6,7,8,9,10,11,12,13,14,15,16,17,18,19,20,21,22,23,24,25,26,27,28,29,30,31,32,33,34,35,36,37,38,39,40,41,42,43,44,45,46,47,48,49,50,51]
def calB (fs : Array Func) (f : Nat) : Bool := match fs[f]? with | some fn => (fn.name == "runtime.NumGoroutine") == false && fn.body.isSome | none => false
theorem calAll : calN.all (calB Try.prog.funcs) = true := by kernel_rfl
theorem calOk (f : Nat) (h : mem calN f = true) : Cal Try.prog f := by
  have h1 := List.all_eq_true.1 calAll f (mem_mem h)
  unfold calB at h1
  split at h1
  · next fn hf =>
    simp only [Bool.and_eq_true, beq_iff_eq] at h1
    obtain ⟨c, hc⟩ := Option.isSome_iff_exists.1 h1.2
    exact ⟨fn, c, hf, h1.1, hc⟩
  · cases h1
end Go.Proofs.Ytiggoglimlnmmaa
