/- Layer 16: PgtAlls. -/
import Derived.Test.YtcjbpdejlfomkaaPgM
import Derived.Test.YtcjbpdejlfomkaaEngV
namespace Go.Proofs.Ytcjbpdejlfomkaa
open Go.RowKit
set_option linter.unusedVariables false
set_option linter.unusedSimpArgs false
set_option maxRecDepth 20000
attribute [local irreducible] Hy St Ops DH DHF
/-- .. no block entered. -/
theorem runBk {G R : Prop} (k : R) (h : RestP R → G := by (intro kLeft; (repeat (first | (with_reducible apply st_seq) | (with_reducible apply st_region) | (with_reducible apply nx_normal) | (with_reducible apply nx_ret) | (with_reducible apply nx_exit) | (with_reducible apply np_normal) | (with_reducible apply inb_normal) | (with_reducible apply inb_ret) | (with_reducible apply inb_here) | (with_reducible apply ops_nil) | (with_reducible apply st_ret) | (with_reducible apply st_skip) | (with_reducible apply st_exit) | ((with_reducible apply inb_past); rfl) | ((with_reducible apply op1); rfl; (first | ((with_reducible apply x_move); rfl) | ((with_reducible apply x_assign); rfl) | ((with_reducible apply x_field tb_ok); rfl; rfl; rfl; (first | ((simp only [Nat.reduceAdd, Nat.reduceMul, Nat.zero_add, Nat.add_zero, Nat.mul_one, Nat.zero_mul, Int.toNat_zero, Int.toNat_one, Int.reduceToNat]) <;> rfl) | rfl)) | ((with_reducible apply x_load tb_ok); rfl; rfl; (first | (with_reducible apply mh) | (focus ((repeat (first | (with_reducible apply mh) | (with_reducible apply mt) | (with_reducible apply List.mem_append_right))); done))); (first | rfl | assumption)) | ((with_reducible apply x_load0 tb_ok); rfl; rfl; assumption; (first | exact List.not_mem_nil | assumption)) | ((with_reducible apply x_loadA tb_ok); rfl; rfl; rfl; (first | (with_reducible apply mh) | (focus ((repeat (first | (with_reducible apply mh) | (with_reducible apply mt) | (with_reducible apply List.mem_append_right))); done))); (first | assumption | (first | ((simp only [putAt, List.toList_toArray, List.setIfInBounds_toArray, List.set_cons_zero, List.set_cons_succ, List.drop_succ_cons, List.drop_zero, List.take_succ_cons, List.take_zero, List.cons_append, List.nil_append, List.append_nil]) <;> rfl) | rfl)); rfl) | ((with_reducible apply x_loadA0 tb_ok); rfl; rfl; rfl; assumption; rfl; (first | exact List.not_mem_nil | assumption)) | ((with_reducible apply x_indexN tb_ok); rfl; rfl; rfl; omega; (first | ((simp only [Nat.reduceAdd, Nat.reduceMul, Nat.zero_add, Nat.add_zero, Nat.mul_one, Nat.zero_mul, Int.toNat_zero, Int.toNat_one, Int.reduceToNat]) <;> rfl) | rfl)) | ((with_reducible apply x_indexRN tb_ok); rfl; rfl; rfl; omega; (first | ((simp only [Nat.reduceAdd, Nat.reduceMul, Nat.zero_add, Nat.add_zero, Nat.mul_one, Nat.zero_mul, Int.toNat_zero, Int.toNat_one, Int.reduceToNat]) <;> rfl) | rfl)) | ((with_reducible apply x_index tb_ok); rfl; rfl; rfl; omega; omega; (first | ((simp only [Nat.reduceAdd, Nat.reduceMul, Nat.zero_add, Nat.add_zero, Nat.mul_one, Nat.zero_mul, Int.toNat_zero, Int.toNat_one, Int.reduceToNat]) <;> rfl) | rfl)) | ((with_reducible apply x_indexR tb_ok); rfl; rfl; rfl; omega; omega; (first | ((simp only [Nat.reduceAdd, Nat.reduceMul, Nat.zero_add, Nat.add_zero, Nat.mul_one, Nat.zero_mul, Int.toNat_zero, Int.toNat_one, Int.reduceToNat]) <;> rfl) | rfl)) | ((with_reducible apply x_len tb_ok); rfl; rfl) | ((with_reducible apply x_orT); rfl; rfl) | ((with_reducible apply x_andF); rfl; rfl) | ((with_reducible apply x_or); rfl; rfl) | ((with_reducible apply x_and); rfl; rfl) | ((with_reducible apply x_pick); rfl; rfl; rfl) | ((with_reducible apply x_not); rfl) | ((with_reducible apply x_extract); rfl; rfl) | ((with_reducible apply x_nilCheck); rfl) | ((with_reducible apply x_lss); rfl; rfl) | ((with_reducible apply x_leq); rfl; rfl) | ((with_reducible apply x_gtr); rfl; rfl) | ((with_reducible apply x_geq); rfl; rfl) | ((with_reducible apply x_eql); rfl; rfl) | ((with_reducible apply x_neq); rfl; rfl) | ((with_reducible apply x_eqlb tb_ok); rfl; rfl; rfl) | ((with_reducible apply x_neqb tb_ok); rfl; rfl; rfl) | ((with_reducible apply x_eqlA lt_ok); rfl; rfl; rfl; rfl; rfl) | ((with_reducible apply x_neqA lt_ok); rfl; rfl; rfl; rfl; rfl) | ((with_reducible apply x_inc); rfl; rfl; omega) | ((with_reducible apply x_add); rfl; rfl; omega; omega) | ((with_reducible apply x_sub); rfl; rfl; omega; omega) | ((with_reducible apply x_mul); rfl; rfl; omega; omega) | ((with_reducible apply x_convI tb_ok); rfl; rfl; rfl; omega; omega) | ((with_reducible apply x_convU tb_ok); rfl; rfl; rfl; omega; omega) | ((with_reducible apply x_build tb_ok); rfl; (first | ((simp only [Value.cells]) <;> rfl) | rfl); rfl; rfl; rfl; (first | ((simp only [putAt, Value.cells, List.toList_toArray, List.setIfInBounds_toArray, List.set_cons_zero, List.set_cons_succ, List.drop_succ_cons, List.drop_zero, List.take_succ_cons, List.take_zero, List.cons_append, List.nil_append, List.append_nil]) <;> rfl) | rfl)) | ((with_reducible apply x_makeFunc); rfl; rfl) | ((with_reducible apply x_addW); rfl; rfl) | ((with_reducible apply x_subW); rfl; rfl))) | ((with_reducible apply z_box); rfl; rfl; (first | ((simp only [Value.cells]) <;> rfl) | rfl); intro blk) | ((with_reducible apply z_alloc tb_ok); rfl; rfl; (first | ((simp only [Value.cells]) <;> rfl) | rfl); intro blk) | ((with_reducible apply z_store tb_ok); rfl; rfl; (first | ((simp only [Value.cells]) <;> rfl) | rfl); rfl; rfl; (first | (with_reducible apply p0) | (with_reducible apply p1) | (with_reducible apply p2) | (with_reducible apply p3) | (with_reducible apply p4) | (with_reducible apply p5)); (first | rfl | (focus (simp; done))); (first | omega | (focus (simp; done)) | (focus (simp; omega))); (first | ((simp only [putAt, List.toList_toArray, List.setIfInBounds_toArray, List.set_cons_zero, List.set_cons_succ, List.drop_succ_cons, List.drop_zero, List.take_succ_cons, List.take_zero, List.cons_append, List.nil_append, List.append_nil]) <;> rfl) | rfl)) | ((with_reducible apply z_bslice tb_ok); rfl; rfl; rfl; (first | ((simp only [Value.cells]) <;> rfl) | rfl); rfl; rfl; rfl; rfl; (first | ((simp only [putAt, rep, Value.cells, Nat.reduceMul, Nat.zero_mul, Nat.one_mul, Nat.mul_one, List.toList_toArray, List.setIfInBounds_toArray, List.set_cons_zero, List.set_cons_succ, List.drop_succ_cons, List.drop_zero, List.take_succ_cons, List.take_zero, List.cons_append, List.nil_append, List.append_nil]) <;> rfl) | rfl); intro blk) | ((with_reducible apply op1g); rfl; rfl; rfl; rfl; (intro hg1; (try simp only [hg1, gv_true, Bool.true_and]); (first | ((with_reducible apply x_move); rfl) | ((with_reducible apply x_assign); rfl) | ((with_reducible apply x_field tb_ok); rfl; rfl; rfl; (first | ((simp only [Nat.reduceAdd, Nat.reduceMul, Nat.zero_add, Nat.add_zero, Nat.mul_one, Nat.zero_mul, Int.toNat_zero, Int.toNat_one, Int.reduceToNat]) <;> rfl) | rfl)) | ((with_reducible apply x_load tb_ok); rfl; rfl; (first | (with_reducible apply mh) | (focus ((repeat (first | (with_reducible apply mh) | (with_reducible apply mt) | (with_reducible apply List.mem_append_right))); done))); (first | rfl | assumption)) | ((with_reducible apply x_load0 tb_ok); rfl; rfl; assumption; (first | exact List.not_mem_nil | assumption)) | ((with_reducible apply x_loadA tb_ok); rfl; rfl; rfl; (first | (with_reducible apply mh) | (focus ((repeat (first | (with_reducible apply mh) | (with_reducible apply mt) | (with_reducible apply List.mem_append_right))); done))); (first | assumption | (first | ((simp only [putAt, List.toList_toArray, List.setIfInBounds_toArray, List.set_cons_zero, List.set_cons_succ, List.drop_succ_cons, List.drop_zero, List.take_succ_cons, List.take_zero, List.cons_append, List.nil_append, List.append_nil]) <;> rfl) | rfl)); rfl) | ((with_reducible apply x_loadA0 tb_ok); rfl; rfl; rfl; assumption; rfl; (first | exact List.not_mem_nil | assumption)) | ((with_reducible apply x_indexN tb_ok); rfl; rfl; rfl; (first | omega | ((try simp only [wnt, cond_true, cond_false, decide_eq_true_eq, Bool.not_eq_true', decide_eq_false_iff_not, Bool.and_eq_true, Bool.or_eq_true] at *); omega)); (first | ((simp only [Nat.reduceAdd, Nat.reduceMul, Nat.zero_add, Nat.add_zero, Nat.mul_one, Nat.zero_mul, Int.toNat_zero, Int.toNat_one, Int.reduceToNat]) <;> rfl) | rfl)) | ((with_reducible apply x_indexRN tb_ok); rfl; rfl; rfl; (first | omega | ((try simp only [wnt, cond_true, cond_false, decide_eq_true_eq, Bool.not_eq_true', decide_eq_false_iff_not, Bool.and_eq_true, Bool.or_eq_true] at *); omega)); (first | ((simp only [Nat.reduceAdd, Nat.reduceMul, Nat.zero_add, Nat.add_zero, Nat.mul_one, Nat.zero_mul, Int.toNat_zero, Int.toNat_one, Int.reduceToNat]) <;> rfl) | rfl)) | ((with_reducible apply x_index tb_ok); rfl; rfl; rfl; (first | omega | ((try simp only [wnt, cond_true, cond_false, decide_eq_true_eq, Bool.not_eq_true', decide_eq_false_iff_not, Bool.and_eq_true, Bool.or_eq_true] at *); omega)); (first | omega | ((try simp only [wnt, cond_true, cond_false, decide_eq_true_eq, Bool.not_eq_true', decide_eq_false_iff_not, Bool.and_eq_true, Bool.or_eq_true] at *); omega)); (first | ((simp only [Nat.reduceAdd, Nat.reduceMul, Nat.zero_add, Nat.add_zero, Nat.mul_one, Nat.zero_mul, Int.toNat_zero, Int.toNat_one, Int.reduceToNat]) <;> rfl) | rfl)) | ((with_reducible apply x_indexR tb_ok); rfl; rfl; rfl; (first | omega | ((try simp only [wnt, cond_true, cond_false, decide_eq_true_eq, Bool.not_eq_true', decide_eq_false_iff_not, Bool.and_eq_true, Bool.or_eq_true] at *); omega)); (first | omega | ((try simp only [wnt, cond_true, cond_false, decide_eq_true_eq, Bool.not_eq_true', decide_eq_false_iff_not, Bool.and_eq_true, Bool.or_eq_true] at *); omega)); (first | ((simp only [Nat.reduceAdd, Nat.reduceMul, Nat.zero_add, Nat.add_zero, Nat.mul_one, Nat.zero_mul, Int.toNat_zero, Int.toNat_one, Int.reduceToNat]) <;> rfl) | rfl)) | ((with_reducible apply x_len tb_ok); rfl; rfl) | ((with_reducible apply x_orT); rfl; rfl) | ((with_reducible apply x_andF); rfl; rfl) | ((with_reducible apply x_or); rfl; rfl) | ((with_reducible apply x_and); rfl; rfl) | ((with_reducible apply x_pick); rfl; rfl; rfl) | ((with_reducible apply x_not); rfl) | ((with_reducible apply x_extract); rfl; rfl) | ((with_reducible apply x_nilCheck); rfl) | ((with_reducible apply x_lss); rfl; rfl) | ((with_reducible apply x_leq); rfl; rfl) | ((with_reducible apply x_gtr); rfl; rfl) | ((with_reducible apply x_geq); rfl; rfl) | ((with_reducible apply x_eql); rfl; rfl) | ((with_reducible apply x_neq); rfl; rfl) | ((with_reducible apply x_eqlb tb_ok); rfl; rfl; rfl) | ((with_reducible apply x_neqb tb_ok); rfl; rfl; rfl) | ((with_reducible apply x_eqlA lt_ok); rfl; rfl; rfl; rfl; rfl) | ((with_reducible apply x_neqA lt_ok); rfl; rfl; rfl; rfl; rfl) | ((with_reducible apply x_inc); rfl; rfl; (first | omega | ((try simp only [wnt, cond_true, cond_false, decide_eq_true_eq, Bool.not_eq_true', decide_eq_false_iff_not, Bool.and_eq_true, Bool.or_eq_true] at *); omega))) | ((with_reducible apply x_add); rfl; rfl; (first | omega | ((try simp only [wnt, cond_true, cond_false, decide_eq_true_eq, Bool.not_eq_true', decide_eq_false_iff_not, Bool.and_eq_true, Bool.or_eq_true] at *); omega)); (first | omega | ((try simp only [wnt, cond_true, cond_false, decide_eq_true_eq, Bool.not_eq_true', decide_eq_false_iff_not, Bool.and_eq_true, Bool.or_eq_true] at *); omega))) | ((with_reducible apply x_sub); rfl; rfl; (first | omega | ((try simp only [wnt, cond_true, cond_false, decide_eq_true_eq, Bool.not_eq_true', decide_eq_false_iff_not, Bool.and_eq_true, Bool.or_eq_true] at *); omega)); (first | omega | ((try simp only [wnt, cond_true, cond_false, decide_eq_true_eq, Bool.not_eq_true', decide_eq_false_iff_not, Bool.and_eq_true, Bool.or_eq_true] at *); omega))) | ((with_reducible apply x_mul); rfl; rfl; (first | omega | ((try simp only [wnt, cond_true, cond_false, decide_eq_true_eq, Bool.not_eq_true', decide_eq_false_iff_not, Bool.and_eq_true, Bool.or_eq_true] at *); omega)); (first | omega | ((try simp only [wnt, cond_true, cond_false, decide_eq_true_eq, Bool.not_eq_true', decide_eq_false_iff_not, Bool.and_eq_true, Bool.or_eq_true] at *); omega))) | ((with_reducible apply x_convI tb_ok); rfl; rfl; rfl; (first | omega | ((try simp only [wnt, cond_true, cond_false, decide_eq_true_eq, Bool.not_eq_true', decide_eq_false_iff_not, Bool.and_eq_true, Bool.or_eq_true] at *); omega)); (first | omega | ((try simp only [wnt, cond_true, cond_false, decide_eq_true_eq, Bool.not_eq_true', decide_eq_false_iff_not, Bool.and_eq_true, Bool.or_eq_true] at *); omega))) | ((with_reducible apply x_convU tb_ok); rfl; rfl; rfl; (first | omega | ((try simp only [wnt, cond_true, cond_false, decide_eq_true_eq, Bool.not_eq_true', decide_eq_false_iff_not, Bool.and_eq_true, Bool.or_eq_true] at *); omega)); (first | omega | ((try simp only [wnt, cond_true, cond_false, decide_eq_true_eq, Bool.not_eq_true', decide_eq_false_iff_not, Bool.and_eq_true, Bool.or_eq_true] at *); omega))) | ((with_reducible apply x_build tb_ok); rfl; (first | ((simp only [Value.cells]) <;> rfl) | rfl); rfl; rfl; rfl; (first | ((simp only [putAt, Value.cells, List.toList_toArray, List.setIfInBounds_toArray, List.set_cons_zero, List.set_cons_succ, List.drop_succ_cons, List.drop_zero, List.take_succ_cons, List.take_zero, List.cons_append, List.nil_append, List.append_nil]) <;> rfl) | rfl)) | ((with_reducible apply x_makeFunc); rfl; rfl) | ((with_reducible apply x_addW); rfl; rfl) | ((with_reducible apply x_subW); rfl; rfl) | exact hyAbs hg1 rfl))) | ((with_reducible apply op1gg); rfl; rfl; rfl; rfl; (intro hg0 hg1; have hgC := hg0; (try simp only [Bool.and_eq_true] at hg0); (try simp only [hg0, hg1, gv_true, Bool.true_and, Bool.and_true, Bool.and_self]); (first | ((with_reducible apply x_move); rfl) | ((with_reducible apply x_assign); rfl) | ((with_reducible apply x_field tb_ok); rfl; rfl; rfl; (first | ((simp only [Nat.reduceAdd, Nat.reduceMul, Nat.zero_add, Nat.add_zero, Nat.mul_one, Nat.zero_mul, Int.toNat_zero, Int.toNat_one, Int.reduceToNat]) <;> rfl) | rfl)) | ((with_reducible apply x_load tb_ok); rfl; rfl; (first | (with_reducible apply mh) | (focus ((repeat (first | (with_reducible apply mh) | (with_reducible apply mt) | (with_reducible apply List.mem_append_right))); done))); (first | rfl | assumption)) | ((with_reducible apply x_load0 tb_ok); rfl; rfl; assumption; (first | exact List.not_mem_nil | assumption)) | ((with_reducible apply x_loadA tb_ok); rfl; rfl; rfl; (first | (with_reducible apply mh) | (focus ((repeat (first | (with_reducible apply mh) | (with_reducible apply mt) | (with_reducible apply List.mem_append_right))); done))); (first | assumption | (first | ((simp only [putAt, List.toList_toArray, List.setIfInBounds_toArray, List.set_cons_zero, List.set_cons_succ, List.drop_succ_cons, List.drop_zero, List.take_succ_cons, List.take_zero, List.cons_append, List.nil_append, List.append_nil]) <;> rfl) | rfl)); rfl) | ((with_reducible apply x_loadA0 tb_ok); rfl; rfl; rfl; assumption; rfl; (first | exact List.not_mem_nil | assumption)) | ((with_reducible apply x_indexN tb_ok); rfl; rfl; rfl; (first | omega | ((try simp only [wnt, cond_true, cond_false, decide_eq_true_eq, Bool.not_eq_true', decide_eq_false_iff_not, Bool.and_eq_true, Bool.or_eq_true] at *); omega)); (first | ((simp only [Nat.reduceAdd, Nat.reduceMul, Nat.zero_add, Nat.add_zero, Nat.mul_one, Nat.zero_mul, Int.toNat_zero, Int.toNat_one, Int.reduceToNat]) <;> rfl) | rfl)) | ((with_reducible apply x_indexRN tb_ok); rfl; rfl; rfl; (first | omega | ((try simp only [wnt, cond_true, cond_false, decide_eq_true_eq, Bool.not_eq_true', decide_eq_false_iff_not, Bool.and_eq_true, Bool.or_eq_true] at *); omega)); (first | ((simp only [Nat.reduceAdd, Nat.reduceMul, Nat.zero_add, Nat.add_zero, Nat.mul_one, Nat.zero_mul, Int.toNat_zero, Int.toNat_one, Int.reduceToNat]) <;> rfl) | rfl)) | ((with_reducible apply x_index tb_ok); rfl; rfl; rfl; (first | omega | ((try simp only [wnt, cond_true, cond_false, decide_eq_true_eq, Bool.not_eq_true', decide_eq_false_iff_not, Bool.and_eq_true, Bool.or_eq_true] at *); omega)); (first | omega | ((try simp only [wnt, cond_true, cond_false, decide_eq_true_eq, Bool.not_eq_true', decide_eq_false_iff_not, Bool.and_eq_true, Bool.or_eq_true] at *); omega)); (first | ((simp only [Nat.reduceAdd, Nat.reduceMul, Nat.zero_add, Nat.add_zero, Nat.mul_one, Nat.zero_mul, Int.toNat_zero, Int.toNat_one, Int.reduceToNat]) <;> rfl) | rfl)) | ((with_reducible apply x_indexR tb_ok); rfl; rfl; rfl; (first | omega | ((try simp only [wnt, cond_true, cond_false, decide_eq_true_eq, Bool.not_eq_true', decide_eq_false_iff_not, Bool.and_eq_true, Bool.or_eq_true] at *); omega)); (first | omega | ((try simp only [wnt, cond_true, cond_false, decide_eq_true_eq, Bool.not_eq_true', decide_eq_false_iff_not, Bool.and_eq_true, Bool.or_eq_true] at *); omega)); (first | ((simp only [Nat.reduceAdd, Nat.reduceMul, Nat.zero_add, Nat.add_zero, Nat.mul_one, Nat.zero_mul, Int.toNat_zero, Int.toNat_one, Int.reduceToNat]) <;> rfl) | rfl)) | ((with_reducible apply x_len tb_ok); rfl; rfl) | ((with_reducible apply x_orT); rfl; rfl) | ((with_reducible apply x_andF); rfl; rfl) | ((with_reducible apply x_or); rfl; rfl) | ((with_reducible apply x_and); rfl; rfl) | ((with_reducible apply x_pick); rfl; rfl; rfl) | ((with_reducible apply x_not); rfl) | ((with_reducible apply x_extract); rfl; rfl) | ((with_reducible apply x_nilCheck); rfl) | ((with_reducible apply x_lss); rfl; rfl) | ((with_reducible apply x_leq); rfl; rfl) | ((with_reducible apply x_gtr); rfl; rfl) | ((with_reducible apply x_geq); rfl; rfl) | ((with_reducible apply x_eql); rfl; rfl) | ((with_reducible apply x_neq); rfl; rfl) | ((with_reducible apply x_eqlb tb_ok); rfl; rfl; rfl) | ((with_reducible apply x_neqb tb_ok); rfl; rfl; rfl) | ((with_reducible apply x_eqlA lt_ok); rfl; rfl; rfl; rfl; rfl) | ((with_reducible apply x_neqA lt_ok); rfl; rfl; rfl; rfl; rfl) | ((with_reducible apply x_inc); rfl; rfl; (first | omega | ((try simp only [wnt, cond_true, cond_false, decide_eq_true_eq, Bool.not_eq_true', decide_eq_false_iff_not, Bool.and_eq_true, Bool.or_eq_true] at *); omega))) | ((with_reducible apply x_add); rfl; rfl; (first | omega | ((try simp only [wnt, cond_true, cond_false, decide_eq_true_eq, Bool.not_eq_true', decide_eq_false_iff_not, Bool.and_eq_true, Bool.or_eq_true] at *); omega)); (first | omega | ((try simp only [wnt, cond_true, cond_false, decide_eq_true_eq, Bool.not_eq_true', decide_eq_false_iff_not, Bool.and_eq_true, Bool.or_eq_true] at *); omega))) | ((with_reducible apply x_sub); rfl; rfl; (first | omega | ((try simp only [wnt, cond_true, cond_false, decide_eq_true_eq, Bool.not_eq_true', decide_eq_false_iff_not, Bool.and_eq_true, Bool.or_eq_true] at *); omega)); (first | omega | ((try simp only [wnt, cond_true, cond_false, decide_eq_true_eq, Bool.not_eq_true', decide_eq_false_iff_not, Bool.and_eq_true, Bool.or_eq_true] at *); omega))) | ((with_reducible apply x_mul); rfl; rfl; (first | omega | ((try simp only [wnt, cond_true, cond_false, decide_eq_true_eq, Bool.not_eq_true', decide_eq_false_iff_not, Bool.and_eq_true, Bool.or_eq_true] at *); omega)); (first | omega | ((try simp only [wnt, cond_true, cond_false, decide_eq_true_eq, Bool.not_eq_true', decide_eq_false_iff_not, Bool.and_eq_true, Bool.or_eq_true] at *); omega))) | ((with_reducible apply x_convI tb_ok); rfl; rfl; rfl; (first | omega | ((try simp only [wnt, cond_true, cond_false, decide_eq_true_eq, Bool.not_eq_true', decide_eq_false_iff_not, Bool.and_eq_true, Bool.or_eq_true] at *); omega)); (first | omega | ((try simp only [wnt, cond_true, cond_false, decide_eq_true_eq, Bool.not_eq_true', decide_eq_false_iff_not, Bool.and_eq_true, Bool.or_eq_true] at *); omega))) | ((with_reducible apply x_convU tb_ok); rfl; rfl; rfl; (first | omega | ((try simp only [wnt, cond_true, cond_false, decide_eq_true_eq, Bool.not_eq_true', decide_eq_false_iff_not, Bool.and_eq_true, Bool.or_eq_true] at *); omega)); (first | omega | ((try simp only [wnt, cond_true, cond_false, decide_eq_true_eq, Bool.not_eq_true', decide_eq_false_iff_not, Bool.and_eq_true, Bool.or_eq_true] at *); omega))) | ((with_reducible apply x_build tb_ok); rfl; (first | ((simp only [Value.cells]) <;> rfl) | rfl); rfl; rfl; rfl; (first | ((simp only [putAt, Value.cells, List.toList_toArray, List.setIfInBounds_toArray, List.set_cons_zero, List.set_cons_succ, List.drop_succ_cons, List.drop_zero, List.take_succ_cons, List.take_zero, List.cons_append, List.nil_append, List.append_nil]) <;> rfl) | rfl)) | ((with_reducible apply x_makeFunc); rfl; rfl) | ((with_reducible apply x_addW); rfl; rfl) | ((with_reducible apply x_subW); rfl; rfl) | exact hyAbs hg1 rfl | exact hyAbsC hgC rfl))) | ((with_reducible apply op1gu); rfl; rfl; rfl; rfl))); (repeat revert blk); exact kLeft.get)) : G := h ⟨k⟩
theorem dAssign {n : Nat} {w0 : World} {mu : List Nat} {l : Fm} {hp : Hp} {all : Array Oper} {iv : Fm} {i d : Nat} {ds : List (Nat × Nat)} {D : List Nat} {Y : Fm → Prop} {ty : TypeId} {pos : String} {af : Array Edge} {x : Operand} {v : Value} (h : DE3 Try.prog n w0 mu all ds l hp Y D ((i, v) :: iv)) (ho : all[i]? = some ⟨some d, .assign x, ty, pos, af, none⟩ := by rfl) (hx : ev (depFm ds iv af.toList ++ l) x = some v := by rfl) : DE3 Try.prog n w0 mu all ds l hp Y (i :: D) iv := de3_d ho (r_assign hx) h
theorem own_ex {e : Nat} (xs : List (List Value)) (hx : ∀ c ∈ xs, c.length = 1 ∧ c.all (·.oneCell') = true) (hl : xs.length < 65536) : ∃ v h, Own e 1 v h xs := by
  by_cases h0 : xs = []
  · subst h0; exact ⟨_, _, Own.nil e 1⟩
  · have hfl : ∀ ys : List (List Value), (∀ c ∈ ys, c.length = 1 ∧ c.all (·.oneCell') = true) → ys.flatten.length = ys.length := by
      intro ys
      induction ys with
      | nil => intro _; rfl
      | cons y r ih => intro h; rw [List.flatten_cons, List.length_append, ih (fun c hc => h c (List.mem_cons_of_mem _ hc)), (h y (List.mem_cons_self ..)).1, List.length_cons]; omega
    refine ⟨.slice (some ⟨0, 0, none⟩) xs.length xs.length, [⟨0, xs.flatten.toArray, e⟩], hx, .inr ⟨0, xs.length, _, rfl, rfl, ⟨by rw [hfl xs hx]; omega, Nat.le_refl _, by unfold maxLen; omega, by simp only [List.size_toArray]; rw [hfl xs hx]; omega, ?_⟩⟩⟩
    rw [List.take_of_length_le (by simp only; rw [hfl xs hx]; omega)]
theorem mapR_ex (r : TbR) (h1 : r.ws.length < 65536) (h2 : r.left.length < 65536) : ∃ u hn, MapR r u hn := by
  obtain ⟨v, h, hO⟩ := own_ex (e := 107) (r.ws.map uV) (fun c hc => by obtain ⟨x, _, rfl⟩ := List.mem_map.1 hc; exact ⟨rfl, rfl⟩) (by simpa using h1)
  obtain ⟨v2, h3, hO2⟩ := own_ex (e := 3) (r.left.map inV) (fun c hc => by obtain ⟨x, _, rfl⟩ := List.mem_map.1 hc; exact ⟨rfl, rfl⟩) (by simpa using h2)
  exact ⟨_, _, v, h, v2, h3, rfl, hO, hO2, HpLe.refl _⟩
def AllQ (r : Option (List MpD)) (u : Value) (hn : Hp) : Prop := match r with
  | none => u = .tuple #[.slice none 0 0, .int .i64 2]
  | some xs => ∃ v h, u = .tuple #[v, .int .i64 0] ∧ Own 133 2 v h (xs.map mpV) ∧ HpLe h hn
theorem gAll_e (ws : List Nat) (hw : W64 ws) {w : World} {v : Value} (h : SlAt w v 1 (ws.map uV)) (hm : memOk ws.length = true) (root : Int) : Fn Try.prog 28 [.agg #[v], .int .i64 root].toArray w [] (fun u hn => AllQ (pgsL ws root 0 4096) u hn) := by
  have hmi := memOk_iff hm
  obtain ⟨q, cap, rfl, hne, hle⟩ := h.opened
  obtain ⟨b, o, rfl⟩ := hne (by intro e; rw [e] at hmi; simp at hmi)
  refine enter Try.func28 ?_
  refine run ?_
  intro B
  refine run ?_
  refine callE (fun wc hG => mCheck_e ws.length cap (by omega) _ wc) ?_
  rw [hm]
  refine runC ?_
  refine callB (fun wc hG => gAllT_e ws hw hm root 3 0 rfl wc b o cap (h.good hG) root 0 (by decide) (by decide) (root_onway ws root) [] (Nat.le_refl _) (.slice none 0 0) [] (Acc.nil _ _) ⟨by simp, by simp⟩ (by simp)) ?_
  intro u hn hR
  have e4 : 8 * coversN 0 = 4096 := by decide
  rw [e4] at hR
  cases hz : pgsL ws root 0 4096 with
  | none =>
    rw [hz] at hR
    obtain rfl : u = .tuple #[.slice none 0 0, .bool false] := hR
    refine runC ?_
    exact fin2 rfl
  | some zs =>
    rw [hz] at hR
    obtain ⟨v', h', rfl, hA', hle'⟩ := hR
    refine ops_sub hle' ?_
    refine runC ?_
    exact fin2 ⟨_, h', rfl, hA'.own, by (refine hpLe_cnt fun a => ?_; simp only [cntB_app, cntB_cons, cntB_nil]; omega)⟩
theorem gAllF_e {n cap : Nat} {q : Option Addr} (hn : n < 1000000) (hm : memOk n = false) (root : Int) (w : World) : Fn Try.prog 28 [.agg #[.slice q n cap], .int .i64 root].toArray w [] (fun u hn => u = .tuple #[.slice none 0 0, .int .i64 1]) := by
  refine enter Try.func28 ?_
  refine run ?_
  intro B
  refine run ?_
  refine callE (fun wc hG => mCheck_e n cap (by omega) _ wc) ?_
  rw [hm]
  refine runC ?_
  exact fin2 rfl
theorem lawPgtAlls_e {w : World} {wv fv lv : Value} {S : SkD} (h : SkAt w wv fv lv S) : Fn Try.prog 4 [.agg #[wv, .int .i64 S.root, fv, lv]].toArray w [] (fun u _ => u = .bool true) := by
  have h' := h
  obtain ⟨q1, c1, rfl, _, _⟩ := h.ws.opened
  obtain ⟨q2, c2, rfl, _, _⟩ := h.fr.opened
  obtain ⟨q3, c3, rfl, hne, _⟩ := h.ac.opened
  refine enter Try.func4 ?_
  refine run ?_
  intro B
  refine run ?_
  refine callV (fun wc hG => heavy_e (h'.good hG)) ?_
  rintro _ ⟨hb, rfl, hsm⟩
  refine run ?_
  refine st_cond _ rfl (fun hc => ?_) (fun hc => ?_)
  · refine run ?_
    exact fin1 rfl
  obtain ⟨hwl, hfl, hal⟩ := hsm hc
  refine run ?_
  refine callB (fun wc hG => copyMem_e S.ws _ (h.ws.good hG) (by omega)) ?_
  rintro u hn2 ⟨mv, hm, rfl, hM, hle2⟩
  obtain ⟨qm, cm, em⟩ := hM.opened
  rw [List.length_map] at em
  subst em
  refine ops_sub hle2 ?_
  refine ops_perm (_ ++ hm) List.perm_append_comm ?_
  simp only [List.cons_append, List.nil_append]
  refine run ?_
  intro M
  refine callB (fun wc hG => copyNumbers_e S.free _ (h.fr.good hG) (by omega)) (fun fv hf hF => ?_)
  refine ops_perm (_ ++ hf) List.perm_append_comm ?_
  simp only [List.cons_append, List.nil_append]
  refine run ?_
  refine loopS (σ := ExS) (fun s => [(5, .int .i64 (s.i : Int)), (4, s.fv)]) (fun s => ⟨M, #[.slice s.mq s.ws.length s.mc], 24⟩ :: ⟨B, #[.slice q1 S.ws.length c1, .int .i64 S.root, .slice q2 S.free.length c2, .slice q3 S.acts.length c3], 28⟩ :: (s.hm ++ s.hf)) (fun s => s.i ≤ S.acts.length ∧ W64 s.ws ∧ s.ws.length ≤ 3000 ∧ s.fr.length ≤ 3000 ∧ Own 107 1 (.slice s.mq s.ws.length s.mc) s.hm (s.ws.map uV) ∧ Own 3 1 s.fv s.hf (s.fr.map inV)) (fun s => S.acts.length - s.i) ⟨0, S.ws, S.free, qm, cm, fv, hm, hf⟩ ⟨Nat.zero_le _, h.w64, hwl, hfl, hM, hF.own⟩ ?_ (hh := by (refine hpLe_cnt fun a => ?_; simp only [cntB_app, cntB_cons, cntB_nil]; omega))
  rintro ⟨i, ws, fr, mq, mc, fv, hm, hf⟩ m hmm ⟨hi, hw64, hw3, hf3, hM, hF⟩
  dsimp only at hmm hi hw64 hw3 hf3 hM hF ⊢
  obtain ⟨fq, fc, ef, hfq⟩ := hF.openedQ
  subst ef
  refine runG ?_
  refine st_cond _ rfl (fun hc2 => ?_) (fun hc2 => ?_)
  · have hlt : i < S.acts.length := by simp at hc2; omega
    obtain ⟨b3, o3, rfl⟩ := hne (by intro e; rw [e] at hlt; simp at hlt)
    have hr := h.ac.row hlt
    generalize S.acts.getD i default = a at hr
    simp only [acV] at hr
    have hr1 := rangeAt_cell (k := 1) hr rfl
    have hr3 := rangeAt_cell (k := 3) hr rfl
    have hrD := rangeAt_sub (k := 3) (n := 9) hr rfl
    refine run ?_
    refine callE (fun wc hG => rMem_e ws.length mc mq wc) ?_
    refine runG ?_
    refine callEG (fun _ wc hG => rPage_e a.mid wc) ?_
    refine runG ?_
    refine callEG (fun _ wc hG => rDesc_e 2 (.inr rfl) 3 (by decide) a.d wc) ?_
    refine runG ?_
    refine st_cond _ rfl (fun hb => ?_) (fun hb => ?_)
    · simp only [Bool.and_eq_true] at hb
      have hmz := btw_toNat hb.1.1.2
      have hm8 := memOk_iff hb.1.1.1
      refine run ?_
      have hTk := mapL_ok hw64 S.root fr a.mid.toNat a.d
      refine drawED 22 [0, 1, 2, 3, 4, 5, 6, 7, 8, 9, 10, 11, 12, 13, 14, 15] [16, 21] [17, 18, 19, 20] [23, 24] [22] ?_
      refine runS ?_
      refine eCall (R := fun u hn => MapR (mapL ws S.root fr a.mid.toNat a.d) u hn) (fun wc hG => by
        have h5 := rMap_e ws hw64 (hM.lie (fun b hb => hG.here b (by simp [hb])) (by rw [List.length_map]; omega)) fr (hF.lie (fun b hb => hG.here b (by simp [hb])) (by rw [List.length_map]; omega)) ⟨_, _, rfl, hfq.1⟩ S.root a.mid.toNat hmz.2 a.d hb.1.2 (by omega) (by omega)
        rw [hmz.1] at h5
        exact h5) (mapR_ex _ (by have := hTk.2.1; omega) (by have := hTk.2.2; omega)) ?_
      refine eAlloc ?_
      refine eNil ?_
      generalize mapL ws S.root fr a.mid.toNat a.d = T at hTk
      obtain ⟨tw, tl, te⟩ := T
      obtain ⟨hT64, hTl, hTf⟩ := hTk
      dsimp only at hT64 hTl hTf
      rintro _ _ ⟨X, rfl, rfl⟩ u hn2 ⟨v2, h2, vl2, hl2, rfl, hO2, hL2, hle2⟩
      dsimp only at hO2 hL2
      obtain ⟨q2', c2', e2⟩ := hO2.opened
      rw [List.length_map] at e2
      subst e2
      refine dMove ?_
      refine dExtract ?_
      refine dExtract ?_
      refine dExtract ?_
      refine dNil ?_
      refine dAssign ?_
      refine dAssign ?_
      refine dNil ?_
      simp only [DN, List.cons_append, List.nil_append, List.append_nil]
      refine cPut ?_
      refine dc_nil ?_
      refine opsC ?_
      refine ops_le (⟨X, #[.slice q2' tw.length c2'], 24⟩ :: ⟨M, #[.slice mq ws.length mc], 24⟩ :: ⟨B, #[.slice q1 S.ws.length c1, .int .i64 S.root, .slice q2 S.free.length c2, .slice (some ⟨b3, o3, none⟩) S.acts.length c3], 28⟩ :: (hm ++ hf ++ (h2 ++ hl2))) (by (refine hpLe_cnt fun a => ?_; have := HpLe.cnt hle2 a; simp only [cntB_app, cntB_cons, cntB_nil] at *; omega)) ?_
      refine run ?_
      refine st_cond _ rfl (fun hz => ?_) (fun hz => ?_)
      · refine run ?_
        refine nextS ⟨i + 1, tw, tl, q2', c2', vl2, h2, hl2⟩ ⟨hlt, hT64, by dsimp only; omega, by dsimp only; omega, hO2, hL2⟩ (hm := by dsimp only; omega) (h2 := by (refine hpLe_cnt fun a => ?_; simp only [cntB_app, cntB_cons, cntB_nil]; omega))
      · refine run ?_
        refine nextS ⟨i + 1, ws, fr, mq, mc, .slice fq fr.length fc, hm, hf⟩ ⟨hlt, hw64, hw3, hf3, hM, hF⟩ (hm := by dsimp only; omega) (h2 := by (refine hpLe_cnt fun a => ?_; simp only [cntB_app, cntB_cons, cntB_nil]; omega))
    · refine run ?_
      refine nextS ⟨i + 1, ws, fr, mq, mc, .slice fq fr.length fc, hm, hf⟩ ⟨hlt, hw64, hw3, hf3, hM, hF⟩ (hm := by dsimp only; omega) (h2 := by (refine hpLe_cnt fun a => ?_; simp only [cntB_app, cntB_cons, cntB_nil]; omega))
  · cases hmo : memOk ws.length with
    | false =>
      refine run ?_
      refine callB (fun wc hG => gAllF_e (by omega) hmo S.root wc) ?_
      rintro u hn3 rfl
      refine ops_le (⟨M, #[.slice mq ws.length mc], 24⟩ :: ⟨B, #[.slice q1 S.ws.length c1, .int .i64 S.root, .slice q2 S.free.length c2, .slice q3 S.acts.length c3], 28⟩ :: (hm ++ hf)) (by (refine hpLe_cnt fun a => ?_; simp only [cntB_app, cntB_cons, cntB_nil]; omega)) ?_
      refine run ?_
      refine callE (fun wc hG => rMem_e ws.length mc mq wc) ?_
      rw [hmo]
      refine runC ?_
      refine callE (fun wc hG => num16_e 1 wc) ?_
      refine runC ?_
      refine callEG (fun _ wc hG => wakes16_e wc) ?_
      refine runC ?_
      exact fin1 rfl
    | true =>
      refine run ?_
      refine callB (fun wc hG => gAll_e ws hw64 (hM.lie (fun b hb => hG.here b (by simp [hb])) (by rw [List.length_map]; omega)) hmo S.root) ?_
      intro u hn3 hR3
      cases hz : pgsL ws S.root 0 4096 with
      | none =>
        rw [hz] at hR3
        obtain rfl : u = .tuple #[.slice none 0 0, .int .i64 2] := hR3
        refine ops_le (⟨M, #[.slice mq ws.length mc], 24⟩ :: ⟨B, #[.slice q1 S.ws.length c1, .int .i64 S.root, .slice q2 S.free.length c2, .slice q3 S.acts.length c3], 28⟩ :: (hm ++ hf)) (by (refine hpLe_cnt fun a => ?_; simp only [cntB_app, cntB_cons, cntB_nil]; omega)) ?_
        refine run ?_
        refine callE (fun wc hG => rMem_e ws.length mc mq wc) ?_
        rw [hmo]
        refine runC ?_
        refine callB (fun wc hG => rAll_e ws hw64 (hM.lie (fun b hb => hG.here b (by simp [hb])) (by rw [List.length_map]; omega)) S.root (by omega)) ?_
        intro u hn4 hR4
        rw [hz] at hR4
        obtain rfl : u = .tuple #[.slice none 0 0, .bool false] := hR4
        refine ops_le (⟨M, #[.slice mq ws.length mc], 24⟩ :: ⟨B, #[.slice q1 S.ws.length c1, .int .i64 S.root, .slice q2 S.free.length c2, .slice q3 S.acts.length c3], 28⟩ :: (hm ++ hf)) (by (refine hpLe_cnt fun a => ?_; simp only [cntB_app, cntB_cons, cntB_nil]; omega)) ?_
        refine runC ?_
        refine callE (fun wc hG => num16_e 2 wc) ?_
        refine runC ?_
        refine callEG (fun _ wc hG => num16_e 2 wc) ?_
        refine runC ?_
        refine callEG (fun _ wc hG => eqMapsQ_e [] (.slice none 0 0) (.slice none 0 0) ((Own.nil 133 2).lie (fun b hb => by cases hb) (by decide)) ((Own.nil 133 2).lie (fun b hb => by cases hb) (by decide))) ?_
        refine runC ?_
        refine callEG (fun _ wc hG => wakes16_e wc) ?_
        refine runC ?_
        exact fin1 rfl
      | some zs =>
        rw [hz] at hR3
        obtain ⟨lv3, h3, rfl, hL3, hle3⟩ := hR3
        obtain ⟨q3', c3', e3⟩ := hL3.opened
        rw [List.length_map] at e3
        subst e3
        refine ops_le (⟨M, #[.slice mq ws.length mc], 24⟩ :: ⟨B, #[.slice q1 S.ws.length c1, .int .i64 S.root, .slice q2 S.free.length c2, .slice q3 S.acts.length c3], 28⟩ :: (hm ++ hf ++ h3)) (by (refine hpLe_cnt fun a => ?_; have := HpLe.cnt hle3 a; simp only [cntB_app, cntB_cons, cntB_nil] at *; omega)) ?_
        refine run ?_
        refine callE (fun wc hG => rMem_e ws.length mc mq wc) ?_
        rw [hmo]
        refine runC ?_
        refine callB (fun wc hG => rAll_e ws hw64 (hM.lie (fun b hb => hG.here b (by simp [hb])) (by rw [List.length_map]; omega)) S.root (by omega)) ?_
        intro u hn4 hR4
        rw [hz] at hR4
        obtain ⟨lv4, h4, rfl, hL4, hle4⟩ := hR4
        obtain ⟨q4', c4', e4⟩ := hL4.opened
        rw [List.length_map] at e4
        subst e4
        refine ops_le (⟨M, #[.slice mq ws.length mc], 24⟩ :: ⟨B, #[.slice q1 S.ws.length c1, .int .i64 S.root, .slice q2 S.free.length c2, .slice q3 S.acts.length c3], 28⟩ :: (hm ++ hf ++ h3 ++ h4)) (by (refine hpLe_cnt fun a => ?_; have := HpLe.cnt hle4 a; simp only [cntB_app, cntB_cons, cntB_nil] at *; omega)) ?_
        refine runC ?_
        refine callE (fun wc hG => num16_e 0 wc) ?_
        refine runC ?_
        refine callEG (fun _ wc hG => eqMapsQ_e zs _ _ (hL3.lie (fun b hb => hG.here b (by simp [hb])) (by rw [List.length_map]; have := pgs_len hz; omega)) (hL4.lie (fun b hb => hG.here b (by simp [hb])) (by rw [List.length_map]; have := pgs_len hz; omega))) ?_
        refine runC ?_
        refine callEG (fun _ wc hG => wakes16_e wc) ?_
        refine runC ?_
        exact fin1 rfl
end Go.Proofs.Ytcjbpdejlfomkaa
