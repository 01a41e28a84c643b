/- Layer 16: PgtExact, of scripts that map, unmap and split. -/
import Derived.Test.YtcjbpdejlfomkaaPgH
namespace Go.Proofs.Ytcjbpdejlfomkaa
open Go.RowKit
set_option linter.unusedVariables false
set_option linter.unusedSimpArgs false
set_option maxRecDepth 20000
attribute [local irreducible] Hy St Ops DH DHF
/-- .. no block entered. -/
theorem runB {G R : Prop} (k : R) (h : RestP R → G := by (intro kLeft; (repeat (first | (with_reducible apply st_seq) | (with_reducible apply st_region) | (with_reducible apply nx_normal) | (with_reducible apply nx_ret) | (with_reducible apply nx_exit) | (with_reducible apply np_normal) | (with_reducible apply inb_normal) | (with_reducible apply inb_ret) | (with_reducible apply inb_here) | (with_reducible apply ops_nil) | (with_reducible apply st_ret) | (with_reducible apply st_skip) | (with_reducible apply st_exit) | ((with_reducible apply inb_past); rfl) | ((with_reducible apply op1); rfl; (first | ((with_reducible apply x_move); rfl) | ((with_reducible apply x_assign); rfl) | ((with_reducible apply x_field tb_ok); rfl; rfl; rfl; (first | ((simp only [Nat.reduceAdd, Nat.reduceMul, Nat.zero_add, Nat.add_zero, Nat.mul_one, Nat.zero_mul, Int.toNat_zero, Int.toNat_one, Int.reduceToNat]) <;> rfl) | rfl)) | ((with_reducible apply x_load tb_ok); rfl; rfl; (first | (with_reducible apply mh) | (focus ((repeat (first | (with_reducible apply mh) | (with_reducible apply mt) | (with_reducible apply List.mem_append_right))); done))); (first | rfl | assumption)) | ((with_reducible apply x_load0 tb_ok); rfl; rfl; assumption; (first | exact List.not_mem_nil | assumption)) | ((with_reducible apply x_loadA tb_ok); rfl; rfl; rfl; (first | (with_reducible apply mh) | (focus ((repeat (first | (with_reducible apply mh) | (with_reducible apply mt) | (with_reducible apply List.mem_append_right))); done))); (first | assumption | (first | ((simp only [putAt, List.toList_toArray, List.setIfInBounds_toArray, List.set_cons_zero, List.set_cons_succ, List.drop_succ_cons, List.drop_zero, List.take_succ_cons, List.take_zero, List.cons_append, List.nil_append, List.append_nil]) <;> rfl) | rfl)); rfl) | ((with_reducible apply x_loadA0 tb_ok); rfl; rfl; rfl; assumption; rfl; (first | exact List.not_mem_nil | assumption)) | ((with_reducible apply x_indexN tb_ok); rfl; rfl; rfl; omega; (first | ((simp only [Nat.reduceAdd, Nat.reduceMul, Nat.zero_add, Nat.add_zero, Nat.mul_one, Nat.zero_mul, Int.toNat_zero, Int.toNat_one, Int.reduceToNat]) <;> rfl) | rfl)) | ((with_reducible apply x_indexRN tb_ok); rfl; rfl; rfl; omega; (first | ((simp only [Nat.reduceAdd, Nat.reduceMul, Nat.zero_add, Nat.add_zero, Nat.mul_one, Nat.zero_mul, Int.toNat_zero, Int.toNat_one, Int.reduceToNat]) <;> rfl) | rfl)) | ((with_reducible apply x_index tb_ok); rfl; rfl; rfl; omega; omega; (first | ((simp only [Nat.reduceAdd, Nat.reduceMul, Nat.zero_add, Nat.add_zero, Nat.mul_one, Nat.zero_mul, Int.toNat_zero, Int.toNat_one, Int.reduceToNat]) <;> rfl) | rfl)) | ((with_reducible apply x_indexR tb_ok); rfl; rfl; rfl; omega; omega; (first | ((simp only [Nat.reduceAdd, Nat.reduceMul, Nat.zero_add, Nat.add_zero, Nat.mul_one, Nat.zero_mul, Int.toNat_zero, Int.toNat_one, Int.reduceToNat]) <;> rfl) | rfl)) | ((with_reducible apply x_len tb_ok); rfl; rfl) | ((with_reducible apply x_orT); rfl; rfl) | ((with_reducible apply x_andF); rfl; rfl) | ((with_reducible apply x_or); rfl; rfl) | ((with_reducible apply x_and); rfl; rfl) | ((with_reducible apply x_pick); rfl; rfl; rfl) | ((with_reducible apply x_not); rfl) | ((with_reducible apply x_extract); rfl; rfl) | ((with_reducible apply x_nilCheck); rfl) | ((with_reducible apply x_lss); rfl; rfl) | ((with_reducible apply x_leq); rfl; rfl) | ((with_reducible apply x_gtr); rfl; rfl) | ((with_reducible apply x_geq); rfl; rfl) | ((with_reducible apply x_eql); rfl; rfl) | ((with_reducible apply x_neq); rfl; rfl) | ((with_reducible apply x_eqlb tb_ok); rfl; rfl; rfl) | ((with_reducible apply x_neqb tb_ok); rfl; rfl; rfl) | ((with_reducible apply x_eqlA lt_ok); rfl; rfl; rfl; rfl; rfl) | ((with_reducible apply x_neqA lt_ok); rfl; rfl; rfl; rfl; rfl) | ((with_reducible apply x_inc); rfl; rfl; omega) | ((with_reducible apply x_add); rfl; rfl; omega; omega) | ((with_reducible apply x_sub); rfl; rfl; omega; omega) | ((with_reducible apply x_mul); rfl; rfl; omega; omega) | ((with_reducible apply x_convI tb_ok); rfl; rfl; rfl; omega; omega) | ((with_reducible apply x_convU tb_ok); rfl; rfl; rfl; omega; omega) | ((with_reducible apply x_build tb_ok); rfl; (first | ((simp only [Value.cells]) <;> rfl) | rfl); rfl; rfl; rfl; (first | ((simp only [putAt, Value.cells, List.toList_toArray, List.setIfInBounds_toArray, List.set_cons_zero, List.set_cons_succ, List.drop_succ_cons, List.drop_zero, List.take_succ_cons, List.take_zero, List.cons_append, List.nil_append, List.append_nil]) <;> rfl) | rfl)) | ((with_reducible apply x_makeFunc); rfl; rfl) | ((with_reducible apply x_addW); rfl; rfl) | ((with_reducible apply x_subW); rfl; rfl))) | ((with_reducible apply z_box); rfl; rfl; (first | ((simp only [Value.cells]) <;> rfl) | rfl); intro blk) | ((with_reducible apply z_alloc tb_ok); rfl; rfl; (first | ((simp only [Value.cells]) <;> rfl) | rfl); intro blk) | ((with_reducible apply z_store tb_ok); rfl; rfl; (first | ((simp only [Value.cells]) <;> rfl) | rfl); rfl; rfl; (first | (with_reducible apply p0) | (with_reducible apply p1) | (with_reducible apply p2) | (with_reducible apply p3) | (with_reducible apply p4) | (with_reducible apply p5)); (first | rfl | (focus (simp; done))); (first | omega | (focus (simp; done)) | (focus (simp; omega))); (first | ((simp only [putAt, List.toList_toArray, List.setIfInBounds_toArray, List.set_cons_zero, List.set_cons_succ, List.drop_succ_cons, List.drop_zero, List.take_succ_cons, List.take_zero, List.cons_append, List.nil_append, List.append_nil]) <;> rfl) | rfl)) | ((with_reducible apply z_bslice tb_ok); rfl; rfl; rfl; (first | ((simp only [Value.cells]) <;> rfl) | rfl); rfl; rfl; rfl; rfl; (first | ((simp only [putAt, rep, Value.cells, Nat.reduceMul, Nat.zero_mul, Nat.one_mul, Nat.mul_one, List.toList_toArray, List.setIfInBounds_toArray, List.set_cons_zero, List.set_cons_succ, List.drop_succ_cons, List.drop_zero, List.take_succ_cons, List.take_zero, List.cons_append, List.nil_append, List.append_nil]) <;> rfl) | rfl); intro blk) | ((with_reducible apply op1g); rfl; rfl; rfl; rfl; (intro hg1; (try simp only [hg1, gv_true, Bool.true_and]); (first | ((with_reducible apply x_move); rfl) | ((with_reducible apply x_assign); rfl) | ((with_reducible apply x_field tb_ok); rfl; rfl; rfl; (first | ((simp only [Nat.reduceAdd, Nat.reduceMul, Nat.zero_add, Nat.add_zero, Nat.mul_one, Nat.zero_mul, Int.toNat_zero, Int.toNat_one, Int.reduceToNat]) <;> rfl) | rfl)) | ((with_reducible apply x_load tb_ok); rfl; rfl; (first | (with_reducible apply mh) | (focus ((repeat (first | (with_reducible apply mh) | (with_reducible apply mt) | (with_reducible apply List.mem_append_right))); done))); (first | rfl | assumption)) | ((with_reducible apply x_load0 tb_ok); rfl; rfl; assumption; (first | exact List.not_mem_nil | assumption)) | ((with_reducible apply x_loadA tb_ok); rfl; rfl; rfl; (first | (with_reducible apply mh) | (focus ((repeat (first | (with_reducible apply mh) | (with_reducible apply mt) | (with_reducible apply List.mem_append_right))); done))); (first | assumption | (first | ((simp only [putAt, List.toList_toArray, List.setIfInBounds_toArray, List.set_cons_zero, List.set_cons_succ, List.drop_succ_cons, List.drop_zero, List.take_succ_cons, List.take_zero, List.cons_append, List.nil_append, List.append_nil]) <;> rfl) | rfl)); rfl) | ((with_reducible apply x_loadA0 tb_ok); rfl; rfl; rfl; assumption; rfl; (first | exact List.not_mem_nil | assumption)) | ((with_reducible apply x_indexN tb_ok); rfl; rfl; rfl; (first | omega | ((try simp only [wnt, cond_true, cond_false, decide_eq_true_eq, Bool.not_eq_true', decide_eq_false_iff_not, Bool.and_eq_true, Bool.or_eq_true] at *); omega)); (first | ((simp only [Nat.reduceAdd, Nat.reduceMul, Nat.zero_add, Nat.add_zero, Nat.mul_one, Nat.zero_mul, Int.toNat_zero, Int.toNat_one, Int.reduceToNat]) <;> rfl) | rfl)) | ((with_reducible apply x_indexRN tb_ok); rfl; rfl; rfl; (first | omega | ((try simp only [wnt, cond_true, cond_false, decide_eq_true_eq, Bool.not_eq_true', decide_eq_false_iff_not, Bool.and_eq_true, Bool.or_eq_true] at *); omega)); (first | ((simp only [Nat.reduceAdd, Nat.reduceMul, Nat.zero_add, Nat.add_zero, Nat.mul_one, Nat.zero_mul, Int.toNat_zero, Int.toNat_one, Int.reduceToNat]) <;> rfl) | rfl)) | ((with_reducible apply x_index tb_ok); rfl; rfl; rfl; (first | omega | ((try simp only [wnt, cond_true, cond_false, decide_eq_true_eq, Bool.not_eq_true', decide_eq_false_iff_not, Bool.and_eq_true, Bool.or_eq_true] at *); omega)); (first | omega | ((try simp only [wnt, cond_true, cond_false, decide_eq_true_eq, Bool.not_eq_true', decide_eq_false_iff_not, Bool.and_eq_true, Bool.or_eq_true] at *); omega)); (first | ((simp only [Nat.reduceAdd, Nat.reduceMul, Nat.zero_add, Nat.add_zero, Nat.mul_one, Nat.zero_mul, Int.toNat_zero, Int.toNat_one, Int.reduceToNat]) <;> rfl) | rfl)) | ((with_reducible apply x_indexR tb_ok); rfl; rfl; rfl; (first | omega | ((try simp only [wnt, cond_true, cond_false, decide_eq_true_eq, Bool.not_eq_true', decide_eq_false_iff_not, Bool.and_eq_true, Bool.or_eq_true] at *); omega)); (first | omega | ((try simp only [wnt, cond_true, cond_false, decide_eq_true_eq, Bool.not_eq_true', decide_eq_false_iff_not, Bool.and_eq_true, Bool.or_eq_true] at *); omega)); (first | ((simp only [Nat.reduceAdd, Nat.reduceMul, Nat.zero_add, Nat.add_zero, Nat.mul_one, Nat.zero_mul, Int.toNat_zero, Int.toNat_one, Int.reduceToNat]) <;> rfl) | rfl)) | ((with_reducible apply x_len tb_ok); rfl; rfl) | ((with_reducible apply x_orT); rfl; rfl) | ((with_reducible apply x_andF); rfl; rfl) | ((with_reducible apply x_or); rfl; rfl) | ((with_reducible apply x_and); rfl; rfl) | ((with_reducible apply x_pick); rfl; rfl; rfl) | ((with_reducible apply x_not); rfl) | ((with_reducible apply x_extract); rfl; rfl) | ((with_reducible apply x_nilCheck); rfl) | ((with_reducible apply x_lss); rfl; rfl) | ((with_reducible apply x_leq); rfl; rfl) | ((with_reducible apply x_gtr); rfl; rfl) | ((with_reducible apply x_geq); rfl; rfl) | ((with_reducible apply x_eql); rfl; rfl) | ((with_reducible apply x_neq); rfl; rfl) | ((with_reducible apply x_eqlb tb_ok); rfl; rfl; rfl) | ((with_reducible apply x_neqb tb_ok); rfl; rfl; rfl) | ((with_reducible apply x_eqlA lt_ok); rfl; rfl; rfl; rfl; rfl) | ((with_reducible apply x_neqA lt_ok); rfl; rfl; rfl; rfl; rfl) | ((with_reducible apply x_inc); rfl; rfl; (first | omega | ((try simp only [wnt, cond_true, cond_false, decide_eq_true_eq, Bool.not_eq_true', decide_eq_false_iff_not, Bool.and_eq_true, Bool.or_eq_true] at *); omega))) | ((with_reducible apply x_add); rfl; rfl; (first | omega | ((try simp only [wnt, cond_true, cond_false, decide_eq_true_eq, Bool.not_eq_true', decide_eq_false_iff_not, Bool.and_eq_true, Bool.or_eq_true] at *); omega)); (first | omega | ((try simp only [wnt, cond_true, cond_false, decide_eq_true_eq, Bool.not_eq_true', decide_eq_false_iff_not, Bool.and_eq_true, Bool.or_eq_true] at *); omega))) | ((with_reducible apply x_sub); rfl; rfl; (first | omega | ((try simp only [wnt, cond_true, cond_false, decide_eq_true_eq, Bool.not_eq_true', decide_eq_false_iff_not, Bool.and_eq_true, Bool.or_eq_true] at *); omega)); (first | omega | ((try simp only [wnt, cond_true, cond_false, decide_eq_true_eq, Bool.not_eq_true', decide_eq_false_iff_not, Bool.and_eq_true, Bool.or_eq_true] at *); omega))) | ((with_reducible apply x_mul); rfl; rfl; (first | omega | ((try simp only [wnt, cond_true, cond_false, decide_eq_true_eq, Bool.not_eq_true', decide_eq_false_iff_not, Bool.and_eq_true, Bool.or_eq_true] at *); omega)); (first | omega | ((try simp only [wnt, cond_true, cond_false, decide_eq_true_eq, Bool.not_eq_true', decide_eq_false_iff_not, Bool.and_eq_true, Bool.or_eq_true] at *); omega))) | ((with_reducible apply x_convI tb_ok); rfl; rfl; rfl; (first | omega | ((try simp only [wnt, cond_true, cond_false, decide_eq_true_eq, Bool.not_eq_true', decide_eq_false_iff_not, Bool.and_eq_true, Bool.or_eq_true] at *); omega)); (first | omega | ((try simp only [wnt, cond_true, cond_false, decide_eq_true_eq, Bool.not_eq_true', decide_eq_false_iff_not, Bool.and_eq_true, Bool.or_eq_true] at *); omega))) | ((with_reducible apply x_convU tb_ok); rfl; rfl; rfl; (first | omega | ((try simp only [wnt, cond_true, cond_false, decide_eq_true_eq, Bool.not_eq_true', decide_eq_false_iff_not, Bool.and_eq_true, Bool.or_eq_true] at *); omega)); (first | omega | ((try simp only [wnt, cond_true, cond_false, decide_eq_true_eq, Bool.not_eq_true', decide_eq_false_iff_not, Bool.and_eq_true, Bool.or_eq_true] at *); omega))) | ((with_reducible apply x_build tb_ok); rfl; (first | ((simp only [Value.cells]) <;> rfl) | rfl); rfl; rfl; rfl; (first | ((simp only [putAt, Value.cells, List.toList_toArray, List.setIfInBounds_toArray, List.set_cons_zero, List.set_cons_succ, List.drop_succ_cons, List.drop_zero, List.take_succ_cons, List.take_zero, List.cons_append, List.nil_append, List.append_nil]) <;> rfl) | rfl)) | ((with_reducible apply x_makeFunc); rfl; rfl) | ((with_reducible apply x_addW); rfl; rfl) | ((with_reducible apply x_subW); rfl; rfl) | exact hyAbs hg1 rfl))) | ((with_reducible apply op1gg); rfl; rfl; rfl; rfl; (intro hg0 hg1; have hgC := hg0; (try simp only [Bool.and_eq_true] at hg0); (try simp only [hg0, hg1, gv_true, Bool.true_and, Bool.and_true, Bool.and_self]); (first | ((with_reducible apply x_move); rfl) | ((with_reducible apply x_assign); rfl) | ((with_reducible apply x_field tb_ok); rfl; rfl; rfl; (first | ((simp only [Nat.reduceAdd, Nat.reduceMul, Nat.zero_add, Nat.add_zero, Nat.mul_one, Nat.zero_mul, Int.toNat_zero, Int.toNat_one, Int.reduceToNat]) <;> rfl) | rfl)) | ((with_reducible apply x_load tb_ok); rfl; rfl; (first | (with_reducible apply mh) | (focus ((repeat (first | (with_reducible apply mh) | (with_reducible apply mt) | (with_reducible apply List.mem_append_right))); done))); (first | rfl | assumption)) | ((with_reducible apply x_load0 tb_ok); rfl; rfl; assumption; (first | exact List.not_mem_nil | assumption)) | ((with_reducible apply x_loadA tb_ok); rfl; rfl; rfl; (first | (with_reducible apply mh) | (focus ((repeat (first | (with_reducible apply mh) | (with_reducible apply mt) | (with_reducible apply List.mem_append_right))); done))); (first | assumption | (first | ((simp only [putAt, List.toList_toArray, List.setIfInBounds_toArray, List.set_cons_zero, List.set_cons_succ, List.drop_succ_cons, List.drop_zero, List.take_succ_cons, List.take_zero, List.cons_append, List.nil_append, List.append_nil]) <;> rfl) | rfl)); rfl) | ((with_reducible apply x_loadA0 tb_ok); rfl; rfl; rfl; assumption; rfl; (first | exact List.not_mem_nil | assumption)) | ((with_reducible apply x_indexN tb_ok); rfl; rfl; rfl; (first | omega | ((try simp only [wnt, cond_true, cond_false, decide_eq_true_eq, Bool.not_eq_true', decide_eq_false_iff_not, Bool.and_eq_true, Bool.or_eq_true] at *); omega)); (first | ((simp only [Nat.reduceAdd, Nat.reduceMul, Nat.zero_add, Nat.add_zero, Nat.mul_one, Nat.zero_mul, Int.toNat_zero, Int.toNat_one, Int.reduceToNat]) <;> rfl) | rfl)) | ((with_reducible apply x_indexRN tb_ok); rfl; rfl; rfl; (first | omega | ((try simp only [wnt, cond_true, cond_false, decide_eq_true_eq, Bool.not_eq_true', decide_eq_false_iff_not, Bool.and_eq_true, Bool.or_eq_true] at *); omega)); (first | ((simp only [Nat.reduceAdd, Nat.reduceMul, Nat.zero_add, Nat.add_zero, Nat.mul_one, Nat.zero_mul, Int.toNat_zero, Int.toNat_one, Int.reduceToNat]) <;> rfl) | rfl)) | ((with_reducible apply x_index tb_ok); rfl; rfl; rfl; (first | omega | ((try simp only [wnt, cond_true, cond_false, decide_eq_true_eq, Bool.not_eq_true', decide_eq_false_iff_not, Bool.and_eq_true, Bool.or_eq_true] at *); omega)); (first | omega | ((try simp only [wnt, cond_true, cond_false, decide_eq_true_eq, Bool.not_eq_true', decide_eq_false_iff_not, Bool.and_eq_true, Bool.or_eq_true] at *); omega)); (first | ((simp only [Nat.reduceAdd, Nat.reduceMul, Nat.zero_add, Nat.add_zero, Nat.mul_one, Nat.zero_mul, Int.toNat_zero, Int.toNat_one, Int.reduceToNat]) <;> rfl) | rfl)) | ((with_reducible apply x_indexR tb_ok); rfl; rfl; rfl; (first | omega | ((try simp only [wnt, cond_true, cond_false, decide_eq_true_eq, Bool.not_eq_true', decide_eq_false_iff_not, Bool.and_eq_true, Bool.or_eq_true] at *); omega)); (first | omega | ((try simp only [wnt, cond_true, cond_false, decide_eq_true_eq, Bool.not_eq_true', decide_eq_false_iff_not, Bool.and_eq_true, Bool.or_eq_true] at *); omega)); (first | ((simp only [Nat.reduceAdd, Nat.reduceMul, Nat.zero_add, Nat.add_zero, Nat.mul_one, Nat.zero_mul, Int.toNat_zero, Int.toNat_one, Int.reduceToNat]) <;> rfl) | rfl)) | ((with_reducible apply x_len tb_ok); rfl; rfl) | ((with_reducible apply x_orT); rfl; rfl) | ((with_reducible apply x_andF); rfl; rfl) | ((with_reducible apply x_or); rfl; rfl) | ((with_reducible apply x_and); rfl; rfl) | ((with_reducible apply x_pick); rfl; rfl; rfl) | ((with_reducible apply x_not); rfl) | ((with_reducible apply x_extract); rfl; rfl) | ((with_reducible apply x_nilCheck); rfl) | ((with_reducible apply x_lss); rfl; rfl) | ((with_reducible apply x_leq); rfl; rfl) | ((with_reducible apply x_gtr); rfl; rfl) | ((with_reducible apply x_geq); rfl; rfl) | ((with_reducible apply x_eql); rfl; rfl) | ((with_reducible apply x_neq); rfl; rfl) | ((with_reducible apply x_eqlb tb_ok); rfl; rfl; rfl) | ((with_reducible apply x_neqb tb_ok); rfl; rfl; rfl) | ((with_reducible apply x_eqlA lt_ok); rfl; rfl; rfl; rfl; rfl) | ((with_reducible apply x_neqA lt_ok); rfl; rfl; rfl; rfl; rfl) | ((with_reducible apply x_inc); rfl; rfl; (first | omega | ((try simp only [wnt, cond_true, cond_false, decide_eq_true_eq, Bool.not_eq_true', decide_eq_false_iff_not, Bool.and_eq_true, Bool.or_eq_true] at *); omega))) | ((with_reducible apply x_add); rfl; rfl; (first | omega | ((try simp only [wnt, cond_true, cond_false, decide_eq_true_eq, Bool.not_eq_true', decide_eq_false_iff_not, Bool.and_eq_true, Bool.or_eq_true] at *); omega)); (first | omega | ((try simp only [wnt, cond_true, cond_false, decide_eq_true_eq, Bool.not_eq_true', decide_eq_false_iff_not, Bool.and_eq_true, Bool.or_eq_true] at *); omega))) | ((with_reducible apply x_sub); rfl; rfl; (first | omega | ((try simp only [wnt, cond_true, cond_false, decide_eq_true_eq, Bool.not_eq_true', decide_eq_false_iff_not, Bool.and_eq_true, Bool.or_eq_true] at *); omega)); (first | omega | ((try simp only [wnt, cond_true, cond_false, decide_eq_true_eq, Bool.not_eq_true', decide_eq_false_iff_not, Bool.and_eq_true, Bool.or_eq_true] at *); omega))) | ((with_reducible apply x_mul); rfl; rfl; (first | omega | ((try simp only [wnt, cond_true, cond_false, decide_eq_true_eq, Bool.not_eq_true', decide_eq_false_iff_not, Bool.and_eq_true, Bool.or_eq_true] at *); omega)); (first | omega | ((try simp only [wnt, cond_true, cond_false, decide_eq_true_eq, Bool.not_eq_true', decide_eq_false_iff_not, Bool.and_eq_true, Bool.or_eq_true] at *); omega))) | ((with_reducible apply x_convI tb_ok); rfl; rfl; rfl; (first | omega | ((try simp only [wnt, cond_true, cond_false, decide_eq_true_eq, Bool.not_eq_true', decide_eq_false_iff_not, Bool.and_eq_true, Bool.or_eq_true] at *); omega)); (first | omega | ((try simp only [wnt, cond_true, cond_false, decide_eq_true_eq, Bool.not_eq_true', decide_eq_false_iff_not, Bool.and_eq_true, Bool.or_eq_true] at *); omega))) | ((with_reducible apply x_convU tb_ok); rfl; rfl; rfl; (first | omega | ((try simp only [wnt, cond_true, cond_false, decide_eq_true_eq, Bool.not_eq_true', decide_eq_false_iff_not, Bool.and_eq_true, Bool.or_eq_true] at *); omega)); (first | omega | ((try simp only [wnt, cond_true, cond_false, decide_eq_true_eq, Bool.not_eq_true', decide_eq_false_iff_not, Bool.and_eq_true, Bool.or_eq_true] at *); omega))) | ((with_reducible apply x_build tb_ok); rfl; (first | ((simp only [Value.cells]) <;> rfl) | rfl); rfl; rfl; rfl; (first | ((simp only [putAt, Value.cells, List.toList_toArray, List.setIfInBounds_toArray, List.set_cons_zero, List.set_cons_succ, List.drop_succ_cons, List.drop_zero, List.take_succ_cons, List.take_zero, List.cons_append, List.nil_append, List.append_nil]) <;> rfl) | rfl)) | ((with_reducible apply x_makeFunc); rfl; rfl) | ((with_reducible apply x_addW); rfl; rfl) | ((with_reducible apply x_subW); rfl; rfl) | exact hyAbs hg1 rfl | exact hyAbsC hgC rfl))) | ((with_reducible apply op1gu); rfl; rfl; rfl; rfl))); (repeat revert blk); exact kLeft.get)) : G := h ⟨k⟩
/-- One call, of plain numbers: the answer, what a leaf was. -/
def actG (ws : List Nat) (root : Int) (free : List Int) (a : AcD) : TbR :=
  bif decide (a.dd = 4) then { (unmapG ws root a.mid a.n).1 with left := free } else bif decide (a.dd = 5) then splitG ws root free a.mid else mapG ws root free a.mid a.d
theorem Own.openedQ {e sz : Nat} {v : Value} {h : Hp} {xs : List Int} (hA : Own e sz v h (xs.map inV)) : ∃ p cap, v = .slice p xs.length cap ∧ xs.length ≤ cap ∧ (p = none ∨ ∃ b off, p = some ⟨b, off, none⟩) := by
  rcases hA.2 with ⟨h1, rfl, rfl⟩ | ⟨g, cap, cur, rfl, rfl, hrow⟩
  · have : xs = [] := by simpa using h1
    subst this
    exact ⟨_, _, rfl, Nat.le_refl _, .inl rfl⟩
  · have := hrow.le
    rw [List.length_map] at *
    exact ⟨_, _, rfl, this, .inr ⟨_, _, rfl⟩⟩
theorem cond_P {α : Type} {P : α → Prop} {c : Bool} {a b : α} (ha : P a) (hb : P b) : P (bif c then a else b) := by cases c <;> assumption
/-- An answer of words, no more than there were. -/
def TOk (n m : Nat) (T : TbR) : Prop := W64 T.ws ∧ T.ws.length ≤ n ∧ T.left.length ≤ m
theorem bad_ok (n m : Nat) (e : Int) : TOk n m (badM e) := ⟨fun x hx => (by cases hx), Nat.zero_le _, Nat.zero_le _⟩
theorem mapL_ok {ws : List Nat} (hw : W64 ws) (root : Int) (free : List Int) (page : Nat) (d : DsD) : TOk ws.length free.length (mapL ws root free page d) := by
  unfold mapL
  refine cond_P (bad_ok _ _ _) (cond_P (bad_ok _ _ _) (cond_P (bad_ok _ _ _) ⟨(W64.linkL _ _ _ hw).putL _ _ _, ?_, ?_⟩))
  · dsimp only; rw [putL_len, linkL_len]; exact Nat.le_refl _
  · dsimp only; rw [List.length_drop]; omega
theorem splitL_ok {ws : List Nat} (hw : W64 ws) (root : Int) (free : List Int) (page : Nat) : TOk ws.length free.length (splitL ws root free page) := by
  unfold splitL
  refine cond_P (bad_ok _ _ _) (cond_P (bad_ok _ _ _) (cond_P (bad_ok _ _ _) ⟨(hw.eightL _ _ _ _).putL _ _ _, ?_, ?_⟩))
  · dsimp only; rw [putL_len, eightL_len]; exact Nat.le_refl _
  · dsimp only; rw [List.length_drop]; omega
theorem unmapL_ok {ws : List Nat} (hw : W64 ws) (root : Int) (page : Nat) (note : Int) : TOk ws.length 0 (unmapL ws root page note).1 := by
  unfold unmapL
  refine cond_P (P := fun x : TbR × DsD => TOk ws.length 0 x.1) (bad_ok _ _ _) (cond_P (P := fun x : TbR × DsD => TOk ws.length 0 x.1) (bad_ok _ _ _) ⟨hw.putL _ _ _, ?_, Nat.le_refl _⟩)
  dsimp only; rw [putL_len]; exact Nat.le_refl _
theorem actG_ok {ws : List Nat} (hw : W64 ws) (root : Int) (free : List Int) (a : AcD) : TOk ws.length free.length (actG ws root free a) := by
  have hu : TOk ws.length 0 (unmapG ws root a.mid a.n).1 := cond_P (P := fun x : TbR × DsD => TOk ws.length 0 x.1) (unmapL_ok hw _ _ _) (bad_ok _ _ _)
  unfold actG
  refine cond_P ⟨hu.1, hu.2.1, Nat.le_refl _⟩ (cond_P ?_ ?_)
  · exact cond_P (splitL_ok hw _ _ _) (bad_ok _ _ _)
  · exact cond_P (mapL_ok hw _ _ _ _) (bad_ok _ _ _)
theorem eqDsR (d : DsD) : eqLeaves [.int .i64 d.kind, .int .i64 d.frame, .bool d.r, .bool d.w, .bool d.x, .bool d.af, .bool d.ng, .int .i64 d.soft, .int .i64 d.note] [.int .i64 d.kind, .int .i64 d.frame, .bool d.r, .bool d.w, .bool d.x, .bool d.af, .bool d.ng, .int .i64 d.soft, .int .i64 d.note] = true := by rw [eqDs]; simp
/-- Numbers that lie in some blocks. -/
def LieS (hs : Hp) (v : Value) (xs : List Int) : Prop := ∀ wc, Here hs wc → SlAt wc v 1 (xs.map inV)
structure AnS where
  xq : Option Addr
  xc : Nat
  wq : Option Addr
  wc : Nat
  lf : Value
  du : Value
  hx : Hp
  hw : Hp
  hz : Hp
structure ExS where
  i : Nat
  ws : List Nat
  fr : List Int
  mq : Option Addr
  mc : Nat
  fv : Value
  hm : Hp
  hf : Hp
set_option maxHeartbeats 1600000 in
theorem exact16_e {w : World} {wv fv lv : Value} {S : SkD} (h : SkAt w wv fv lv S) (hdo : ∀ a ∈ S.acts, a.dd = 0 ∨ a.dd = 1 ∨ a.dd = 4 ∨ a.dd = 5) : Fn Try.prog 80 [.agg #[wv, .int .i64 S.root, fv, lv]].toArray w [] (fun u _ => u = .bool true) := by
  have h' := h
  obtain ⟨q1, c1, rfl, _, _⟩ := h.ws.opened
  obtain ⟨q2, c2, rfl, _, _⟩ := h.fr.opened
  obtain ⟨q3, c3, rfl, hne, _⟩ := h.ac.opened
  refine enter Try.func80 ?_
  refine run ?_
  intro B
  refine run ?_
  refine callV (fun wc hG => heavy_e (h'.good hG)) ?_
  rintro _ ⟨hb, rfl, hsm⟩
  refine run ?_
  refine st_cond _ rfl (fun hc => ?_) (fun hc => ?_)
  · refine run ?_
    exact fin1 rfl
  obtain ⟨hwl, hfl, hal⟩ := hsm hc
  refine run ?_
  refine drawEC 8 7 [0, 1, 3, 4] [2, 5, 6] [7] [⟨B, #[.slice q1 S.ws.length c1, .int .i64 S.root, .slice q2 S.free.length c2, .slice q3 S.acts.length c3], 28⟩] ?_
  refine runZ ?_
  refine eCall (fun wc hG => copyMem_e S.ws _ (h.ws.good hG) (by omega)) (copyMem_e S.ws _ h.ws (by omega)).some ?_
  refine eCall (fun wc hG => copyNumbers_e S.free _ (h.fr.good hG) (by omega)) (copyNumbers_e S.free _ h.fr (by omega)).some ?_
  refine eAlloc ?_
  refine eNil ?_
  rintro _ _ ⟨M, rfl, rfl⟩ fv hf hF u hn2 ⟨mv, hm, rfl, hM, hle2⟩
  obtain ⟨qm, cm, em⟩ := hM.opened
  rw [List.length_map] at em
  subst em
  simp only [DN, List.cons_append, List.nil_append, List.append_nil]
  refine cPut ?_
  refine dc_nil ?_
  refine opsC ?_
  refine run ?_
  refine loopS (σ := ExS) (fun s => [(5, .int .i64 (s.i : Int)), (4, s.fv)]) (fun s => ⟨M, #[.slice s.mq s.ws.length s.mc], 24⟩ :: ⟨B, #[.slice q1 S.ws.length c1, .int .i64 S.root, .slice q2 S.free.length c2, .slice q3 S.acts.length c3], 28⟩ :: (s.hm ++ s.hf)) (fun s => s.i ≤ S.acts.length ∧ W64 s.ws ∧ s.ws.length ≤ 3000 ∧ s.fr.length ≤ 3000 ∧ Own 107 1 (.slice s.mq s.ws.length s.mc) s.hm (s.ws.map uV) ∧ Acc 3 1 s.fv s.hf (s.fr.map inV)) (fun s => S.acts.length - s.i) ⟨0, S.ws, S.free, qm, cm, fv, hm, hf⟩ ⟨Nat.zero_le _, h.w64, hwl, hfl, hM, hF⟩ ?_ (hh := by (refine hpLe_cnt fun a => ?_; have := HpLe.cnt hle2 a; simp only [cntB_app, cntB_cons, cntB_nil] at *; omega))
  rintro ⟨i, ws, fr, mq, mc, fv, hm, hf⟩ m hmm ⟨hi, hw64, hw3, hf3, hM, hF⟩
  dsimp only at hmm hi hw64 hw3 hf3 hM hF ⊢
  obtain ⟨fq, fc, ef, hfq⟩ := hF.own.openedQ
  subst ef
  refine runG ?_
  refine st_cond _ rfl (fun hc2 => ?_) (fun hc2 => ?_)
  · have hlt : i < S.acts.length := by simp at hc2; omega
    obtain ⟨b3, o3, rfl⟩ := hne (by intro e; rw [e] at hlt; simp at hlt)
    have hr := h.ac.row hlt
    have hd := hdo (S.acts.getD i default) (by rw [List.getD_eq_getElem?_getD, List.getElem?_eq_getElem hlt]; simp)
    generalize S.acts.getD i default = a at hr hd
    simp only [acV] at hr
    refine run ?_
    intro A
    refine run ?_
    refine callB (fun wc hG => copyMem_e ws _ (hM.lie (fun b hb => hG.here b (by simp [hb])) (by rw [List.length_map]; omega)) (by omega)) ?_
    rintro u hn1 ⟨vi, hin, rfl, hI, hle1⟩
    obtain ⟨qi, ci, ei⟩ := hI.opened
    rw [List.length_map] at ei
    subst ei
    refine ops_sub hle1 ?_
    refine ops_perm (_ ++ hin) List.perm_append_comm ?_
    simp only [List.cons_append, List.nil_append]
    refine run ?_
    refine callB (fun wc hG => copyNumbers_e fr _ (hF.own.lie (fun b hb => hG.here b (by simp [hb])) (by rw [List.length_map]; omega)) (by omega)) (fun rv hir hR => ?_)
    obtain ⟨qr, cr, er, hqr⟩ := hR.own.openedQ
    subst er
    refine ops_perm (_ ++ hir) List.perm_append_comm ?_
    simp only [List.cons_append, List.nil_append]
    refine run ?_
    intro I
    refine run ?_
    refine callE (fun wc hG => rMem_e ws.length mc mq wc) ?_
    refine runG ?_
    refine callEG (fun _ wc hG => rPage_e a.mid wc) ?_
    refine runB ?_
    intro X W
    refine callE (fun wc hG => within_e wc a.dd 9 (by decide) (by decide)) ?_
    refine runB ?_
    have hTk := actG_ok hw64 S.root fr a
    generalize hT : actG ws S.root fr a = T at hTk
    obtain ⟨tw, tl, te⟩ := T
    obtain ⟨hT64, hTl, hTf⟩ := hTk
    dsimp only at hT64 hTl hTf
    obtain ⟨E, hE⟩ : ∃ E, E = te := ⟨_, rfl⟩
    refine st_cutD (σ := AnS) (fun s => [(10, .int .i64 E), (13, s.lf), (14, s.du), (15, .int .i64 te)]) (fun s => ⟨W, #[.slice s.wq tw.length s.wc], 24⟩ :: ⟨X, #[.slice s.xq tw.length s.xc], 24⟩ :: ⟨I, #[.slice qi ws.length ci], 24⟩ :: ⟨M, #[.slice mq ws.length mc], 24⟩ :: ⟨B, #[.slice q1 S.ws.length c1, .int .i64 S.root, .slice q2 S.free.length c2, .slice (some ⟨b3, o3, none⟩) S.acts.length c3], 28⟩ :: (hm ++ hf ++ hin ++ hir ++ s.hx ++ s.hw ++ s.hz)) (fun s => Own 107 1 (.slice s.xq tw.length s.xc) s.hx (tw.map uV) ∧ Own 107 1 (.slice s.wq tw.length s.wc) s.hw (tw.map uV) ∧ (te = 0 → LieS (hf ++ hir ++ s.hz) s.lf tl ∧ LieS (hf ++ hir ++ s.hz) s.du tl)) ?_ ?_
    · have hwt : (a.dd = 4 ∧ wthn a.dd 9 = 4) ∨ (a.dd = 5 ∧ wthn a.dd 9 = 5) ∨ (a.dd ≠ 4 ∧ a.dd ≠ 5 ∧ (wthn a.dd 9 = 0 ∨ wthn a.dd 9 = 1)) := by
        rcases hd with e | e | e | e
        · right; right; rw [e]; decide
        · right; right; rw [e]; decide
        · left; rw [e]; decide
        · right; left; rw [e]; decide
      generalize wthn a.dd 9 = dk at hwt
      rcases hwt with ⟨h4, rfl⟩ | ⟨h5, rfl⟩ | ⟨hn4, hn5, hdk⟩
      · refine runC ?_
        refine callB (fun wc hG => gUnmap_e ws hw64 (hI.lie (fun b hb => hG.here b (by simp [hb])) (by rw [List.length_map]; omega)) (by omega) S.root a.mid a.n) ?_
        rintro u hn2 ⟨v2, h2, rfl, hO2, hle2⟩
        have hT4 : (⟨tw, tl, te⟩ : TbR) = { (unmapG ws S.root a.mid a.n).1 with left := fr } := by rw [← hT, actG, h4]; rfl
        have hUT : (memOk ws.length && PtD.btw a.mid 0 4095 && PtD.btw a.n 0 15) = true → unmapG ws S.root a.mid a.n = unmapL ws S.root a.mid.toNat a.n := fun hb => by
          simp only [Bool.and_eq_true] at hb
          simp only [unmapG, askOk, hb.1.1, hb.1.2, hb.2]; rfl
        have hUF : (memOk ws.length && PtD.btw a.mid 0 4095 && PtD.btw a.n 0 15) = false → unmapG ws S.root a.mid a.n = (badM 1, noDs) := fun hb => by
          simp only [unmapG, askOk]
          rw [show (PtD.btw a.n 0 15 && (memOk ws.length && PtD.btw a.mid 0 4095)) = false by rw [Bool.and_comm]; exact hb]
          rfl
        generalize unmapG ws S.root a.mid a.n = U at hO2 hT4 hUT hUF ⊢
        obtain ⟨⟨uws, ul, ue⟩, ud⟩ := U
        injection hT4 with hT5 hT6 hT7
        subst hT5 hT6 hT7 hE
        dsimp only at hO2 ⊢
        obtain ⟨q2', c2', e2⟩ := hO2.opened
        rw [List.length_map] at e2
        subst e2
        refine ops_sub hle2 ?_
        refine ops_perm (_ ++ h2) List.perm_append_comm ?_
        simp only [List.cons_append, List.nil_append]
        refine runC ?_
        intro Y D
        refine runC ?_
        intro Z
        refine runC ?_
        refine callEG (fun _ wc hG => num_e a.n 15 wc) ?_
        refine runC ?_
        refine st_cond _ rfl (fun hb => ?_) (fun hb => ?_)
        · have hU := hUT hb
          simp only [Bool.and_eq_true] at hb
          have hmz := btw_toNat hb.1.2
          have hm8 := memOk_iff hb.1.1
          have hn15 : 0 ≤ a.n ∧ a.n ≤ 15 := by have := hb.2; simpa using this
          refine runC ?_
          refine callB (R := fun u hn => UnR (⟨⟨tw, ul, E⟩, ud⟩ : TbR × DsD) u hn) (fun wc hG => by
            have h5 := rUnmap_e ws hw64 (hM.lie (fun b hb => hG.here b (by simp [hb])) (by rw [List.length_map]; omega)) S.root a.mid.toNat hmz.2 a.n hn15.1 hn15.2 (by omega)
            rw [hmz.1, ← hU] at h5
            exact h5) ?_
          rintro u hn3 ⟨v3, h3, rfl, hO3, hle3⟩
          obtain ⟨q3', c3', e3⟩ := hO3.opened
          rw [List.length_map] at e3
          subst e3
          refine ops_sub hle3 ?_
          refine ops_perm (_ ++ h3) List.perm_append_comm ?_
          simp only [List.cons_append, List.nil_append]
          refine runC ?_
          refine st_cond _ rfl (fun hq => ?_) (fun hq => ?_)
          · exfalso; rw [eqDsR] at hq; cases hq
          refine runC ?_
          refine meetS ⟨q2', c2', q3', c3', .slice qr tl.length cr, .slice fq tl.length fc, h2, h3, []⟩ ⟨hO2, hO3, fun _ => ⟨fun wc hh => hR.own.lie (hh.sub fun b hb => by simp [hb]) (by rw [List.length_map]; omega), fun wc hh => hF.own.lie (hh.sub fun b hb => by simp [hb]) (by rw [List.length_map]; omega)⟩⟩ (h2 := by (refine hpLe_cnt fun a => ?_; simp only [cntB_app, cntB_cons, cntB_nil]; omega))
        · have hU := hUF hb
          injection hU with hU1 hU2
          injection hU1 with hU3 hU4 hU5
          subst hU2
          subst hU3
          subst hU5
          refine runC ?_
          refine meetS ⟨q2', c2', none, 0, .slice qr tl.length cr, .slice fq tl.length fc, h2, [], []⟩ ⟨hO2, Own.nil _ _, fun _ => ⟨fun wc hh => hR.own.lie (hh.sub fun b hb => by simp [hb]) (by rw [List.length_map]; omega), fun wc hh => hF.own.lie (hh.sub fun b hb => by simp [hb]) (by rw [List.length_map]; omega)⟩⟩ (h2 := by (simp only [List.length_nil]); (refine hpLe_cnt fun a => ?_; simp only [cntB_app, cntB_cons, cntB_nil]; omega))
      · refine runC ?_
        have hT4 : (⟨tw, tl, te⟩ : TbR) = splitG ws S.root fr a.mid := by rw [← hT, actG, h5]; rfl
        refine callB (fun wc hG => gSplit_e ws hw64 (hI.lie (fun b hb => hG.here b (by simp [hb])) (by rw [List.length_map]; omega)) (by omega) fr (hR.own.lie (fun b hb => hG.here b (by simp [hb])) (by rw [List.length_map]; omega)) ⟨_, _, rfl, hqr.1⟩ (by omega) S.root a.mid) ?_
        rintro u hn2 ⟨v2, h2, vl2, hl2, rfl, hO2, hL2, hle2⟩
        rw [← hT4] at hO2 hL2
        rw [← hT4]
        subst hE
        dsimp only at hO2 hL2 ⊢
        obtain ⟨q2', c2', e2⟩ := hO2.opened
        rw [List.length_map] at e2
        subst e2
        refine ops_sub hle2 ?_
        refine ops_perm (_ ++ (h2 ++ hl2)) List.perm_append_comm ?_
        simp only [List.cons_append, List.nil_append]
        refine runC ?_
        refine st_cond _ rfl (fun hb => ?_) (fun hb => ?_)
        · have hU : (⟨tw, tl, E⟩ : TbR) = splitL ws S.root fr a.mid.toNat := by
            rw [hT4]; simp only [splitG, askOk, hb]
            rfl
          simp only [Bool.and_eq_true] at hb
          have hmz := btw_toNat hb.2
          have hm8 := memOk_iff hb.1
          refine runC ?_
          refine callB (R := fun u hn => MapR ⟨tw, tl, E⟩ u hn) (fun wc hG => by
            have h5 := rSplit_e ws hw64 (hM.lie (fun b hb => hG.here b (by simp [hb])) (by rw [List.length_map]; omega)) fr (hF.own.lie (fun b hb => hG.here b (by simp [hb])) (by rw [List.length_map]; omega)) ⟨_, _, rfl, hfq.1⟩ S.root a.mid.toNat hmz.2 (by omega) (by omega)
            rw [hmz.1, ← hU] at h5
            exact h5) ?_
          rintro u hn3 ⟨v3, h3, vl3, hl3, rfl, hO3, hL3, hle3⟩
          dsimp only at hO3 hL3
          obtain ⟨q3', c3', e3⟩ := hO3.opened
          rw [List.length_map] at e3
          subst e3
          refine ops_sub hle3 ?_
          refine ops_perm (_ ++ (h3 ++ hl3)) List.perm_append_comm ?_
          simp only [List.cons_append, List.nil_append]
          refine runC ?_
          refine meetS ⟨q2', c2', q3', c3', vl2, vl3, h2, h3, hl2 ++ hl3⟩ ⟨hO2, hO3, fun _ => ⟨fun wc hh => hL2.lie (hh.sub fun b hb => by simp [hb]) (by rw [List.length_map]; omega), fun wc hh => hL3.lie (hh.sub fun b hb => by simp [hb]) (by rw [List.length_map]; omega)⟩⟩ (h2 := by (refine hpLe_cnt fun a => ?_; simp only [cntB_app, cntB_cons, cntB_nil]; omega))
        · have hU : (⟨tw, tl, E⟩ : TbR) = badM 1 := by
            rw [hT4]; simp only [splitG, askOk, hb]
            rfl
          injection hU with hU3 hU4 hU5
          subst hU3
          subst hU5
          refine runC ?_
          refine meetS ⟨q2', c2', none, 0, vl2, .slice none 0 0, h2, [], hl2⟩ ⟨hO2, Own.nil _ _, fun h => absurd h (by decide)⟩ (h2 := by (simp only [List.length_nil]); (refine hpLe_cnt fun a => ?_; simp only [cntB_app, cntB_cons, cntB_nil]; omega))
      · have hdd : decide (a.dd = 4) = false ∧ decide (a.dd = 5) = false := ⟨decide_eq_false hn4, decide_eq_false hn5⟩
        rcases hdk with rfl | rfl
        · refine runC ?_
          have hT4 : (⟨tw, tl, te⟩ : TbR) = mapG ws S.root fr a.mid a.d := by rw [← hT, actG, hdd.1, hdd.2]; rfl
          refine callB (fun wc hG => gMap_e ws hw64 (hI.lie (fun b hb => hG.here b (by simp [hb])) (by rw [List.length_map]; omega)) (by omega) fr (hR.own.lie (fun b hb => hG.here b (by simp [hb])) (by rw [List.length_map]; omega)) ⟨_, _, rfl, hqr.1, hqr.2⟩ (by omega) S.root a.mid a.d) ?_
          rintro u hn2 ⟨v2, h2, vl2, hl2, rfl, hO2, hL2, hle2⟩
          rw [← hT4] at hO2 hL2
          rw [← hT4]
          subst hE
          dsimp only at hO2 hL2 ⊢
          obtain ⟨q2', c2', e2⟩ := hO2.opened
          rw [List.length_map] at e2
          subst e2
          refine ops_sub hle2 ?_
          refine ops_perm (_ ++ (h2 ++ hl2)) List.perm_append_comm ?_
          simp only [List.cons_append, List.nil_append]
          refine runC ?_
          refine callEG (fun _ wc hG => rDesc_e 2 (.inr rfl) 3 (by decide) a.d wc) ?_
          refine runC ?_
          refine st_cond _ rfl (fun hb => ?_) (fun hb => ?_)
          · have hU : (⟨tw, tl, E⟩ : TbR) = mapL ws S.root fr a.mid.toNat a.d := by
              rw [hT4]; simp only [mapG, askOk]; rw [show (a.d.may 2 3 && decide (a.d.kind = 2) && (memOk ws.length && PtD.btw a.mid 0 4095)) = true by (simp only [Bool.and_eq_true] at hb ⊢; exact ⟨⟨hb.2, hb.1.2⟩, hb.1.1⟩)]
              rfl
            simp only [Bool.and_eq_true] at hb
            have hmz := btw_toNat hb.1.1.2
            have hm8 := memOk_iff hb.1.1.1
            refine runC ?_
            refine callB (R := fun u hn => MapR ⟨tw, tl, E⟩ u hn) (fun wc hG => by
              have h5 := rMap_e ws hw64 (hM.lie (fun b hb => hG.here b (by simp [hb])) (by rw [List.length_map]; omega)) fr (hF.own.lie (fun b hb => hG.here b (by simp [hb])) (by rw [List.length_map]; omega)) ⟨_, _, rfl, hfq.1⟩ S.root a.mid.toNat hmz.2 a.d hb.2 (by omega) (by omega)
              rw [hmz.1, ← hU] at h5
              exact h5) ?_
            rintro u hn3 ⟨v3, h3, vl3, hl3, rfl, hO3, hL3, hle3⟩
            dsimp only at hO3 hL3
            obtain ⟨q3', c3', e3⟩ := hO3.opened
            rw [List.length_map] at e3
            subst e3
            refine ops_sub hle3 ?_
            refine ops_perm (_ ++ (h3 ++ hl3)) List.perm_append_comm ?_
            simp only [List.cons_append, List.nil_append]
            refine runC ?_
            refine meetS ⟨q2', c2', q3', c3', vl2, vl3, h2, h3, hl2 ++ hl3⟩ ⟨hO2, hO3, fun _ => ⟨fun wc hh => hL2.lie (hh.sub fun b hb => by simp [hb]) (by rw [List.length_map]; omega), fun wc hh => hL3.lie (hh.sub fun b hb => by simp [hb]) (by rw [List.length_map]; omega)⟩⟩ (h2 := by (refine hpLe_cnt fun a => ?_; simp only [cntB_app, cntB_cons, cntB_nil]; omega))
          · have hU : (⟨tw, tl, E⟩ : TbR) = badM 1 := by
              rw [hT4]; simp only [mapG, askOk]; rw [show (a.d.may 2 3 && decide (a.d.kind = 2) && (memOk ws.length && PtD.btw a.mid 0 4095)) = false by (rw [← hb]; generalize a.d.may 2 3 = x; generalize decide (a.d.kind = 2) = y; generalize (memOk ws.length && PtD.btw a.mid 0 4095) = z; cases x <;> cases y <;> cases z <;> rfl)]
              rfl
            injection hU with hU3 hU4 hU5
            subst hU3
            subst hU5
            refine runC ?_
            refine meetS ⟨q2', c2', none, 0, vl2, .slice none 0 0, h2, [], hl2⟩ ⟨hO2, Own.nil _ _, fun h => absurd h (by decide)⟩ (h2 := by (simp only [List.length_nil]); (refine hpLe_cnt fun a => ?_; simp only [cntB_app, cntB_cons, cntB_nil]; omega))
        · refine runC ?_
          have hT4 : (⟨tw, tl, te⟩ : TbR) = mapG ws S.root fr a.mid a.d := by rw [← hT, actG, hdd.1, hdd.2]; rfl
          refine callB (fun wc hG => gMap_e ws hw64 (hI.lie (fun b hb => hG.here b (by simp [hb])) (by rw [List.length_map]; omega)) (by omega) fr (hR.own.lie (fun b hb => hG.here b (by simp [hb])) (by rw [List.length_map]; omega)) ⟨_, _, rfl, hqr.1, hqr.2⟩ (by omega) S.root a.mid a.d) ?_
          rintro u hn2 ⟨v2, h2, vl2, hl2, rfl, hO2, hL2, hle2⟩
          rw [← hT4] at hO2 hL2
          rw [← hT4]
          subst hE
          dsimp only at hO2 hL2 ⊢
          obtain ⟨q2', c2', e2⟩ := hO2.opened
          rw [List.length_map] at e2
          subst e2
          refine ops_sub hle2 ?_
          refine ops_perm (_ ++ (h2 ++ hl2)) List.perm_append_comm ?_
          simp only [List.cons_append, List.nil_append]
          refine runC ?_
          refine callEG (fun _ wc hG => rDesc_e 2 (.inr rfl) 3 (by decide) a.d wc) ?_
          refine runC ?_
          refine st_cond _ rfl (fun hb => ?_) (fun hb => ?_)
          · have hU : (⟨tw, tl, E⟩ : TbR) = mapL ws S.root fr a.mid.toNat a.d := by
              rw [hT4]; simp only [mapG, askOk]; rw [show (a.d.may 2 3 && decide (a.d.kind = 2) && (memOk ws.length && PtD.btw a.mid 0 4095)) = true by (simp only [Bool.and_eq_true] at hb ⊢; exact ⟨⟨hb.2, hb.1.2⟩, hb.1.1⟩)]
              rfl
            simp only [Bool.and_eq_true] at hb
            have hmz := btw_toNat hb.1.1.2
            have hm8 := memOk_iff hb.1.1.1
            refine runC ?_
            refine callB (R := fun u hn => MapR ⟨tw, tl, E⟩ u hn) (fun wc hG => by
              have h5 := rMap_e ws hw64 (hM.lie (fun b hb => hG.here b (by simp [hb])) (by rw [List.length_map]; omega)) fr (hF.own.lie (fun b hb => hG.here b (by simp [hb])) (by rw [List.length_map]; omega)) ⟨_, _, rfl, hfq.1⟩ S.root a.mid.toNat hmz.2 a.d hb.2 (by omega) (by omega)
              rw [hmz.1, ← hU] at h5
              exact h5) ?_
            rintro u hn3 ⟨v3, h3, vl3, hl3, rfl, hO3, hL3, hle3⟩
            dsimp only at hO3 hL3
            obtain ⟨q3', c3', e3⟩ := hO3.opened
            rw [List.length_map] at e3
            subst e3
            refine ops_sub hle3 ?_
            refine ops_perm (_ ++ (h3 ++ hl3)) List.perm_append_comm ?_
            simp only [List.cons_append, List.nil_append]
            refine runC ?_
            refine meetS ⟨q2', c2', q3', c3', vl2, vl3, h2, h3, hl2 ++ hl3⟩ ⟨hO2, hO3, fun _ => ⟨fun wc hh => hL2.lie (hh.sub fun b hb => by simp [hb]) (by rw [List.length_map]; omega), fun wc hh => hL3.lie (hh.sub fun b hb => by simp [hb]) (by rw [List.length_map]; omega)⟩⟩ (h2 := by (refine hpLe_cnt fun a => ?_; simp only [cntB_app, cntB_cons, cntB_nil]; omega))
          · have hU : (⟨tw, tl, E⟩ : TbR) = badM 1 := by
              rw [hT4]; simp only [mapG, askOk]; rw [show (a.d.may 2 3 && decide (a.d.kind = 2) && (memOk ws.length && PtD.btw a.mid 0 4095)) = false by (rw [← hb]; generalize a.d.may 2 3 = x; generalize decide (a.d.kind = 2) = y; generalize (memOk ws.length && PtD.btw a.mid 0 4095) = z; cases x <;> cases y <;> cases z <;> rfl)]
              rfl
            injection hU with hU3 hU4 hU5
            subst hU3
            subst hU5
            refine runC ?_
            refine meetS ⟨q2', c2', none, 0, vl2, .slice none 0 0, h2, [], hl2⟩ ⟨hO2, Own.nil _ _, fun h => absurd h (by decide)⟩ (h2 := by (simp only [List.length_nil]); (refine hpLe_cnt fun a => ?_; simp only [cntB_app, cntB_cons, cntB_nil]; omega))
    · rintro ⟨xq, xc, wq, wc', lf, du, hx, hw, hz⟩ ⟨hX, hW, hL⟩
      dsimp only at hX hW hL ⊢
      refine run ?_
      have hdec : decide (te = E) = true := decide_eq_true hE.symm
      have hlie : ∀ {hs : Hp} {v : Value} {xs : List Int} {wc : World} {hp : Hp} {w0 : World} {mu : List Nat}, LieS hs v xs → Good w0 mu hp wc → (∀ b ∈ hs, b ∈ hp) → SlAt wc v 1 (xs.map inV) := fun hL hG hb => hL _ (fun b h => hG.here b (hb b h))
      refine callE (fun wc hG => num16_e te wc) ?_
      refine runG ?_
      rw [hdec]
      refine callEG (fun _ wc hG => eqMem_e tw _ _ (hX.lie (fun b hb => hG.here b (by simp [hb])) (by rw [List.length_map]; omega)) (hW.lie (fun b hb => hG.here b (by simp [hb])) (by rw [List.length_map]; omega))) ?_
      refine runG ?_
      refine callEGG (b := decide (E = 0)) (want := true) (fun _ hg wc hG => eqNumbers_e tl _ _ (hlie (hL (by rw [← hE]; exact of_decide_eq_true hg)).1 hG (fun b hb => by simp at hb; rcases hb with h | h | h <;> simp [h])) (hlie (hL (by rw [← hE]; exact of_decide_eq_true hg)).2 hG (fun b hb => by simp at hb; rcases hb with h | h | h <;> simp [h]))) ?_
      refine runG ?_
      refine callEG (fun _ wc hG => eqMem_e ws _ _ (hI.lie (fun b hb => hG.here b (by simp [hb])) (by rw [List.length_map]; omega)) (hM.lie (fun b hb => hG.here b (by simp [hb])) (by rw [List.length_map]; omega))) ?_
      refine runG ?_
      refine callEG (fun _ wc hG => eqNumbers_e fr _ _ (hR.own.lie (fun b hb => hG.here b (by simp [hb])) (by rw [List.length_map]; omega)) (hF.own.lie (fun b hb => hG.here b (by simp [hb])) (by rw [List.length_map]; omega))) ?_
      refine runG ?_
      refine st_cond _ rfl (fun hc3 => ?_) (fun hc3 => ?_)
      · exfalso; simp at hc3
      clear hc3
      refine run ?_
      refine callM hx (⟨W, #[.slice wq tw.length wc'], 24⟩ :: ⟨M, #[.slice mq ws.length mc], 24⟩ :: ⟨X, #[.slice xq tw.length xc], 24⟩ :: ⟨I, #[.slice qi ws.length ci], 24⟩ :: ⟨B, #[.slice q1 S.ws.length c1, .int .i64 S.root, .slice q2 S.free.length c2, .slice (some ⟨b3, o3, none⟩) S.acts.length c3], 28⟩ :: (hm ++ hf ++ hin ++ hir ++ hw ++ hz)) (fun wc hG => spoilWords_e tw hT64 hX hG.hereN (by omega)) ?_ (by (refine perm_cnt fun a => ?_; simp only [cntB_app, cntB_cons, cntB_nil]; omega))
      rintro u hn5 rfl
      refine ops_le (⟨W, #[.slice wq tw.length wc'], 24⟩ :: ⟨M, #[.slice mq ws.length mc], 24⟩ :: ⟨X, #[.slice xq tw.length xc], 24⟩ :: ⟨I, #[.slice qi ws.length ci], 24⟩ :: ⟨B, #[.slice q1 S.ws.length c1, .int .i64 S.root, .slice q2 S.free.length c2, .slice (some ⟨b3, o3, none⟩) S.acts.length c3], 28⟩ :: (hm ++ hf ++ hin ++ hir ++ hw ++ hz)) (by (refine hpLe_cnt fun a => ?_; simp only [cntB_app, cntB_cons, cntB_nil]; omega)) ?_
      refine run ?_
      refine callE (fun wc hG => eqMem_e ws _ _ (hI.lie (fun b hb => hG.here b (by simp [hb])) (by rw [List.length_map]; omega)) (hM.lie (fun b hb => hG.here b (by simp [hb])) (by rw [List.length_map]; omega))) ?_
      refine run ?_
      refine st_cond _ rfl (fun hc3 => ?_) (fun hc3 => ?_)
      · exfalso; simp at hc3
      clear hc3
      refine run ?_
      refine st_cond _ rfl (fun hc3 => ?_) (fun hc3 => ?_)
      · have hE0 : te = 0 := by rw [← hE]; simpa using hc3
        refine run ?_
        refine callB (fun wc hG => copyMem_e tw _ (hW.lie (fun b hb => hG.here b (by simp [hb])) (by rw [List.length_map]; omega)) (by omega)) ?_
        rintro u hn6 ⟨v6, h6, rfl, h6O, hle6⟩
        obtain ⟨q6, c6, e6⟩ := h6O.opened
        rw [List.length_map] at e6
        subst e6
        refine ops_sub hle6 ?_
        refine ops_perm (_ ++ h6) List.perm_append_comm ?_
        simp only [List.cons_append, List.nil_append]
        refine run ?_
        refine callB (fun wc hG => copyNumbers_e tl _ (hlie (hL hE0).2 hG (fun b hb => by simp at hb; rcases hb with h | h | h <;> simp [h])) (by omega)) (fun v7 h7 h7O => ?_)
        refine ops_perm (_ ++ h7) List.perm_append_comm ?_
        simp only [List.cons_append, List.nil_append]
        refine run ?_
        refine nextS ⟨i + 1, tw, tl, q6, c6, v7, h6, h7⟩ ⟨hlt, hT64, by dsimp only; omega, by dsimp only; omega, h6O, h7O⟩ (hm := by dsimp only; omega) (h2 := by (refine hpLe_cnt fun a => ?_; simp only [cntB_app, cntB_cons, cntB_nil]; omega))
      · refine run ?_
        refine nextS ⟨i + 1, ws, fr, mq, mc, .slice fq fr.length fc, hm, hf⟩ ⟨hlt, hw64, hw3, hf3, hM, hF⟩ (hm := by dsimp only; omega) (h2 := by (refine hpLe_cnt fun a => ?_; simp only [cntB_app, cntB_cons, cntB_nil]; omega))
  · refine run ?_
    refine callE (fun wc hG => wakes16_e wc) ?_
    refine run ?_
    exact fin1 rfl
end Go.Proofs.Ytcjbpdejlfomkaa
