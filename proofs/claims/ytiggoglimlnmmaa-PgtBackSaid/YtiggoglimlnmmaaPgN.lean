/- Layer 16: PgtAlls. -/
import Derived.Test.YtiggoglimlnmmaaPgM
import Derived.Test.YtiggoglimlnmmaaExA
import Derived.Test.YtiggoglimlnmmaaEng2
namespace Go.Proofs.Ytiggoglimlnmmaa
open Go.RowKit
set_option linter.unusedVariables false
set_option linter.unusedSimpArgs false
set_option maxRecDepth 20000
attribute [local irreducible] Hy St Ops DH DHF
/-- .. no block entered. -/
theorem runBk {G R : Prop} (k : R) (h : RestP R → G := by (intro kLeft; (repeat (first | (with_reducible apply st_seq) | (with_reducible apply st_region) | (with_reducible apply nx_normal) | (with_reducible apply nx_ret) | (with_reducible apply nx_exit) | (with_reducible apply np_normal) | (with_reducible apply inb_normal) | (with_reducible apply inb_ret) | (with_reducible apply inb_here) | (with_reducible apply ops_nil) | (with_reducible apply st_ret) | (with_reducible apply st_skip) | (with_reducible apply st_exit) | ((with_reducible apply inb_past); rfl) | ((with_reducible apply op1); rfl; (first | exact hyF)) | ((with_reducible apply z_box); rfl; rfl; (exact clcel); intro blk) | ((with_reducible apply z_alloc tb_ok); rfl; rfl; (exact clcel); intro blk) | ((with_reducible apply z_store tb_ok); rfl; rfl; (exact clcel); rfl; rfl; (exact clperm); (exact clz1); (exact clz2); (exact clnorm)) | ((with_reducible apply z_bslice tb_ok); rfl; rfl; rfl; (exact clcel); rfl; rfl; rfl; rfl; (exact clbsl); intro blk) | ((with_reducible apply op1g); rfl; rfl; rfl; rfl; (intro hg1; (try simp only [hg1, gv_true, Bool.true_and]); (first | exact hyG | exact hyAbs hg1 rfl))) | ((with_reducible apply op1gg); rfl; rfl; rfl; rfl; (intro hg0 hg1; have hgC := hg0; (try simp only [Bool.and_eq_true] at hg0); (try simp only [hg0, hg1, gv_true, Bool.true_and, Bool.and_true, Bool.and_self]); (first | exact hyG | exact hyAbs hg1 rfl | exact hyAbsC hgC rfl))) | ((with_reducible apply op1gu); rfl; rfl; rfl; rfl))); (repeat revert blk); exact kLeft.get)) : G := h ⟨k⟩
def AllQ (r : Option (List MpD)) (u : Value) (hn : Hp) : Prop := match r with
  | none => u = .tuple #[.slice none 0 0, .int .i64 2]
  | some xs => ∃ v h, u = .tuple #[v, .int .i64 0] ∧ Own 76 2 v h (xs.map mpV) ∧ HpLe h hn
theorem gAll_e (ws : List Nat) (hw : W64 ws) {w : World} {v : Value} (h : SlAt w v 1 (ws.map uV)) (hm : memOk ws.length = true) (root : Int) : Fn Try.prog 11 [.agg #[v], .int .i64 root].toArray w [] (fun u hn => AllQ (pgsL ws root 0 4096) u hn) := by
  have hmi := memOk_iff hm
  obtain ⟨q, cap, rfl, hne, hle⟩ := h.opened
  obtain ⟨b, o, rfl⟩ := hne (by intro e; rw [e] at hmi; simp at hmi)
  refine enter Try.func11 ?_
  refine run ?_
  intro B
  refine run ?_
  refine callE (fun wc hG => mCheck_e ws.length cap (by omega) _ wc) ?_
  rw [hm]
  refine runC ?_
  refine callB (fun wc hG => gAllT_e ws hw hm root 3 0 rfl wc b o cap (h.good hG) root 0 (by decide) (by decide) (root_onway ws root) [] (Nat.le_refl _) (.slice none 0 0) [] (Acc.nil _ _) ⟨by simp, by simp⟩ (by simp)) ?_
  intro u hn hR
  have e4 : 8 * coversN 0 = 4096 := by decide
  rw [e4] at hR
  cases hz : pgsL ws root 0 4096 with
  | none =>
    rw [hz] at hR
    obtain rfl : u = .tuple #[.slice none 0 0, .bool false] := hR
    refine runC ?_
    exact fin2 rfl
  | some zs =>
    rw [hz] at hR
    obtain ⟨v', h', rfl, hA', hle'⟩ := hR
    refine ops_sub hle' ?_
    refine runC ?_
    exact fin2 ⟨_, h', rfl, hA'.own, by (exact clcntL)⟩
theorem gAllF_e {n cap : Nat} {q : Option Addr} (hn : n < 1000000) (hm : memOk n = false) (root : Int) (w : World) : Fn Try.prog 11 [.agg #[.slice q n cap], .int .i64 root].toArray w [] (fun u hn => u = .tuple #[.slice none 0 0, .int .i64 1]) := by
  refine enter Try.func11 ?_
  refine run ?_
  intro B
  refine run ?_
  refine callE (fun wc hG => mCheck_e n cap (by omega) _ wc) ?_
  rw [hm]
  refine runC ?_
  exact fin2 rfl
end Go.Proofs.Ytiggoglimlnmmaa
