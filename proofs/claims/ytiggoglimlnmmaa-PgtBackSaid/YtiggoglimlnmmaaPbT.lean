/- Layer 16: a block split, reckoned. -/
import Derived.Test.YtiggoglimlnmmaaPbA
import Derived.Test.YtiggoglimlnmmaaPgN
namespace Go.Proofs.Ytiggoglimlnmmaa
open Go.RowKit
set_option linter.unusedVariables false
set_option linter.unusedSimpArgs false
set_option maxRecDepth 20000
def tB : List Nat := (List.replicate 192 0).set 0 4099
def tX : TbR := putM tB 0 64 1 (lfD 128)
def tY : TbR := splitG tX.ws 0 [2, 3] 70
def tZ : TbR := splitG tY.ws 0 [3] 70
def okB (ws : List Nat) : Bool := ws.all (fun x => decide (x < 18446744073709551616)) && decide (ws.length = 192)
theorem okB_iff {ws : List Nat} (h : okB ws = true) : W64 ws ∧ ws.length = 192 := by
  simp only [okB, Bool.and_eq_true, decide_eq_true_eq] at h
  exact ⟨fun x hx => by simpa using List.all_eq_true.1 h.1 x hx, h.2⟩
theorem t_x : okB tB = true ∧ okB tX.ws = true ∧ tX.e = 0 := by decide +kernel
theorem t_y : okB tY.ws = true ∧ tY.left = [3] ∧ tY.e = 0 := by decide +kernel
theorem t_z : okB tZ.ws = true ∧ tZ.left = [] ∧ tZ.e = 0 := by decide +kernel
def mp2 (l : List MpD) : List (Int × Int) := l.map fun m => (m.mid, m.frm)
theorem t_all : (match pgsL tX.ws 0 0 4096, pgsL tZ.ws 0 0 4096 with | some a, some b => decide (a.length = 64) && decide (mp2 a = mp2 b) | _, _ => false) = true := by decide +kernel
end Go.Proofs.Ytiggoglimlnmmaa
