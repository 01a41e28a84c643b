/- Layers 3 and 5 (desc, a table's descriptor): the document's. -/
import Derived.Test.YtiggoglimlnmmaaDsD
import Derived.Test.YtiggoglimlnmmaaMmA
namespace Go.Proofs.Ytiggoglimlnmmaa
open Go.RowKit
set_option linter.unusedVariables false
set_option linter.unusedSimpArgs false
set_option maxRecDepth 20000
attribute [local irreducible] Hy St Ops DH DHF
theorem ofL_cond {stage : Int} {level v : Nat} {D : DsD} (hD : guessL stage level v = D) : ofL stage level v = bif (!D.may stage level || !decide ((D.word stage level : Int) = (v : Int))) then noDs else D := by
  unfold ofL
  rw [hD]
  have : decide ((D.word stage level : Int) = (v : Int)) = decide (D.word stage level = v) := by rw [Bool.eq_iff_iff, decide_eq_true_eq, decide_eq_true_eq]; omega
  rw [this]
  cases D.may stage level <;> cases decide (D.word stage level = v) <;> rfl
end Go.Proofs.Ytiggoglimlnmmaa
