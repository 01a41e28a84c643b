/- Layer 9: a page without the bits that a table tells itself, as the program reckons it. -/
import Derived.Test.YtcjbpdejlfomkaaTlA
namespace Go.Proofs.Ytcjbpdejlfomkaa
open Go.RowKit
set_option linter.unusedVariables false
set_option linter.unusedSimpArgs false
set_option maxRecDepth 20000
section
variable {P : Program} {n : Nat} {w0 : World} {mu : List Nat} {l : Fm} {hp : Hp} {dd : Option Tmp} {ty : TypeId} {pos : String} {af : Array Edge} {gg : Option (Nat × Bool)} {t u : TypeId} {x y : Operand}
theorem x_andNotI {p q : Int} (hx : ev l x = some (.int .i64 p)) (hy : ev l y = some (.int .i64 q)) : Hy P n w0 mu l hp ⟨dd, .binOp .andNot t x y u, ty, pos, af, gg⟩ (.int .i64 (bits .andNot .i64 p q)) :=
  hy_run fun ac w hk _ => by
    simp only [execOp, hk.ev hx, hk.ev hy]
    simp [eqGuard_andNot, binOp_andNot, intBits_andNot]
end
theorem cut_bits : ∀ l : Nat, l < 3 → ∀ p : Nat, p < 4096 → bits .andNot .i64 (p : Int) ((coversN l : Nat) - 1 : Int) = ((cutN l p : Nat) : Int) := by decide +kernel
end Go.Proofs.Ytcjbpdejlfomkaa
