/- Layer 18 (part): the reference's first partition. -/
import Derived.Test.YtdfkcjjbflcafaaGreatPartO
namespace Go.Proofs.YtdfkcjjbflcafaaGreat
open Go.RowKit
set_option linter.unusedVariables false
set_option linter.unusedSimpArgs false
set_option maxRecDepth 20000
attribute [local irreducible] Hy St Ops DH DHF
end Go.Proofs.YtdfkcjjbflcafaaGreat
