/- Layer 16: Unmap, the document's; All. -/
import Derived.Test.YtiggoglimlnmmaaPgC
namespace Go.Proofs.Ytiggoglimlnmmaa
open Go.RowKit
set_option linter.unusedVariables false
set_option linter.unusedSimpArgs false
set_option maxRecDepth 20000
attribute [local irreducible] Hy St Ops DH DHF
end Go.Proofs.Ytiggoglimlnmmaa
