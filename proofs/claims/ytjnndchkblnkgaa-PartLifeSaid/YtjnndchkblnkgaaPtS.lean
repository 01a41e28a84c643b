/- Layer 18 (part): any partition copied by the reference. -/
import Derived.Test.YtjnndchkblnkgaaPtR
import Derived.Test.YtjnndchkblnkgaaPtE
import Derived.Test.YtjnndchkblnkgaaPtP
import Derived.Test.YtjnndchkblnkgaaPtI
import Derived.Test.YtjnndchkblnkgaaPtD
namespace Go.Proofs.Ytjnndchkblnkgaa
open Go.RowKit
set_option linter.unusedVariables false
set_option linter.unusedSimpArgs false
set_option maxRecDepth 20000
attribute [local irreducible] Hy St Ops DH DHF
/-- Rows that lie in blocks of one's own. -/
def CopR (P : PtD) (u : Value) (hn : Hp) : Prop := ∃ (p g o : Option Addr) (pc gc oc : Nat) (h : Hp), u = .agg #[.slice p P.pages.length pc, .slice g P.guests.length gc, .slice o P.on.length oc] ∧ (∀ w, Here h w → PartG w (.slice p P.pages.length pc) (.slice g P.guests.length gc) (.slice o P.on.length oc) P) ∧ HpLe h hn
end Go.Proofs.Ytjnndchkblnkgaa
