/-
  No cell of these rows narrows 'for every input' (looked for: loops, veiled, ifaces, maps, wideKeys, modest, calm, conditions, laid).
  DERIVED. THE GIVEN ROWS OF THIS SEAT. 9 by the template 'for every input the law returns true; each argument reads behind the call as it read before'; 0 by the template 'total and deterministic' (their statements: YtcjbpdejlfomkaaTotals.lean).
  GIVEN WITH THE SEED: the statements are not yours to turn. If you find one false, say at which input.
  Laid BY PROGRAM, IN A SANDBOX (cutbox-rows.mjs): the forced cells as the released guide's own fill.sh prints them over the translation 556ff9fa022fc82f… (all of the seat's roots in one cut). By AI agents, Wed Nov 11 2026. No macro, syntax, notation, axiom, sorry.
-/
import Derived.Test.YtcjbpdejlfomkaaChecked
import GoSem.Claim
import GoSem.ClaimJoined
import GoSem.ClaimMapViews
import Derived.JoinedTies
import Derived.KernelRfl
namespace Go.Proofs.Ytcjbpdejlfomkaa
/- THE CELL 'sum', in the pinned program and in every row, IS THE sha256 OF THE DUMP (.gsa) THAT YtcjbpdejlfomkaaProg.lean LOADS. Nothing in Lean hashes anything: it is a label: what it is worth is what the hold of that sum in a sandbox is worth. -/
noncomputable def Try.pinned : Pinned := { name := "ytcjbpdejlfomkaa", sum := "556ff9fa022fc82f124b1239f3c3ccf5b7b8979a6bf6c2a8b6bf9badef9916dd", checked := Try.checked }
namespace Rows
def none {H : Type} : Left H := { results := [], args := [] }

/-- 'bulwarklaw17.BbmNone': WHATEVER THE INPUT: true; the input reads as it did. -/
def bbmNoneSpec : ChangeSpec := { name := "bbmNone", fn := fun _ => fun
  | [d] => { results := [.lit (.bool true)], args := [d] }
  | _ => none }
def bbmNoneRow : OpenClaim := { program := "ytcjbpdejlfomkaa", sum := "556ff9fa022fc82f124b1239f3c3ccf5b7b8979a6bf6c2a8b6bf9badef9916dd", func := "bulwark/bulwarklaw17.BbmNone", spec := "bbmNone", unfollowed := true, recurses := true, apart := false }
def BbmNoneSaid : Prop := bbmNoneRow.holds Try.pinned (OpenSpec.ofChange bbmNoneSpec)

/-- ITS FALSE NEIGHBOUR: 'it returns false'. Refute it at one input. -/
def bbmNoneWrong : ChangeSpec := { name := "bbmNone", fn := fun _ => fun
  | [d] => { results := [.lit (.bool false)], args := [d] }
  | _ => none }
def BbmNoneWrongFalsely : Prop := bbmNoneRow.holds Try.pinned (OpenSpec.ofChange bbmNoneWrong)

/-- 'bulwarklaw16.PgtAlls': WHATEVER THE INPUT: true; the input reads as it did. -/
def pgtAllsSpec : ChangeSpec := { name := "pgtAlls", fn := fun _ => fun
  | [d] => { results := [.lit (.bool true)], args := [d] }
  | _ => none }
def pgtAllsRow : OpenClaim := { program := "ytcjbpdejlfomkaa", sum := "556ff9fa022fc82f124b1239f3c3ccf5b7b8979a6bf6c2a8b6bf9badef9916dd", func := "bulwark/bulwarklaw16.PgtAlls", spec := "pgtAlls", unfollowed := true, recurses := true, apart := false }
def PgtAllsSaid : Prop := pgtAllsRow.holds Try.pinned (OpenSpec.ofChange pgtAllsSpec)

/-- ITS FALSE NEIGHBOUR: 'it returns false'. Refute it at one input. -/
def pgtAllsWrong : ChangeSpec := { name := "pgtAlls", fn := fun _ => fun
  | [d] => { results := [.lit (.bool false)], args := [d] }
  | _ => none }
def PgtAllsWrongFalsely : Prop := pgtAllsRow.holds Try.pinned (OpenSpec.ofChange pgtAllsWrong)

/-- 'bulwarklaw20.BootBoots': WHATEVER THE INPUT: true; the input reads as it did. -/
def bootBootsSpec : ChangeSpec := { name := "bootBoots", fn := fun _ => fun
  | [d] => { results := [.lit (.bool true)], args := [d] }
  | _ => none }
def bootBootsRow : OpenClaim := { program := "ytcjbpdejlfomkaa", sum := "556ff9fa022fc82f124b1239f3c3ccf5b7b8979a6bf6c2a8b6bf9badef9916dd", func := "bulwark/bulwarklaw20.BootBoots", spec := "bootBoots", unfollowed := true, recurses := true, apart := false }
def BootBootsSaid : Prop := bootBootsRow.holds Try.pinned (OpenSpec.ofChange bootBootsSpec)

/-- ITS FALSE NEIGHBOUR: 'it returns false'. Refute it at one input. -/
def bootBootsWrong : ChangeSpec := { name := "bootBoots", fn := fun _ => fun
  | [d] => { results := [.lit (.bool false)], args := [d] }
  | _ => none }
def BootBootsWrongFalsely : Prop := bootBootsRow.holds Try.pinned (OpenSpec.ofChange bootBootsWrong)

/-- 'bulwarklaw20.BootMaps': WHATEVER THE INPUT: true; the input reads as it did. -/
def bootMapsSpec : ChangeSpec := { name := "bootMaps", fn := fun _ => fun
  | [d] => { results := [.lit (.bool true)], args := [d] }
  | _ => none }
def bootMapsRow : OpenClaim := { program := "ytcjbpdejlfomkaa", sum := "556ff9fa022fc82f124b1239f3c3ccf5b7b8979a6bf6c2a8b6bf9badef9916dd", func := "bulwark/bulwarklaw20.BootMaps", spec := "bootMaps", unfollowed := true, recurses := true, apart := false }
def BootMapsSaid : Prop := bootMapsRow.holds Try.pinned (OpenSpec.ofChange bootMapsSpec)

/-- ITS FALSE NEIGHBOUR: 'it returns false'. Refute it at one input. -/
def bootMapsWrong : ChangeSpec := { name := "bootMaps", fn := fun _ => fun
  | [d] => { results := [.lit (.bool false)], args := [d] }
  | _ => none }
def BootMapsWrongFalsely : Prop := bootMapsRow.holds Try.pinned (OpenSpec.ofChange bootMapsWrong)

/-- 'bulwarklaw20.BootTwos': WHATEVER THE INPUT: true; the input reads as it did. -/
def bootTwosSpec : ChangeSpec := { name := "bootTwos", fn := fun _ => fun
  | [d] => { results := [.lit (.bool true)], args := [d] }
  | _ => none }
def bootTwosRow : OpenClaim := { program := "ytcjbpdejlfomkaa", sum := "556ff9fa022fc82f124b1239f3c3ccf5b7b8979a6bf6c2a8b6bf9badef9916dd", func := "bulwark/bulwarklaw20.BootTwos", spec := "bootTwos", unfollowed := true, recurses := true, apart := false }
def BootTwosSaid : Prop := bootTwosRow.holds Try.pinned (OpenSpec.ofChange bootTwosSpec)

/-- ITS FALSE NEIGHBOUR: 'it returns false'. Refute it at one input. -/
def bootTwosWrong : ChangeSpec := { name := "bootTwos", fn := fun _ => fun
  | [d] => { results := [.lit (.bool false)], args := [d] }
  | _ => none }
def BootTwosWrongFalsely : Prop := bootTwosRow.holds Try.pinned (OpenSpec.ofChange bootTwosWrong)

/-- 'bulwarklaw16.PgtMaps': WHATEVER THE INPUT: true; the input reads as it did. -/
def pgtMapsSpec : ChangeSpec := { name := "pgtMaps", fn := fun _ => fun
  | [d] => { results := [.lit (.bool true)], args := [d] }
  | _ => none }
def pgtMapsRow : OpenClaim := { program := "ytcjbpdejlfomkaa", sum := "556ff9fa022fc82f124b1239f3c3ccf5b7b8979a6bf6c2a8b6bf9badef9916dd", func := "bulwark/bulwarklaw16.PgtMaps", spec := "pgtMaps", unfollowed := true, recurses := true, apart := false }
def PgtMapsSaid : Prop := pgtMapsRow.holds Try.pinned (OpenSpec.ofChange pgtMapsSpec)

/-- ITS FALSE NEIGHBOUR: 'it returns false'. Refute it at one input. -/
def pgtMapsWrong : ChangeSpec := { name := "pgtMaps", fn := fun _ => fun
  | [d] => { results := [.lit (.bool false)], args := [d] }
  | _ => none }
def PgtMapsWrongFalsely : Prop := pgtMapsRow.holds Try.pinned (OpenSpec.ofChange pgtMapsWrong)

/-- 'bulwarklaw16.PgtUnmaps': WHATEVER THE INPUT: true; the input reads as it did. -/
def pgtUnmapsSpec : ChangeSpec := { name := "pgtUnmaps", fn := fun _ => fun
  | [d] => { results := [.lit (.bool true)], args := [d] }
  | _ => none }
def pgtUnmapsRow : OpenClaim := { program := "ytcjbpdejlfomkaa", sum := "556ff9fa022fc82f124b1239f3c3ccf5b7b8979a6bf6c2a8b6bf9badef9916dd", func := "bulwark/bulwarklaw16.PgtUnmaps", spec := "pgtUnmaps", unfollowed := true, recurses := true, apart := false }
def PgtUnmapsSaid : Prop := pgtUnmapsRow.holds Try.pinned (OpenSpec.ofChange pgtUnmapsSpec)

/-- ITS FALSE NEIGHBOUR: 'it returns false'. Refute it at one input. -/
def pgtUnmapsWrong : ChangeSpec := { name := "pgtUnmaps", fn := fun _ => fun
  | [d] => { results := [.lit (.bool false)], args := [d] }
  | _ => none }
def PgtUnmapsWrongFalsely : Prop := pgtUnmapsRow.holds Try.pinned (OpenSpec.ofChange pgtUnmapsWrong)

/-- 'bulwarklaw16.PgtSplits': WHATEVER THE INPUT: true; the input reads as it did. -/
def pgtSplitsSpec : ChangeSpec := { name := "pgtSplits", fn := fun _ => fun
  | [d] => { results := [.lit (.bool true)], args := [d] }
  | _ => none }
def pgtSplitsRow : OpenClaim := { program := "ytcjbpdejlfomkaa", sum := "556ff9fa022fc82f124b1239f3c3ccf5b7b8979a6bf6c2a8b6bf9badef9916dd", func := "bulwark/bulwarklaw16.PgtSplits", spec := "pgtSplits", unfollowed := true, recurses := true, apart := false }
def PgtSplitsSaid : Prop := pgtSplitsRow.holds Try.pinned (OpenSpec.ofChange pgtSplitsSpec)

/-- ITS FALSE NEIGHBOUR: 'it returns false'. Refute it at one input. -/
def pgtSplitsWrong : ChangeSpec := { name := "pgtSplits", fn := fun _ => fun
  | [d] => { results := [.lit (.bool false)], args := [d] }
  | _ => none }
def PgtSplitsWrongFalsely : Prop := pgtSplitsRow.holds Try.pinned (OpenSpec.ofChange pgtSplitsWrong)

/-- 'bulwarklaw16.PgtBack': WHATEVER THE INPUT: true; the input reads as it did. -/
def pgtBackSpec : ChangeSpec := { name := "pgtBack", fn := fun _ => fun
  | [d] => { results := [.lit (.bool true)], args := [d] }
  | _ => none }
def pgtBackRow : OpenClaim := { program := "ytcjbpdejlfomkaa", sum := "556ff9fa022fc82f124b1239f3c3ccf5b7b8979a6bf6c2a8b6bf9badef9916dd", func := "bulwark/bulwarklaw16.PgtBack", spec := "pgtBack", unfollowed := true, recurses := true, apart := false }
def PgtBackSaid : Prop := pgtBackRow.holds Try.pinned (OpenSpec.ofChange pgtBackSpec)

/-- ITS FALSE NEIGHBOUR: 'it returns false'. Refute it at one input. -/
def pgtBackWrong : ChangeSpec := { name := "pgtBack", fn := fun _ => fun
  | [d] => { results := [.lit (.bool false)], args := [d] }
  | _ => none }
def PgtBackWrongFalsely : Prop := pgtBackRow.holds Try.pinned (OpenSpec.ofChange pgtBackWrong)

/- THE SECOND FORM. 'bulk': how many values and letters a reading holds, each counted each time it is reached (what is shared counts as often as it is met; a slice's spare places count too). A statement '..UptoSaid' is the law's where the arguments, and the package variables that the reading takes, are together of bulk at most 1048576: NARROWER than '..Said'. Prove '..Said' where nothing that the law and all that it calls make is longer than what came in: it says more and counts as full. Else prove '..UptoSaid'. A law counts once. -/
mutual
def uptoBulk {H : Type} : DataW H → Nat
  | .lit (.string bytes) => bytes.length + 1
  | .lit _ => 1
  | .nil => 1
  | .ptr d => uptoBulk d + 1
  | .slice elems spare => uptoBulkAll elems + uptoBulkAll spare + 1
  | .agg parts => uptoBulkAll parts + 1
  | .iface _ d => uptoBulk d + 1
  | .map entries => uptoBulkEntries entries + 1
  | .held _ => 1
def uptoBulkAll {H : Type} : List (DataW H) → Nat
  | [] => 0
  | d :: r => uptoBulk d + uptoBulkAll r
def uptoBulkEntries {H : Type} : List (Lit × DataW H) → Nat
  | [] => 0
  | x :: r => uptoBulkEntry x + uptoBulkEntries r
def uptoBulkEntry {H : Type} : Lit × DataW H → Nat
  | (.string bytes, d) => bytes.length + uptoBulk d + 1
  | (_, d) => uptoBulk d + 1
 end
def uptoSmall : (H : Type) → List (DataW H) → Bool := fun _ ds => decide (uptoBulkAll ds ≤ 1048576)
def OpenSpec.upto (s : _root_.Go.ChangeSpec) : _root_.Go.OpenSpec := { _root_.Go.OpenSpec.ofChange s with cond := some uptoSmall }

/-- 'bulwarklaw17.BbmNone', WHERE WHAT IT READS IS OF BULK AT MOST 1048576: true; the input reads as it did. -/
def bbmNoneUptoRow : OpenClaim := { program := "ytcjbpdejlfomkaa", sum := "556ff9fa022fc82f124b1239f3c3ccf5b7b8979a6bf6c2a8b6bf9badef9916dd", func := "bulwark/bulwarklaw17.BbmNone", spec := "bbmNone", unfollowed := true, recurses := true, apart := false, narrowed := true }
def BbmNoneUptoSaid : Prop := bbmNoneUptoRow.holds Try.pinned (OpenSpec.upto bbmNoneSpec)

/-- 'bulwarklaw16.PgtAlls', WHERE WHAT IT READS IS OF BULK AT MOST 1048576: true; the input reads as it did. -/
def pgtAllsUptoRow : OpenClaim := { program := "ytcjbpdejlfomkaa", sum := "556ff9fa022fc82f124b1239f3c3ccf5b7b8979a6bf6c2a8b6bf9badef9916dd", func := "bulwark/bulwarklaw16.PgtAlls", spec := "pgtAlls", unfollowed := true, recurses := true, apart := false, narrowed := true }
def PgtAllsUptoSaid : Prop := pgtAllsUptoRow.holds Try.pinned (OpenSpec.upto pgtAllsSpec)

/-- 'bulwarklaw20.BootBoots', WHERE WHAT IT READS IS OF BULK AT MOST 1048576: true; the input reads as it did. -/
def bootBootsUptoRow : OpenClaim := { program := "ytcjbpdejlfomkaa", sum := "556ff9fa022fc82f124b1239f3c3ccf5b7b8979a6bf6c2a8b6bf9badef9916dd", func := "bulwark/bulwarklaw20.BootBoots", spec := "bootBoots", unfollowed := true, recurses := true, apart := false, narrowed := true }
def BootBootsUptoSaid : Prop := bootBootsUptoRow.holds Try.pinned (OpenSpec.upto bootBootsSpec)

/-- 'bulwarklaw20.BootMaps', WHERE WHAT IT READS IS OF BULK AT MOST 1048576: true; the input reads as it did. -/
def bootMapsUptoRow : OpenClaim := { program := "ytcjbpdejlfomkaa", sum := "556ff9fa022fc82f124b1239f3c3ccf5b7b8979a6bf6c2a8b6bf9badef9916dd", func := "bulwark/bulwarklaw20.BootMaps", spec := "bootMaps", unfollowed := true, recurses := true, apart := false, narrowed := true }
def BootMapsUptoSaid : Prop := bootMapsUptoRow.holds Try.pinned (OpenSpec.upto bootMapsSpec)

/-- 'bulwarklaw20.BootTwos', WHERE WHAT IT READS IS OF BULK AT MOST 1048576: true; the input reads as it did. -/
def bootTwosUptoRow : OpenClaim := { program := "ytcjbpdejlfomkaa", sum := "556ff9fa022fc82f124b1239f3c3ccf5b7b8979a6bf6c2a8b6bf9badef9916dd", func := "bulwark/bulwarklaw20.BootTwos", spec := "bootTwos", unfollowed := true, recurses := true, apart := false, narrowed := true }
def BootTwosUptoSaid : Prop := bootTwosUptoRow.holds Try.pinned (OpenSpec.upto bootTwosSpec)

/-- 'bulwarklaw16.PgtMaps', WHERE WHAT IT READS IS OF BULK AT MOST 1048576: true; the input reads as it did. -/
def pgtMapsUptoRow : OpenClaim := { program := "ytcjbpdejlfomkaa", sum := "556ff9fa022fc82f124b1239f3c3ccf5b7b8979a6bf6c2a8b6bf9badef9916dd", func := "bulwark/bulwarklaw16.PgtMaps", spec := "pgtMaps", unfollowed := true, recurses := true, apart := false, narrowed := true }
def PgtMapsUptoSaid : Prop := pgtMapsUptoRow.holds Try.pinned (OpenSpec.upto pgtMapsSpec)

/-- 'bulwarklaw16.PgtUnmaps', WHERE WHAT IT READS IS OF BULK AT MOST 1048576: true; the input reads as it did. -/
def pgtUnmapsUptoRow : OpenClaim := { program := "ytcjbpdejlfomkaa", sum := "556ff9fa022fc82f124b1239f3c3ccf5b7b8979a6bf6c2a8b6bf9badef9916dd", func := "bulwark/bulwarklaw16.PgtUnmaps", spec := "pgtUnmaps", unfollowed := true, recurses := true, apart := false, narrowed := true }
def PgtUnmapsUptoSaid : Prop := pgtUnmapsUptoRow.holds Try.pinned (OpenSpec.upto pgtUnmapsSpec)

/-- 'bulwarklaw16.PgtSplits', WHERE WHAT IT READS IS OF BULK AT MOST 1048576: true; the input reads as it did. -/
def pgtSplitsUptoRow : OpenClaim := { program := "ytcjbpdejlfomkaa", sum := "556ff9fa022fc82f124b1239f3c3ccf5b7b8979a6bf6c2a8b6bf9badef9916dd", func := "bulwark/bulwarklaw16.PgtSplits", spec := "pgtSplits", unfollowed := true, recurses := true, apart := false, narrowed := true }
def PgtSplitsUptoSaid : Prop := pgtSplitsUptoRow.holds Try.pinned (OpenSpec.upto pgtSplitsSpec)

/-- 'bulwarklaw16.PgtBack', WHERE WHAT IT READS IS OF BULK AT MOST 1048576: true; the input reads as it did. -/
def pgtBackUptoRow : OpenClaim := { program := "ytcjbpdejlfomkaa", sum := "556ff9fa022fc82f124b1239f3c3ccf5b7b8979a6bf6c2a8b6bf9badef9916dd", func := "bulwark/bulwarklaw16.PgtBack", spec := "pgtBack", unfollowed := true, recurses := true, apart := false, narrowed := true }
def PgtBackUptoSaid : Prop := pgtBackUptoRow.holds Try.pinned (OpenSpec.upto pgtBackSpec)

end Rows
end Go.Proofs.Ytcjbpdejlfomkaa
