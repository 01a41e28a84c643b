/-
  No cell of these rows narrows 'for every input' (looked for: loops, veiled, ifaces, maps, wideKeys, modest, calm, conditions, laid).
  DERIVED. THE GIVEN ROWS OF THIS SEAT. 10 by the template 'for every input the law returns true; each argument reads behind the call as it read before'; 0 by the template 'total and deterministic' (their statements: YtndklbjnofdgeaaGreatTotals.lean).
  GIVEN WITH THE SEED: the statements are not yours to turn. If you find one false, say at which input.
  Laid BY PROGRAM, IN A SANDBOX (cutbox-rows.mjs): the forced cells as the released guide's own fill.sh prints them over the translation ad6f62b28def910d… (all of the seat's roots in one cut). By AI agents, Wed Nov 11 2026. No macro, syntax, notation, axiom, sorry.
-/
import Derived.Test.YtndklbjnofdgeaaGreatChecked
import GoSem.Claim
import GoSem.ClaimJoined
import GoSem.ClaimMapViews
import Derived.JoinedTies
import Derived.KernelRfl
namespace Go.Proofs.YtndklbjnofdgeaaGreat
/- THE CELL 'sum', in the pinned program and in every row, IS THE sha256 OF THE DUMP (.gsa) THAT YtndklbjnofdgeaaGreatProg.lean LOADS. Nothing in Lean hashes anything: it is a label: what it is worth is what the hold of that sum in a sandbox is worth. -/
noncomputable def Tryz.pinned : Pinned := { name := "ytndklbjnofdgeaagreat", sum := "ad6f62b28def910d5fc0fec978750ea464b3070963078cf70b13c8b7ab71423b", checked := Tryz.checked }
namespace Rows
def none {H : Type} : Left H := { results := [], args := [] }

/-- 'bulwarklaw15.StepExact': WHATEVER THE INPUT: true; the input reads as it did. -/
def stepExactSpec : ChangeSpec := { name := "stepExact", fn := fun _ => fun
  | [d] => { results := [.lit (.bool true)], args := [d] }
  | _ => none }
def stepExactRow : OpenClaim := { program := "ytndklbjnofdgeaagreat", sum := "ad6f62b28def910d5fc0fec978750ea464b3070963078cf70b13c8b7ab71423b", func := "bulwark/bulwarklaw15.StepExact", spec := "stepExact", unfollowed := true, recurses := true, apart := false }
def StepExactSaid : Prop := stepExactRow.holds Tryz.pinned (OpenSpec.ofChange stepExactSpec)

/-- ITS FALSE NEIGHBOUR: 'it returns false'. Refute it at one input. -/
def stepExactWrong : ChangeSpec := { name := "stepExact", fn := fun _ => fun
  | [d] => { results := [.lit (.bool false)], args := [d] }
  | _ => none }
def StepExactWrongFalsely : Prop := stepExactRow.holds Tryz.pinned (OpenSpec.ofChange stepExactWrong)

/-- 'bulwarklaw15.StepAts': WHATEVER THE INPUT: true; the input reads as it did. -/
def stepAtsSpec : ChangeSpec := { name := "stepAts", fn := fun _ => fun
  | [d] => { results := [.lit (.bool true)], args := [d] }
  | _ => none }
def stepAtsRow : OpenClaim := { program := "ytndklbjnofdgeaagreat", sum := "ad6f62b28def910d5fc0fec978750ea464b3070963078cf70b13c8b7ab71423b", func := "bulwark/bulwarklaw15.StepAts", spec := "stepAts", unfollowed := true, recurses := true, apart := false }
def StepAtsSaid : Prop := stepAtsRow.holds Tryz.pinned (OpenSpec.ofChange stepAtsSpec)

/-- ITS FALSE NEIGHBOUR: 'it returns false'. Refute it at one input. -/
def stepAtsWrong : ChangeSpec := { name := "stepAts", fn := fun _ => fun
  | [d] => { results := [.lit (.bool false)], args := [d] }
  | _ => none }
def StepAtsWrongFalsely : Prop := stepAtsRow.holds Tryz.pinned (OpenSpec.ofChange stepAtsWrong)

/-- 'bulwarklaw15.StepWorks': WHATEVER THE INPUT: true; the input reads as it did. -/
def stepWorksSpec : ChangeSpec := { name := "stepWorks", fn := fun _ => fun
  | [d] => { results := [.lit (.bool true)], args := [d] }
  | _ => none }
def stepWorksRow : OpenClaim := { program := "ytndklbjnofdgeaagreat", sum := "ad6f62b28def910d5fc0fec978750ea464b3070963078cf70b13c8b7ab71423b", func := "bulwark/bulwarklaw15.StepWorks", spec := "stepWorks", unfollowed := true, recurses := true, apart := false }
def StepWorksSaid : Prop := stepWorksRow.holds Tryz.pinned (OpenSpec.ofChange stepWorksSpec)

/-- ITS FALSE NEIGHBOUR: 'it returns false'. Refute it at one input. -/
def stepWorksWrong : ChangeSpec := { name := "stepWorks", fn := fun _ => fun
  | [d] => { results := [.lit (.bool false)], args := [d] }
  | _ => none }
def StepWorksWrongFalsely : Prop := stepWorksRow.holds Tryz.pinned (OpenSpec.ofChange stepWorksWrong)

/-- 'bulwarklaw15.StepReckons': WHATEVER THE INPUT: true; the input reads as it did. -/
def stepReckonsSpec : ChangeSpec := { name := "stepReckons", fn := fun _ => fun
  | [d] => { results := [.lit (.bool true)], args := [d] }
  | _ => none }
def stepReckonsRow : OpenClaim := { program := "ytndklbjnofdgeaagreat", sum := "ad6f62b28def910d5fc0fec978750ea464b3070963078cf70b13c8b7ab71423b", func := "bulwark/bulwarklaw15.StepReckons", spec := "stepReckons", unfollowed := true, recurses := true, apart := false }
def StepReckonsSaid : Prop := stepReckonsRow.holds Tryz.pinned (OpenSpec.ofChange stepReckonsSpec)

/-- ITS FALSE NEIGHBOUR: 'it returns false'. Refute it at one input. -/
def stepReckonsWrong : ChangeSpec := { name := "stepReckons", fn := fun _ => fun
  | [d] => { results := [.lit (.bool false)], args := [d] }
  | _ => none }
def StepReckonsWrongFalsely : Prop := stepReckonsRow.holds Tryz.pinned (OpenSpec.ofChange stepReckonsWrong)

/-- 'bulwarklaw15.StepLoads': WHATEVER THE INPUT: true; the input reads as it did. -/
def stepLoadsSpec : ChangeSpec := { name := "stepLoads", fn := fun _ => fun
  | [d] => { results := [.lit (.bool true)], args := [d] }
  | _ => none }
def stepLoadsRow : OpenClaim := { program := "ytndklbjnofdgeaagreat", sum := "ad6f62b28def910d5fc0fec978750ea464b3070963078cf70b13c8b7ab71423b", func := "bulwark/bulwarklaw15.StepLoads", spec := "stepLoads", unfollowed := true, recurses := true, apart := false }
def StepLoadsSaid : Prop := stepLoadsRow.holds Tryz.pinned (OpenSpec.ofChange stepLoadsSpec)

/-- ITS FALSE NEIGHBOUR: 'it returns false'. Refute it at one input. -/
def stepLoadsWrong : ChangeSpec := { name := "stepLoads", fn := fun _ => fun
  | [d] => { results := [.lit (.bool false)], args := [d] }
  | _ => none }
def StepLoadsWrongFalsely : Prop := stepLoadsRow.holds Tryz.pinned (OpenSpec.ofChange stepLoadsWrong)

/-- 'bulwarklaw15.StepStores': WHATEVER THE INPUT: true; the input reads as it did. -/
def stepStoresSpec : ChangeSpec := { name := "stepStores", fn := fun _ => fun
  | [d] => { results := [.lit (.bool true)], args := [d] }
  | _ => none }
def stepStoresRow : OpenClaim := { program := "ytndklbjnofdgeaagreat", sum := "ad6f62b28def910d5fc0fec978750ea464b3070963078cf70b13c8b7ab71423b", func := "bulwark/bulwarklaw15.StepStores", spec := "stepStores", unfollowed := true, recurses := true, apart := false }
def StepStoresSaid : Prop := stepStoresRow.holds Tryz.pinned (OpenSpec.ofChange stepStoresSpec)

/-- ITS FALSE NEIGHBOUR: 'it returns false'. Refute it at one input. -/
def stepStoresWrong : ChangeSpec := { name := "stepStores", fn := fun _ => fun
  | [d] => { results := [.lit (.bool false)], args := [d] }
  | _ => none }
def StepStoresWrongFalsely : Prop := stepStoresRow.holds Tryz.pinned (OpenSpec.ofChange stepStoresWrong)

/-- 'bulwarklaw15.StepJumps': WHATEVER THE INPUT: true; the input reads as it did. -/
def stepJumpsSpec : ChangeSpec := { name := "stepJumps", fn := fun _ => fun
  | [d] => { results := [.lit (.bool true)], args := [d] }
  | _ => none }
def stepJumpsRow : OpenClaim := { program := "ytndklbjnofdgeaagreat", sum := "ad6f62b28def910d5fc0fec978750ea464b3070963078cf70b13c8b7ab71423b", func := "bulwark/bulwarklaw15.StepJumps", spec := "stepJumps", unfollowed := true, recurses := true, apart := false }
def StepJumpsSaid : Prop := stepJumpsRow.holds Tryz.pinned (OpenSpec.ofChange stepJumpsSpec)

/-- ITS FALSE NEIGHBOUR: 'it returns false'. Refute it at one input. -/
def stepJumpsWrong : ChangeSpec := { name := "stepJumps", fn := fun _ => fun
  | [d] => { results := [.lit (.bool false)], args := [d] }
  | _ => none }
def StepJumpsWrongFalsely : Prop := stepJumpsRow.holds Tryz.pinned (OpenSpec.ofChange stepJumpsWrong)

/-- 'bulwarklaw15.StepSystems': WHATEVER THE INPUT: true; the input reads as it did. -/
def stepSystemsSpec : ChangeSpec := { name := "stepSystems", fn := fun _ => fun
  | [d] => { results := [.lit (.bool true)], args := [d] }
  | _ => none }
def stepSystemsRow : OpenClaim := { program := "ytndklbjnofdgeaagreat", sum := "ad6f62b28def910d5fc0fec978750ea464b3070963078cf70b13c8b7ab71423b", func := "bulwark/bulwarklaw15.StepSystems", spec := "stepSystems", unfollowed := true, recurses := true, apart := false }
def StepSystemsSaid : Prop := stepSystemsRow.holds Tryz.pinned (OpenSpec.ofChange stepSystemsSpec)

/-- ITS FALSE NEIGHBOUR: 'it returns false'. Refute it at one input. -/
def stepSystemsWrong : ChangeSpec := { name := "stepSystems", fn := fun _ => fun
  | [d] => { results := [.lit (.bool false)], args := [d] }
  | _ => none }
def StepSystemsWrongFalsely : Prop := stepSystemsRow.holds Tryz.pinned (OpenSpec.ofChange stepSystemsWrong)

/-- 'bulwarklaw15.StepInvals': WHATEVER THE INPUT: true; the input reads as it did. -/
def stepInvalsSpec : ChangeSpec := { name := "stepInvals", fn := fun _ => fun
  | [d] => { results := [.lit (.bool true)], args := [d] }
  | _ => none }
def stepInvalsRow : OpenClaim := { program := "ytndklbjnofdgeaagreat", sum := "ad6f62b28def910d5fc0fec978750ea464b3070963078cf70b13c8b7ab71423b", func := "bulwark/bulwarklaw15.StepInvals", spec := "stepInvals", unfollowed := true, recurses := true, apart := false }
def StepInvalsSaid : Prop := stepInvalsRow.holds Tryz.pinned (OpenSpec.ofChange stepInvalsSpec)

/-- ITS FALSE NEIGHBOUR: 'it returns false'. Refute it at one input. -/
def stepInvalsWrong : ChangeSpec := { name := "stepInvals", fn := fun _ => fun
  | [d] => { results := [.lit (.bool false)], args := [d] }
  | _ => none }
def StepInvalsWrongFalsely : Prop := stepInvalsRow.holds Tryz.pinned (OpenSpec.ofChange stepInvalsWrong)

/-- 'bulwarklaw15.StepCalls': WHATEVER THE INPUT: true; the input reads as it did. -/
def stepCallsSpec : ChangeSpec := { name := "stepCalls", fn := fun _ => fun
  | [d] => { results := [.lit (.bool true)], args := [d] }
  | _ => none }
def stepCallsRow : OpenClaim := { program := "ytndklbjnofdgeaagreat", sum := "ad6f62b28def910d5fc0fec978750ea464b3070963078cf70b13c8b7ab71423b", func := "bulwark/bulwarklaw15.StepCalls", spec := "stepCalls", unfollowed := true, recurses := true, apart := false }
def StepCallsSaid : Prop := stepCallsRow.holds Tryz.pinned (OpenSpec.ofChange stepCallsSpec)

/-- ITS FALSE NEIGHBOUR: 'it returns false'. Refute it at one input. -/
def stepCallsWrong : ChangeSpec := { name := "stepCalls", fn := fun _ => fun
  | [d] => { results := [.lit (.bool false)], args := [d] }
  | _ => none }
def StepCallsWrongFalsely : Prop := stepCallsRow.holds Tryz.pinned (OpenSpec.ofChange stepCallsWrong)

/- THE SECOND FORM. 'bulk': how many values and letters a reading holds, each counted each time it is reached (what is shared counts as often as it is met; a slice's spare places count too). A statement '..UptoSaid' is the law's where the arguments, and the package variables that the reading takes, are together of bulk at most 1048576: NARROWER than '..Said'. Prove '..Said' where nothing that the law and all that it calls make is longer than what came in: it says more and counts as full. Else prove '..UptoSaid'. A law counts once. -/
mutual
def uptoBulk {H : Type} : DataW H → Nat
  | .lit (.string bytes) => bytes.length + 1
  | .lit _ => 1
  | .nil => 1
  | .ptr d => uptoBulk d + 1
  | .slice elems spare => uptoBulkAll elems + uptoBulkAll spare + 1
  | .agg parts => uptoBulkAll parts + 1
  | .iface _ d => uptoBulk d + 1
  | .map entries => uptoBulkEntries entries + 1
  | .held _ => 1
def uptoBulkAll {H : Type} : List (DataW H) → Nat
  | [] => 0
  | d :: r => uptoBulk d + uptoBulkAll r
def uptoBulkEntries {H : Type} : List (Lit × DataW H) → Nat
  | [] => 0
  | x :: r => uptoBulkEntry x + uptoBulkEntries r
def uptoBulkEntry {H : Type} : Lit × DataW H → Nat
  | (.string bytes, d) => bytes.length + uptoBulk d + 1
  | (_, d) => uptoBulk d + 1
 end
def uptoSmall : (H : Type) → List (DataW H) → Bool := fun _ ds => decide (uptoBulkAll ds ≤ 1048576)
def OpenSpec.upto (s : _root_.Go.ChangeSpec) : _root_.Go.OpenSpec := { _root_.Go.OpenSpec.ofChange s with cond := some uptoSmall }

/-- 'bulwarklaw15.StepExact', WHERE WHAT IT READS IS OF BULK AT MOST 1048576: true; the input reads as it did. -/
def stepExactUptoRow : OpenClaim := { program := "ytndklbjnofdgeaagreat", sum := "ad6f62b28def910d5fc0fec978750ea464b3070963078cf70b13c8b7ab71423b", func := "bulwark/bulwarklaw15.StepExact", spec := "stepExact", unfollowed := true, recurses := true, apart := false, narrowed := true }
def StepExactUptoSaid : Prop := stepExactUptoRow.holds Tryz.pinned (OpenSpec.upto stepExactSpec)

/-- 'bulwarklaw15.StepAts', WHERE WHAT IT READS IS OF BULK AT MOST 1048576: true; the input reads as it did. -/
def stepAtsUptoRow : OpenClaim := { program := "ytndklbjnofdgeaagreat", sum := "ad6f62b28def910d5fc0fec978750ea464b3070963078cf70b13c8b7ab71423b", func := "bulwark/bulwarklaw15.StepAts", spec := "stepAts", unfollowed := true, recurses := true, apart := false, narrowed := true }
def StepAtsUptoSaid : Prop := stepAtsUptoRow.holds Tryz.pinned (OpenSpec.upto stepAtsSpec)

/-- 'bulwarklaw15.StepWorks', WHERE WHAT IT READS IS OF BULK AT MOST 1048576: true; the input reads as it did. -/
def stepWorksUptoRow : OpenClaim := { program := "ytndklbjnofdgeaagreat", sum := "ad6f62b28def910d5fc0fec978750ea464b3070963078cf70b13c8b7ab71423b", func := "bulwark/bulwarklaw15.StepWorks", spec := "stepWorks", unfollowed := true, recurses := true, apart := false, narrowed := true }
def StepWorksUptoSaid : Prop := stepWorksUptoRow.holds Tryz.pinned (OpenSpec.upto stepWorksSpec)

/-- 'bulwarklaw15.StepReckons', WHERE WHAT IT READS IS OF BULK AT MOST 1048576: true; the input reads as it did. -/
def stepReckonsUptoRow : OpenClaim := { program := "ytndklbjnofdgeaagreat", sum := "ad6f62b28def910d5fc0fec978750ea464b3070963078cf70b13c8b7ab71423b", func := "bulwark/bulwarklaw15.StepReckons", spec := "stepReckons", unfollowed := true, recurses := true, apart := false, narrowed := true }
def StepReckonsUptoSaid : Prop := stepReckonsUptoRow.holds Tryz.pinned (OpenSpec.upto stepReckonsSpec)

/-- 'bulwarklaw15.StepLoads', WHERE WHAT IT READS IS OF BULK AT MOST 1048576: true; the input reads as it did. -/
def stepLoadsUptoRow : OpenClaim := { program := "ytndklbjnofdgeaagreat", sum := "ad6f62b28def910d5fc0fec978750ea464b3070963078cf70b13c8b7ab71423b", func := "bulwark/bulwarklaw15.StepLoads", spec := "stepLoads", unfollowed := true, recurses := true, apart := false, narrowed := true }
def StepLoadsUptoSaid : Prop := stepLoadsUptoRow.holds Tryz.pinned (OpenSpec.upto stepLoadsSpec)

/-- 'bulwarklaw15.StepStores', WHERE WHAT IT READS IS OF BULK AT MOST 1048576: true; the input reads as it did. -/
def stepStoresUptoRow : OpenClaim := { program := "ytndklbjnofdgeaagreat", sum := "ad6f62b28def910d5fc0fec978750ea464b3070963078cf70b13c8b7ab71423b", func := "bulwark/bulwarklaw15.StepStores", spec := "stepStores", unfollowed := true, recurses := true, apart := false, narrowed := true }
def StepStoresUptoSaid : Prop := stepStoresUptoRow.holds Tryz.pinned (OpenSpec.upto stepStoresSpec)

/-- 'bulwarklaw15.StepJumps', WHERE WHAT IT READS IS OF BULK AT MOST 1048576: true; the input reads as it did. -/
def stepJumpsUptoRow : OpenClaim := { program := "ytndklbjnofdgeaagreat", sum := "ad6f62b28def910d5fc0fec978750ea464b3070963078cf70b13c8b7ab71423b", func := "bulwark/bulwarklaw15.StepJumps", spec := "stepJumps", unfollowed := true, recurses := true, apart := false, narrowed := true }
def StepJumpsUptoSaid : Prop := stepJumpsUptoRow.holds Tryz.pinned (OpenSpec.upto stepJumpsSpec)

/-- 'bulwarklaw15.StepSystems', WHERE WHAT IT READS IS OF BULK AT MOST 1048576: true; the input reads as it did. -/
def stepSystemsUptoRow : OpenClaim := { program := "ytndklbjnofdgeaagreat", sum := "ad6f62b28def910d5fc0fec978750ea464b3070963078cf70b13c8b7ab71423b", func := "bulwark/bulwarklaw15.StepSystems", spec := "stepSystems", unfollowed := true, recurses := true, apart := false, narrowed := true }
def StepSystemsUptoSaid : Prop := stepSystemsUptoRow.holds Tryz.pinned (OpenSpec.upto stepSystemsSpec)

/-- 'bulwarklaw15.StepInvals', WHERE WHAT IT READS IS OF BULK AT MOST 1048576: true; the input reads as it did. -/
def stepInvalsUptoRow : OpenClaim := { program := "ytndklbjnofdgeaagreat", sum := "ad6f62b28def910d5fc0fec978750ea464b3070963078cf70b13c8b7ab71423b", func := "bulwark/bulwarklaw15.StepInvals", spec := "stepInvals", unfollowed := true, recurses := true, apart := false, narrowed := true }
def StepInvalsUptoSaid : Prop := stepInvalsUptoRow.holds Tryz.pinned (OpenSpec.upto stepInvalsSpec)

/-- 'bulwarklaw15.StepCalls', WHERE WHAT IT READS IS OF BULK AT MOST 1048576: true; the input reads as it did. -/
def stepCallsUptoRow : OpenClaim := { program := "ytndklbjnofdgeaagreat", sum := "ad6f62b28def910d5fc0fec978750ea464b3070963078cf70b13c8b7ab71423b", func := "bulwark/bulwarklaw15.StepCalls", spec := "stepCalls", unfollowed := true, recurses := true, apart := false, narrowed := true }
def StepCallsUptoSaid : Prop := stepCallsUptoRow.holds Tryz.pinned (OpenSpec.upto stepCallsSpec)

end Rows
end Go.Proofs.YtndklbjnofdgeaaGreat
