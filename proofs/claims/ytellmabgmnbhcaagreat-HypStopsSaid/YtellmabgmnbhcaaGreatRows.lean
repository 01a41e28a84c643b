/-
  No cell of these rows narrows 'for every input' (looked for: loops, veiled, ifaces, maps, wideKeys, modest, calm, conditions, laid).
  DERIVED. THE GIVEN ROWS OF THIS SEAT. 10 by the template 'for every input the law returns true; each argument reads behind the call as it read before'; 0 by the template 'total and deterministic' (their statements: YtellmabgmnbhcaaGreatTotals.lean).
  GIVEN WITH THE SEED: the statements are not yours to turn. If you find one false, say at which input.
  Laid BY PROGRAM, IN A SANDBOX (cutbox-rows.mjs): the forced cells as the released guide's own fill.sh prints them over the translation 9bb9a512e833155a… (all of the seat's roots in one cut). By AI agents, Wed Nov 11 2026. No macro, syntax, notation, axiom, sorry.
-/
import Derived.Test.YtellmabgmnbhcaaGreatChecked
import GoSem.Claim
import GoSem.ClaimJoined
import GoSem.ClaimMapViews
import Derived.JoinedTies
import Derived.KernelRfl
namespace Go.Proofs.YtellmabgmnbhcaaGreat
/- THE CELL 'sum', in the pinned program and in every row, IS THE sha256 OF THE DUMP (.gsa) THAT YtellmabgmnbhcaaGreatProg.lean LOADS. Nothing in Lean hashes anything: it is a label: what it is worth is what the hold of that sum in a sandbox is worth. -/
noncomputable def Tryz.pinned : Pinned := { name := "ytellmabgmnbhcaagreat", sum := "9bb9a512e833155a11bfdb484a5a95351427adb8619b31ed8d6ac01fee1b27e5", checked := Tryz.checked }
namespace Rows
def none {H : Type} : Left H := { results := [], args := [] }

/-- 'bulwarklaw22.HypScrubs': WHATEVER THE INPUT: true; the input reads as it did. -/
def hypScrubsSpec : ChangeSpec := { name := "hypScrubs", fn := fun _ => fun
  | [d] => { results := [.lit (.bool true)], args := [d] }
  | _ => none }
def hypScrubsRow : OpenClaim := { program := "ytellmabgmnbhcaagreat", sum := "9bb9a512e833155a11bfdb484a5a95351427adb8619b31ed8d6ac01fee1b27e5", func := "bulwark/bulwarklaw22.HypScrubs", spec := "hypScrubs", inPlace := ["slices.overlaps[bulwark/api.Map]"], unfollowed := true, recurses := true, apart := false }
def HypScrubsSaid : Prop := hypScrubsRow.holds Tryz.pinned (OpenSpec.ofChange hypScrubsSpec)

/-- ITS FALSE NEIGHBOUR: 'it returns false'. Refute it at one input. -/
def hypScrubsWrong : ChangeSpec := { name := "hypScrubs", fn := fun _ => fun
  | [d] => { results := [.lit (.bool false)], args := [d] }
  | _ => none }
def HypScrubsWrongFalsely : Prop := hypScrubsRow.holds Tryz.pinned (OpenSpec.ofChange hypScrubsWrong)

/-- 'bulwarklaw22.HypUnshares': WHATEVER THE INPUT: true; the input reads as it did. -/
def hypUnsharesSpec : ChangeSpec := { name := "hypUnshares", fn := fun _ => fun
  | [d] => { results := [.lit (.bool true)], args := [d] }
  | _ => none }
def hypUnsharesRow : OpenClaim := { program := "ytellmabgmnbhcaagreat", sum := "9bb9a512e833155a11bfdb484a5a95351427adb8619b31ed8d6ac01fee1b27e5", func := "bulwark/bulwarklaw22.HypUnshares", spec := "hypUnshares", inPlace := ["slices.overlaps[bulwark/api.Map]"], unfollowed := true, recurses := true, apart := false }
def HypUnsharesSaid : Prop := hypUnsharesRow.holds Tryz.pinned (OpenSpec.ofChange hypUnsharesSpec)

/-- ITS FALSE NEIGHBOUR: 'it returns false'. Refute it at one input. -/
def hypUnsharesWrong : ChangeSpec := { name := "hypUnshares", fn := fun _ => fun
  | [d] => { results := [.lit (.bool false)], args := [d] }
  | _ => none }
def HypUnsharesWrongFalsely : Prop := hypUnsharesRow.holds Tryz.pinned (OpenSpec.ofChange hypUnsharesWrong)

/-- 'bulwarklaw22.HypReclaims': WHATEVER THE INPUT: true; the input reads as it did. -/
def hypReclaimsSpec : ChangeSpec := { name := "hypReclaims", fn := fun _ => fun
  | [d] => { results := [.lit (.bool true)], args := [d] }
  | _ => none }
def hypReclaimsRow : OpenClaim := { program := "ytellmabgmnbhcaagreat", sum := "9bb9a512e833155a11bfdb484a5a95351427adb8619b31ed8d6ac01fee1b27e5", func := "bulwark/bulwarklaw22.HypReclaims", spec := "hypReclaims", inPlace := ["slices.overlaps[bulwark/api.Map]"], unfollowed := true, recurses := true, apart := false }
def HypReclaimsSaid : Prop := hypReclaimsRow.holds Tryz.pinned (OpenSpec.ofChange hypReclaimsSpec)

/-- ITS FALSE NEIGHBOUR: 'it returns false'. Refute it at one input. -/
def hypReclaimsWrong : ChangeSpec := { name := "hypReclaims", fn := fun _ => fun
  | [d] => { results := [.lit (.bool false)], args := [d] }
  | _ => none }
def HypReclaimsWrongFalsely : Prop := hypReclaimsRow.holds Tryz.pinned (OpenSpec.ofChange hypReclaimsWrong)

/-- 'bulwarklaw22.HypCreates': WHATEVER THE INPUT: true; the input reads as it did. -/
def hypCreatesSpec : ChangeSpec := { name := "hypCreates", fn := fun _ => fun
  | [d] => { results := [.lit (.bool true)], args := [d] }
  | _ => none }
def hypCreatesRow : OpenClaim := { program := "ytellmabgmnbhcaagreat", sum := "9bb9a512e833155a11bfdb484a5a95351427adb8619b31ed8d6ac01fee1b27e5", func := "bulwark/bulwarklaw22.HypCreates", spec := "hypCreates", inPlace := ["slices.overlaps[bulwark/api.Map]"], unfollowed := true, recurses := true, apart := false }
def HypCreatesSaid : Prop := hypCreatesRow.holds Tryz.pinned (OpenSpec.ofChange hypCreatesSpec)

/-- ITS FALSE NEIGHBOUR: 'it returns false'. Refute it at one input. -/
def hypCreatesWrong : ChangeSpec := { name := "hypCreates", fn := fun _ => fun
  | [d] => { results := [.lit (.bool false)], args := [d] }
  | _ => none }
def HypCreatesWrongFalsely : Prop := hypCreatesRow.holds Tryz.pinned (OpenSpec.ofChange hypCreatesWrong)

/-- 'bulwarklaw22.HypDestroys': WHATEVER THE INPUT: true; the input reads as it did. -/
def hypDestroysSpec : ChangeSpec := { name := "hypDestroys", fn := fun _ => fun
  | [d] => { results := [.lit (.bool true)], args := [d] }
  | _ => none }
def hypDestroysRow : OpenClaim := { program := "ytellmabgmnbhcaagreat", sum := "9bb9a512e833155a11bfdb484a5a95351427adb8619b31ed8d6ac01fee1b27e5", func := "bulwark/bulwarklaw22.HypDestroys", spec := "hypDestroys", inPlace := ["slices.overlaps[bulwark/api.Map]"], unfollowed := true, recurses := true, apart := false }
def HypDestroysSaid : Prop := hypDestroysRow.holds Tryz.pinned (OpenSpec.ofChange hypDestroysSpec)

/-- ITS FALSE NEIGHBOUR: 'it returns false'. Refute it at one input. -/
def hypDestroysWrong : ChangeSpec := { name := "hypDestroys", fn := fun _ => fun
  | [d] => { results := [.lit (.bool false)], args := [d] }
  | _ => none }
def HypDestroysWrongFalsely : Prop := hypDestroysRow.holds Tryz.pinned (OpenSpec.ofChange hypDestroysWrong)

/-- 'bulwarklaw22.HypVcpus': WHATEVER THE INPUT: true; the input reads as it did. -/
def hypVcpusSpec : ChangeSpec := { name := "hypVcpus", fn := fun _ => fun
  | [d] => { results := [.lit (.bool true)], args := [d] }
  | _ => none }
def hypVcpusRow : OpenClaim := { program := "ytellmabgmnbhcaagreat", sum := "9bb9a512e833155a11bfdb484a5a95351427adb8619b31ed8d6ac01fee1b27e5", func := "bulwark/bulwarklaw22.HypVcpus", spec := "hypVcpus", inPlace := ["slices.overlaps[bulwark/api.Map]"], unfollowed := true, recurses := true, apart := false }
def HypVcpusSaid : Prop := hypVcpusRow.holds Tryz.pinned (OpenSpec.ofChange hypVcpusSpec)

/-- ITS FALSE NEIGHBOUR: 'it returns false'. Refute it at one input. -/
def hypVcpusWrong : ChangeSpec := { name := "hypVcpus", fn := fun _ => fun
  | [d] => { results := [.lit (.bool false)], args := [d] }
  | _ => none }
def HypVcpusWrongFalsely : Prop := hypVcpusRow.holds Tryz.pinned (OpenSpec.ofChange hypVcpusWrong)

/-- 'bulwarklaw22.HypRuns': WHATEVER THE INPUT: true; the input reads as it did. -/
def hypRunsSpec : ChangeSpec := { name := "hypRuns", fn := fun _ => fun
  | [d] => { results := [.lit (.bool true)], args := [d] }
  | _ => none }
def hypRunsRow : OpenClaim := { program := "ytellmabgmnbhcaagreat", sum := "9bb9a512e833155a11bfdb484a5a95351427adb8619b31ed8d6ac01fee1b27e5", func := "bulwark/bulwarklaw22.HypRuns", spec := "hypRuns", inPlace := ["slices.overlaps[bulwark/api.Map]"], unfollowed := true, recurses := true, apart := false }
def HypRunsSaid : Prop := hypRunsRow.holds Tryz.pinned (OpenSpec.ofChange hypRunsSpec)

/-- ITS FALSE NEIGHBOUR: 'it returns false'. Refute it at one input. -/
def hypRunsWrong : ChangeSpec := { name := "hypRuns", fn := fun _ => fun
  | [d] => { results := [.lit (.bool false)], args := [d] }
  | _ => none }
def HypRunsWrongFalsely : Prop := hypRunsRow.holds Tryz.pinned (OpenSpec.ofChange hypRunsWrong)

/-- 'bulwarklaw22.HypGives': WHATEVER THE INPUT: true; the input reads as it did. -/
def hypGivesSpec : ChangeSpec := { name := "hypGives", fn := fun _ => fun
  | [d] => { results := [.lit (.bool true)], args := [d] }
  | _ => none }
def hypGivesRow : OpenClaim := { program := "ytellmabgmnbhcaagreat", sum := "9bb9a512e833155a11bfdb484a5a95351427adb8619b31ed8d6ac01fee1b27e5", func := "bulwark/bulwarklaw22.HypGives", spec := "hypGives", inPlace := ["slices.overlaps[bulwark/api.Map]"], unfollowed := true, recurses := true, apart := false }
def HypGivesSaid : Prop := hypGivesRow.holds Tryz.pinned (OpenSpec.ofChange hypGivesSpec)

/-- ITS FALSE NEIGHBOUR: 'it returns false'. Refute it at one input. -/
def hypGivesWrong : ChangeSpec := { name := "hypGives", fn := fun _ => fun
  | [d] => { results := [.lit (.bool false)], args := [d] }
  | _ => none }
def HypGivesWrongFalsely : Prop := hypGivesRow.holds Tryz.pinned (OpenSpec.ofChange hypGivesWrong)

/-- 'bulwarklaw22.HypTakes': WHATEVER THE INPUT: true; the input reads as it did. -/
def hypTakesSpec : ChangeSpec := { name := "hypTakes", fn := fun _ => fun
  | [d] => { results := [.lit (.bool true)], args := [d] }
  | _ => none }
def hypTakesRow : OpenClaim := { program := "ytellmabgmnbhcaagreat", sum := "9bb9a512e833155a11bfdb484a5a95351427adb8619b31ed8d6ac01fee1b27e5", func := "bulwark/bulwarklaw22.HypTakes", spec := "hypTakes", inPlace := ["slices.overlaps[bulwark/api.Map]"], unfollowed := true, recurses := true, apart := false }
def HypTakesSaid : Prop := hypTakesRow.holds Tryz.pinned (OpenSpec.ofChange hypTakesSpec)

/-- ITS FALSE NEIGHBOUR: 'it returns false'. Refute it at one input. -/
def hypTakesWrong : ChangeSpec := { name := "hypTakes", fn := fun _ => fun
  | [d] => { results := [.lit (.bool false)], args := [d] }
  | _ => none }
def HypTakesWrongFalsely : Prop := hypTakesRow.holds Tryz.pinned (OpenSpec.ofChange hypTakesWrong)

/-- 'bulwarklaw22.HypStops': WHATEVER THE INPUT: true; the input reads as it did. -/
def hypStopsSpec : ChangeSpec := { name := "hypStops", fn := fun _ => fun
  | [d] => { results := [.lit (.bool true)], args := [d] }
  | _ => none }
def hypStopsRow : OpenClaim := { program := "ytellmabgmnbhcaagreat", sum := "9bb9a512e833155a11bfdb484a5a95351427adb8619b31ed8d6ac01fee1b27e5", func := "bulwark/bulwarklaw22.HypStops", spec := "hypStops", inPlace := ["slices.overlaps[bulwark/api.Map]"], unfollowed := true, recurses := true, apart := false }
def HypStopsSaid : Prop := hypStopsRow.holds Tryz.pinned (OpenSpec.ofChange hypStopsSpec)

/-- ITS FALSE NEIGHBOUR: 'it returns false'. Refute it at one input. -/
def hypStopsWrong : ChangeSpec := { name := "hypStops", fn := fun _ => fun
  | [d] => { results := [.lit (.bool false)], args := [d] }
  | _ => none }
def HypStopsWrongFalsely : Prop := hypStopsRow.holds Tryz.pinned (OpenSpec.ofChange hypStopsWrong)

/- THE SECOND FORM. 'bulk': how many values and letters a reading holds, each counted each time it is reached (what is shared counts as often as it is met; a slice's spare places count too). A statement '..UptoSaid' is the law's where the arguments, and the package variables that the reading takes, are together of bulk at most 1048576: NARROWER than '..Said'. Prove '..Said' where nothing that the law and all that it calls make is longer than what came in: it says more and counts as full. Else prove '..UptoSaid'. A law counts once. -/
mutual
def uptoBulk {H : Type} : DataW H → Nat
  | .lit (.string bytes) => bytes.length + 1
  | .lit _ => 1
  | .nil => 1
  | .ptr d => uptoBulk d + 1
  | .slice elems spare => uptoBulkAll elems + uptoBulkAll spare + 1
  | .agg parts => uptoBulkAll parts + 1
  | .iface _ d => uptoBulk d + 1
  | .map entries => uptoBulkEntries entries + 1
  | .held _ => 1
def uptoBulkAll {H : Type} : List (DataW H) → Nat
  | [] => 0
  | d :: r => uptoBulk d + uptoBulkAll r
def uptoBulkEntries {H : Type} : List (Lit × DataW H) → Nat
  | [] => 0
  | x :: r => uptoBulkEntry x + uptoBulkEntries r
def uptoBulkEntry {H : Type} : Lit × DataW H → Nat
  | (.string bytes, d) => bytes.length + uptoBulk d + 1
  | (_, d) => uptoBulk d + 1
 end
def uptoSmall : (H : Type) → List (DataW H) → Bool := fun _ ds => decide (uptoBulkAll ds ≤ 1048576)
def OpenSpec.upto (s : _root_.Go.ChangeSpec) : _root_.Go.OpenSpec := { _root_.Go.OpenSpec.ofChange s with cond := some uptoSmall }

/-- 'bulwarklaw22.HypScrubs', WHERE WHAT IT READS IS OF BULK AT MOST 1048576: true; the input reads as it did. -/
def hypScrubsUptoRow : OpenClaim := { program := "ytellmabgmnbhcaagreat", sum := "9bb9a512e833155a11bfdb484a5a95351427adb8619b31ed8d6ac01fee1b27e5", func := "bulwark/bulwarklaw22.HypScrubs", spec := "hypScrubs", inPlace := ["slices.overlaps[bulwark/api.Map]"], unfollowed := true, recurses := true, apart := false, narrowed := true }
def HypScrubsUptoSaid : Prop := hypScrubsUptoRow.holds Tryz.pinned (OpenSpec.upto hypScrubsSpec)

/-- 'bulwarklaw22.HypUnshares', WHERE WHAT IT READS IS OF BULK AT MOST 1048576: true; the input reads as it did. -/
def hypUnsharesUptoRow : OpenClaim := { program := "ytellmabgmnbhcaagreat", sum := "9bb9a512e833155a11bfdb484a5a95351427adb8619b31ed8d6ac01fee1b27e5", func := "bulwark/bulwarklaw22.HypUnshares", spec := "hypUnshares", inPlace := ["slices.overlaps[bulwark/api.Map]"], unfollowed := true, recurses := true, apart := false, narrowed := true }
def HypUnsharesUptoSaid : Prop := hypUnsharesUptoRow.holds Tryz.pinned (OpenSpec.upto hypUnsharesSpec)

/-- 'bulwarklaw22.HypReclaims', WHERE WHAT IT READS IS OF BULK AT MOST 1048576: true; the input reads as it did. -/
def hypReclaimsUptoRow : OpenClaim := { program := "ytellmabgmnbhcaagreat", sum := "9bb9a512e833155a11bfdb484a5a95351427adb8619b31ed8d6ac01fee1b27e5", func := "bulwark/bulwarklaw22.HypReclaims", spec := "hypReclaims", inPlace := ["slices.overlaps[bulwark/api.Map]"], unfollowed := true, recurses := true, apart := false, narrowed := true }
def HypReclaimsUptoSaid : Prop := hypReclaimsUptoRow.holds Tryz.pinned (OpenSpec.upto hypReclaimsSpec)

/-- 'bulwarklaw22.HypCreates', WHERE WHAT IT READS IS OF BULK AT MOST 1048576: true; the input reads as it did. -/
def hypCreatesUptoRow : OpenClaim := { program := "ytellmabgmnbhcaagreat", sum := "9bb9a512e833155a11bfdb484a5a95351427adb8619b31ed8d6ac01fee1b27e5", func := "bulwark/bulwarklaw22.HypCreates", spec := "hypCreates", inPlace := ["slices.overlaps[bulwark/api.Map]"], unfollowed := true, recurses := true, apart := false, narrowed := true }
def HypCreatesUptoSaid : Prop := hypCreatesUptoRow.holds Tryz.pinned (OpenSpec.upto hypCreatesSpec)

/-- 'bulwarklaw22.HypDestroys', WHERE WHAT IT READS IS OF BULK AT MOST 1048576: true; the input reads as it did. -/
def hypDestroysUptoRow : OpenClaim := { program := "ytellmabgmnbhcaagreat", sum := "9bb9a512e833155a11bfdb484a5a95351427adb8619b31ed8d6ac01fee1b27e5", func := "bulwark/bulwarklaw22.HypDestroys", spec := "hypDestroys", inPlace := ["slices.overlaps[bulwark/api.Map]"], unfollowed := true, recurses := true, apart := false, narrowed := true }
def HypDestroysUptoSaid : Prop := hypDestroysUptoRow.holds Tryz.pinned (OpenSpec.upto hypDestroysSpec)

/-- 'bulwarklaw22.HypVcpus', WHERE WHAT IT READS IS OF BULK AT MOST 1048576: true; the input reads as it did. -/
def hypVcpusUptoRow : OpenClaim := { program := "ytellmabgmnbhcaagreat", sum := "9bb9a512e833155a11bfdb484a5a95351427adb8619b31ed8d6ac01fee1b27e5", func := "bulwark/bulwarklaw22.HypVcpus", spec := "hypVcpus", inPlace := ["slices.overlaps[bulwark/api.Map]"], unfollowed := true, recurses := true, apart := false, narrowed := true }
def HypVcpusUptoSaid : Prop := hypVcpusUptoRow.holds Tryz.pinned (OpenSpec.upto hypVcpusSpec)

/-- 'bulwarklaw22.HypRuns', WHERE WHAT IT READS IS OF BULK AT MOST 1048576: true; the input reads as it did. -/
def hypRunsUptoRow : OpenClaim := { program := "ytellmabgmnbhcaagreat", sum := "9bb9a512e833155a11bfdb484a5a95351427adb8619b31ed8d6ac01fee1b27e5", func := "bulwark/bulwarklaw22.HypRuns", spec := "hypRuns", inPlace := ["slices.overlaps[bulwark/api.Map]"], unfollowed := true, recurses := true, apart := false, narrowed := true }
def HypRunsUptoSaid : Prop := hypRunsUptoRow.holds Tryz.pinned (OpenSpec.upto hypRunsSpec)

/-- 'bulwarklaw22.HypGives', WHERE WHAT IT READS IS OF BULK AT MOST 1048576: true; the input reads as it did. -/
def hypGivesUptoRow : OpenClaim := { program := "ytellmabgmnbhcaagreat", sum := "9bb9a512e833155a11bfdb484a5a95351427adb8619b31ed8d6ac01fee1b27e5", func := "bulwark/bulwarklaw22.HypGives", spec := "hypGives", inPlace := ["slices.overlaps[bulwark/api.Map]"], unfollowed := true, recurses := true, apart := false, narrowed := true }
def HypGivesUptoSaid : Prop := hypGivesUptoRow.holds Tryz.pinned (OpenSpec.upto hypGivesSpec)

/-- 'bulwarklaw22.HypTakes', WHERE WHAT IT READS IS OF BULK AT MOST 1048576: true; the input reads as it did. -/
def hypTakesUptoRow : OpenClaim := { program := "ytellmabgmnbhcaagreat", sum := "9bb9a512e833155a11bfdb484a5a95351427adb8619b31ed8d6ac01fee1b27e5", func := "bulwark/bulwarklaw22.HypTakes", spec := "hypTakes", inPlace := ["slices.overlaps[bulwark/api.Map]"], unfollowed := true, recurses := true, apart := false, narrowed := true }
def HypTakesUptoSaid : Prop := hypTakesUptoRow.holds Tryz.pinned (OpenSpec.upto hypTakesSpec)

/-- 'bulwarklaw22.HypStops', WHERE WHAT IT READS IS OF BULK AT MOST 1048576: true; the input reads as it did. -/
def hypStopsUptoRow : OpenClaim := { program := "ytellmabgmnbhcaagreat", sum := "9bb9a512e833155a11bfdb484a5a95351427adb8619b31ed8d6ac01fee1b27e5", func := "bulwark/bulwarklaw22.HypStops", spec := "hypStops", inPlace := ["slices.overlaps[bulwark/api.Map]"], unfollowed := true, recurses := true, apart := false, narrowed := true }
def HypStopsUptoSaid : Prop := hypStopsUptoRow.holds Tryz.pinned (OpenSpec.upto hypStopsSpec)

end Rows
end Go.Proofs.YtellmabgmnbhcaaGreat
