/-
  No cell of these rows narrows 'for every input' (looked for: loops, veiled, ifaces, maps, wideKeys, modest, calm, conditions, laid).
  DERIVED. THE GIVEN ROWS OF THIS SEAT. 11 by the template 'for every input the law returns true; each argument reads behind the call as it read before'; 0 by the template 'total and deterministic' (their statements: YtdfkcjjbflcafaaGreatTotals.lean).
  GIVEN WITH THE SEED: the statements are not yours to turn. If you find one false, say at which input.
  Laid BY PROGRAM, IN A SANDBOX (cutbox-rows.mjs): the forced cells as the released guide's own fill.sh prints them over the translation 187be91db038a697… (all of the seat's roots in one cut). By AI agents, Wed Nov 11 2026. No macro, syntax, notation, axiom, sorry.
-/
import Derived.Test.YtdfkcjjbflcafaaGreatChecked
import GoSem.Claim
import GoSem.ClaimJoined
import GoSem.ClaimMapViews
import Derived.JoinedTies
import Derived.KernelRfl
namespace Go.Proofs.YtdfkcjjbflcafaaGreat
/- THE CELL 'sum', in the pinned program and in every row, IS THE sha256 OF THE DUMP (.gsa) THAT YtdfkcjjbflcafaaGreatProg.lean LOADS. Nothing in Lean hashes anything: it is a label: what it is worth is what the hold of that sum in a sandbox is worth. -/
noncomputable def Tryz.pinned : Pinned := { name := "ytdfkcjjbflcafaagreat", sum := "187be91db038a6976da598b5eb3598b45046ef08186ab6ac2a5a1a910ffc63c8", checked := Tryz.checked }
namespace Rows
def none {H : Type} : Left H := { results := [], args := [] }

/-- 'bulwarklaw18.PartShares': WHATEVER THE INPUT: true; the input reads as it did. -/
def partSharesSpec : ChangeSpec := { name := "partShares", fn := fun _ => fun
  | [d] => { results := [.lit (.bool true)], args := [d] }
  | _ => none }
def partSharesRow : OpenClaim := { program := "ytdfkcjjbflcafaagreat", sum := "187be91db038a6976da598b5eb3598b45046ef08186ab6ac2a5a1a910ffc63c8", func := "bulwark/bulwarklaw18.PartShares", spec := "partShares", inPlace := ["slices.overlaps[bulwark/api.Map]"], unfollowed := true, recurses := true, apart := false }
def PartSharesSaid : Prop := partSharesRow.holds Tryz.pinned (OpenSpec.ofChange partSharesSpec)

/-- ITS FALSE NEIGHBOUR: 'it returns false'. Refute it at one input. -/
def partSharesWrong : ChangeSpec := { name := "partShares", fn := fun _ => fun
  | [d] => { results := [.lit (.bool false)], args := [d] }
  | _ => none }
def PartSharesWrongFalsely : Prop := partSharesRow.holds Tryz.pinned (OpenSpec.ofChange partSharesWrong)

/-- 'bulwarklaw18.PartUnshares': WHATEVER THE INPUT: true; the input reads as it did. -/
def partUnsharesSpec : ChangeSpec := { name := "partUnshares", fn := fun _ => fun
  | [d] => { results := [.lit (.bool true)], args := [d] }
  | _ => none }
def partUnsharesRow : OpenClaim := { program := "ytdfkcjjbflcafaagreat", sum := "187be91db038a6976da598b5eb3598b45046ef08186ab6ac2a5a1a910ffc63c8", func := "bulwark/bulwarklaw18.PartUnshares", spec := "partUnshares", inPlace := ["slices.overlaps[bulwark/api.Map]"], unfollowed := true, recurses := true, apart := false }
def PartUnsharesSaid : Prop := partUnsharesRow.holds Tryz.pinned (OpenSpec.ofChange partUnsharesSpec)

/-- ITS FALSE NEIGHBOUR: 'it returns false'. Refute it at one input. -/
def partUnsharesWrong : ChangeSpec := { name := "partUnshares", fn := fun _ => fun
  | [d] => { results := [.lit (.bool false)], args := [d] }
  | _ => none }
def PartUnsharesWrongFalsely : Prop := partUnsharesRow.holds Tryz.pinned (OpenSpec.ofChange partUnsharesWrong)

/-- 'bulwarklaw18.PartDonates': WHATEVER THE INPUT: true; the input reads as it did. -/
def partDonatesSpec : ChangeSpec := { name := "partDonates", fn := fun _ => fun
  | [d] => { results := [.lit (.bool true)], args := [d] }
  | _ => none }
def partDonatesRow : OpenClaim := { program := "ytdfkcjjbflcafaagreat", sum := "187be91db038a6976da598b5eb3598b45046ef08186ab6ac2a5a1a910ffc63c8", func := "bulwark/bulwarklaw18.PartDonates", spec := "partDonates", inPlace := ["slices.overlaps[bulwark/api.Map]"], unfollowed := true, recurses := true, apart := false }
def PartDonatesSaid : Prop := partDonatesRow.holds Tryz.pinned (OpenSpec.ofChange partDonatesSpec)

/-- ITS FALSE NEIGHBOUR: 'it returns false'. Refute it at one input. -/
def partDonatesWrong : ChangeSpec := { name := "partDonates", fn := fun _ => fun
  | [d] => { results := [.lit (.bool false)], args := [d] }
  | _ => none }
def PartDonatesWrongFalsely : Prop := partDonatesRow.holds Tryz.pinned (OpenSpec.ofChange partDonatesWrong)

/-- 'bulwarklaw18.PartReclaims': WHATEVER THE INPUT: true; the input reads as it did. -/
def partReclaimsSpec : ChangeSpec := { name := "partReclaims", fn := fun _ => fun
  | [d] => { results := [.lit (.bool true)], args := [d] }
  | _ => none }
def partReclaimsRow : OpenClaim := { program := "ytdfkcjjbflcafaagreat", sum := "187be91db038a6976da598b5eb3598b45046ef08186ab6ac2a5a1a910ffc63c8", func := "bulwark/bulwarklaw18.PartReclaims", spec := "partReclaims", inPlace := ["slices.overlaps[bulwark/api.Map]"], unfollowed := true, recurses := true, apart := false }
def PartReclaimsSaid : Prop := partReclaimsRow.holds Tryz.pinned (OpenSpec.ofChange partReclaimsSpec)

/-- ITS FALSE NEIGHBOUR: 'it returns false'. Refute it at one input. -/
def partReclaimsWrong : ChangeSpec := { name := "partReclaims", fn := fun _ => fun
  | [d] => { results := [.lit (.bool false)], args := [d] }
  | _ => none }
def PartReclaimsWrongFalsely : Prop := partReclaimsRow.holds Tryz.pinned (OpenSpec.ofChange partReclaimsWrong)

/-- 'bulwarklaw18.PartCreates': WHATEVER THE INPUT: true; the input reads as it did. -/
def partCreatesSpec : ChangeSpec := { name := "partCreates", fn := fun _ => fun
  | [d] => { results := [.lit (.bool true)], args := [d] }
  | _ => none }
def partCreatesRow : OpenClaim := { program := "ytdfkcjjbflcafaagreat", sum := "187be91db038a6976da598b5eb3598b45046ef08186ab6ac2a5a1a910ffc63c8", func := "bulwark/bulwarklaw18.PartCreates", spec := "partCreates", inPlace := ["slices.overlaps[bulwark/api.Map]"], unfollowed := true, recurses := true, apart := false }
def PartCreatesSaid : Prop := partCreatesRow.holds Tryz.pinned (OpenSpec.ofChange partCreatesSpec)

/-- ITS FALSE NEIGHBOUR: 'it returns false'. Refute it at one input. -/
def partCreatesWrong : ChangeSpec := { name := "partCreates", fn := fun _ => fun
  | [d] => { results := [.lit (.bool false)], args := [d] }
  | _ => none }
def PartCreatesWrongFalsely : Prop := partCreatesRow.holds Tryz.pinned (OpenSpec.ofChange partCreatesWrong)

/-- 'bulwarklaw18.PartDestroys': WHATEVER THE INPUT: true; the input reads as it did. -/
def partDestroysSpec : ChangeSpec := { name := "partDestroys", fn := fun _ => fun
  | [d] => { results := [.lit (.bool true)], args := [d] }
  | _ => none }
def partDestroysRow : OpenClaim := { program := "ytdfkcjjbflcafaagreat", sum := "187be91db038a6976da598b5eb3598b45046ef08186ab6ac2a5a1a910ffc63c8", func := "bulwark/bulwarklaw18.PartDestroys", spec := "partDestroys", inPlace := ["slices.overlaps[bulwark/api.Map]"], unfollowed := true, recurses := true, apart := false }
def PartDestroysSaid : Prop := partDestroysRow.holds Tryz.pinned (OpenSpec.ofChange partDestroysSpec)

/-- ITS FALSE NEIGHBOUR: 'it returns false'. Refute it at one input. -/
def partDestroysWrong : ChangeSpec := { name := "partDestroys", fn := fun _ => fun
  | [d] => { results := [.lit (.bool false)], args := [d] }
  | _ => none }
def PartDestroysWrongFalsely : Prop := partDestroysRow.holds Tryz.pinned (OpenSpec.ofChange partDestroysWrong)

/-- 'bulwarklaw18.PartVcpus': WHATEVER THE INPUT: true; the input reads as it did. -/
def partVcpusSpec : ChangeSpec := { name := "partVcpus", fn := fun _ => fun
  | [d] => { results := [.lit (.bool true)], args := [d] }
  | _ => none }
def partVcpusRow : OpenClaim := { program := "ytdfkcjjbflcafaagreat", sum := "187be91db038a6976da598b5eb3598b45046ef08186ab6ac2a5a1a910ffc63c8", func := "bulwark/bulwarklaw18.PartVcpus", spec := "partVcpus", inPlace := ["slices.overlaps[bulwark/api.Map]"], unfollowed := true, recurses := true, apart := false }
def PartVcpusSaid : Prop := partVcpusRow.holds Tryz.pinned (OpenSpec.ofChange partVcpusSpec)

/-- ITS FALSE NEIGHBOUR: 'it returns false'. Refute it at one input. -/
def partVcpusWrong : ChangeSpec := { name := "partVcpus", fn := fun _ => fun
  | [d] => { results := [.lit (.bool false)], args := [d] }
  | _ => none }
def PartVcpusWrongFalsely : Prop := partVcpusRow.holds Tryz.pinned (OpenSpec.ofChange partVcpusWrong)

/-- 'bulwarklaw18.PartRuns': WHATEVER THE INPUT: true; the input reads as it did. -/
def partRunsSpec : ChangeSpec := { name := "partRuns", fn := fun _ => fun
  | [d] => { results := [.lit (.bool true)], args := [d] }
  | _ => none }
def partRunsRow : OpenClaim := { program := "ytdfkcjjbflcafaagreat", sum := "187be91db038a6976da598b5eb3598b45046ef08186ab6ac2a5a1a910ffc63c8", func := "bulwark/bulwarklaw18.PartRuns", spec := "partRuns", inPlace := ["slices.overlaps[bulwark/api.Map]"], unfollowed := true, recurses := true, apart := false }
def PartRunsSaid : Prop := partRunsRow.holds Tryz.pinned (OpenSpec.ofChange partRunsSpec)

/-- ITS FALSE NEIGHBOUR: 'it returns false'. Refute it at one input. -/
def partRunsWrong : ChangeSpec := { name := "partRuns", fn := fun _ => fun
  | [d] => { results := [.lit (.bool false)], args := [d] }
  | _ => none }
def PartRunsWrongFalsely : Prop := partRunsRow.holds Tryz.pinned (OpenSpec.ofChange partRunsWrong)

/-- 'bulwarklaw18.PartGives': WHATEVER THE INPUT: true; the input reads as it did. -/
def partGivesSpec : ChangeSpec := { name := "partGives", fn := fun _ => fun
  | [d] => { results := [.lit (.bool true)], args := [d] }
  | _ => none }
def partGivesRow : OpenClaim := { program := "ytdfkcjjbflcafaagreat", sum := "187be91db038a6976da598b5eb3598b45046ef08186ab6ac2a5a1a910ffc63c8", func := "bulwark/bulwarklaw18.PartGives", spec := "partGives", inPlace := ["slices.overlaps[bulwark/api.Map]"], unfollowed := true, recurses := true, apart := false }
def PartGivesSaid : Prop := partGivesRow.holds Tryz.pinned (OpenSpec.ofChange partGivesSpec)

/-- ITS FALSE NEIGHBOUR: 'it returns false'. Refute it at one input. -/
def partGivesWrong : ChangeSpec := { name := "partGives", fn := fun _ => fun
  | [d] => { results := [.lit (.bool false)], args := [d] }
  | _ => none }
def PartGivesWrongFalsely : Prop := partGivesRow.holds Tryz.pinned (OpenSpec.ofChange partGivesWrong)

/-- 'bulwarklaw18.PartTakes': WHATEVER THE INPUT: true; the input reads as it did. -/
def partTakesSpec : ChangeSpec := { name := "partTakes", fn := fun _ => fun
  | [d] => { results := [.lit (.bool true)], args := [d] }
  | _ => none }
def partTakesRow : OpenClaim := { program := "ytdfkcjjbflcafaagreat", sum := "187be91db038a6976da598b5eb3598b45046ef08186ab6ac2a5a1a910ffc63c8", func := "bulwark/bulwarklaw18.PartTakes", spec := "partTakes", inPlace := ["slices.overlaps[bulwark/api.Map]"], unfollowed := true, recurses := true, apart := false }
def PartTakesSaid : Prop := partTakesRow.holds Tryz.pinned (OpenSpec.ofChange partTakesSpec)

/-- ITS FALSE NEIGHBOUR: 'it returns false'. Refute it at one input. -/
def partTakesWrong : ChangeSpec := { name := "partTakes", fn := fun _ => fun
  | [d] => { results := [.lit (.bool false)], args := [d] }
  | _ => none }
def PartTakesWrongFalsely : Prop := partTakesRow.holds Tryz.pinned (OpenSpec.ofChange partTakesWrong)

/-- 'bulwarklaw18.PartStops': WHATEVER THE INPUT: true; the input reads as it did. -/
def partStopsSpec : ChangeSpec := { name := "partStops", fn := fun _ => fun
  | [d] => { results := [.lit (.bool true)], args := [d] }
  | _ => none }
def partStopsRow : OpenClaim := { program := "ytdfkcjjbflcafaagreat", sum := "187be91db038a6976da598b5eb3598b45046ef08186ab6ac2a5a1a910ffc63c8", func := "bulwark/bulwarklaw18.PartStops", spec := "partStops", inPlace := ["slices.overlaps[bulwark/api.Map]"], unfollowed := true, recurses := true, apart := false }
def PartStopsSaid : Prop := partStopsRow.holds Tryz.pinned (OpenSpec.ofChange partStopsSpec)

/-- ITS FALSE NEIGHBOUR: 'it returns false'. Refute it at one input. -/
def partStopsWrong : ChangeSpec := { name := "partStops", fn := fun _ => fun
  | [d] => { results := [.lit (.bool false)], args := [d] }
  | _ => none }
def PartStopsWrongFalsely : Prop := partStopsRow.holds Tryz.pinned (OpenSpec.ofChange partStopsWrong)

/- THE SECOND FORM. 'bulk': how many values and letters a reading holds, each counted each time it is reached (what is shared counts as often as it is met; a slice's spare places count too). A statement '..UptoSaid' is the law's where the arguments, and the package variables that the reading takes, are together of bulk at most 1048576: NARROWER than '..Said'. Prove '..Said' where nothing that the law and all that it calls make is longer than what came in: it says more and counts as full. Else prove '..UptoSaid'. A law counts once. -/
mutual
def uptoBulk {H : Type} : DataW H → Nat
  | .lit (.string bytes) => bytes.length + 1
  | .lit _ => 1
  | .nil => 1
  | .ptr d => uptoBulk d + 1
  | .slice elems spare => uptoBulkAll elems + uptoBulkAll spare + 1
  | .agg parts => uptoBulkAll parts + 1
  | .iface _ d => uptoBulk d + 1
  | .map entries => uptoBulkEntries entries + 1
  | .held _ => 1
def uptoBulkAll {H : Type} : List (DataW H) → Nat
  | [] => 0
  | d :: r => uptoBulk d + uptoBulkAll r
def uptoBulkEntries {H : Type} : List (Lit × DataW H) → Nat
  | [] => 0
  | x :: r => uptoBulkEntry x + uptoBulkEntries r
def uptoBulkEntry {H : Type} : Lit × DataW H → Nat
  | (.string bytes, d) => bytes.length + uptoBulk d + 1
  | (_, d) => uptoBulk d + 1
 end
def uptoSmall : (H : Type) → List (DataW H) → Bool := fun _ ds => decide (uptoBulkAll ds ≤ 1048576)
def OpenSpec.upto (s : _root_.Go.ChangeSpec) : _root_.Go.OpenSpec := { _root_.Go.OpenSpec.ofChange s with cond := some uptoSmall }

/-- 'bulwarklaw18.PartShares', WHERE WHAT IT READS IS OF BULK AT MOST 1048576: true; the input reads as it did. -/
def partSharesUptoRow : OpenClaim := { program := "ytdfkcjjbflcafaagreat", sum := "187be91db038a6976da598b5eb3598b45046ef08186ab6ac2a5a1a910ffc63c8", func := "bulwark/bulwarklaw18.PartShares", spec := "partShares", inPlace := ["slices.overlaps[bulwark/api.Map]"], unfollowed := true, recurses := true, apart := false, narrowed := true }
def PartSharesUptoSaid : Prop := partSharesUptoRow.holds Tryz.pinned (OpenSpec.upto partSharesSpec)

/-- 'bulwarklaw18.PartUnshares', WHERE WHAT IT READS IS OF BULK AT MOST 1048576: true; the input reads as it did. -/
def partUnsharesUptoRow : OpenClaim := { program := "ytdfkcjjbflcafaagreat", sum := "187be91db038a6976da598b5eb3598b45046ef08186ab6ac2a5a1a910ffc63c8", func := "bulwark/bulwarklaw18.PartUnshares", spec := "partUnshares", inPlace := ["slices.overlaps[bulwark/api.Map]"], unfollowed := true, recurses := true, apart := false, narrowed := true }
def PartUnsharesUptoSaid : Prop := partUnsharesUptoRow.holds Tryz.pinned (OpenSpec.upto partUnsharesSpec)

/-- 'bulwarklaw18.PartDonates', WHERE WHAT IT READS IS OF BULK AT MOST 1048576: true; the input reads as it did. -/
def partDonatesUptoRow : OpenClaim := { program := "ytdfkcjjbflcafaagreat", sum := "187be91db038a6976da598b5eb3598b45046ef08186ab6ac2a5a1a910ffc63c8", func := "bulwark/bulwarklaw18.PartDonates", spec := "partDonates", inPlace := ["slices.overlaps[bulwark/api.Map]"], unfollowed := true, recurses := true, apart := false, narrowed := true }
def PartDonatesUptoSaid : Prop := partDonatesUptoRow.holds Tryz.pinned (OpenSpec.upto partDonatesSpec)

/-- 'bulwarklaw18.PartReclaims', WHERE WHAT IT READS IS OF BULK AT MOST 1048576: true; the input reads as it did. -/
def partReclaimsUptoRow : OpenClaim := { program := "ytdfkcjjbflcafaagreat", sum := "187be91db038a6976da598b5eb3598b45046ef08186ab6ac2a5a1a910ffc63c8", func := "bulwark/bulwarklaw18.PartReclaims", spec := "partReclaims", inPlace := ["slices.overlaps[bulwark/api.Map]"], unfollowed := true, recurses := true, apart := false, narrowed := true }
def PartReclaimsUptoSaid : Prop := partReclaimsUptoRow.holds Tryz.pinned (OpenSpec.upto partReclaimsSpec)

/-- 'bulwarklaw18.PartCreates', WHERE WHAT IT READS IS OF BULK AT MOST 1048576: true; the input reads as it did. -/
def partCreatesUptoRow : OpenClaim := { program := "ytdfkcjjbflcafaagreat", sum := "187be91db038a6976da598b5eb3598b45046ef08186ab6ac2a5a1a910ffc63c8", func := "bulwark/bulwarklaw18.PartCreates", spec := "partCreates", inPlace := ["slices.overlaps[bulwark/api.Map]"], unfollowed := true, recurses := true, apart := false, narrowed := true }
def PartCreatesUptoSaid : Prop := partCreatesUptoRow.holds Tryz.pinned (OpenSpec.upto partCreatesSpec)

/-- 'bulwarklaw18.PartDestroys', WHERE WHAT IT READS IS OF BULK AT MOST 1048576: true; the input reads as it did. -/
def partDestroysUptoRow : OpenClaim := { program := "ytdfkcjjbflcafaagreat", sum := "187be91db038a6976da598b5eb3598b45046ef08186ab6ac2a5a1a910ffc63c8", func := "bulwark/bulwarklaw18.PartDestroys", spec := "partDestroys", inPlace := ["slices.overlaps[bulwark/api.Map]"], unfollowed := true, recurses := true, apart := false, narrowed := true }
def PartDestroysUptoSaid : Prop := partDestroysUptoRow.holds Tryz.pinned (OpenSpec.upto partDestroysSpec)

/-- 'bulwarklaw18.PartVcpus', WHERE WHAT IT READS IS OF BULK AT MOST 1048576: true; the input reads as it did. -/
def partVcpusUptoRow : OpenClaim := { program := "ytdfkcjjbflcafaagreat", sum := "187be91db038a6976da598b5eb3598b45046ef08186ab6ac2a5a1a910ffc63c8", func := "bulwark/bulwarklaw18.PartVcpus", spec := "partVcpus", inPlace := ["slices.overlaps[bulwark/api.Map]"], unfollowed := true, recurses := true, apart := false, narrowed := true }
def PartVcpusUptoSaid : Prop := partVcpusUptoRow.holds Tryz.pinned (OpenSpec.upto partVcpusSpec)

/-- 'bulwarklaw18.PartRuns', WHERE WHAT IT READS IS OF BULK AT MOST 1048576: true; the input reads as it did. -/
def partRunsUptoRow : OpenClaim := { program := "ytdfkcjjbflcafaagreat", sum := "187be91db038a6976da598b5eb3598b45046ef08186ab6ac2a5a1a910ffc63c8", func := "bulwark/bulwarklaw18.PartRuns", spec := "partRuns", inPlace := ["slices.overlaps[bulwark/api.Map]"], unfollowed := true, recurses := true, apart := false, narrowed := true }
def PartRunsUptoSaid : Prop := partRunsUptoRow.holds Tryz.pinned (OpenSpec.upto partRunsSpec)

/-- 'bulwarklaw18.PartGives', WHERE WHAT IT READS IS OF BULK AT MOST 1048576: true; the input reads as it did. -/
def partGivesUptoRow : OpenClaim := { program := "ytdfkcjjbflcafaagreat", sum := "187be91db038a6976da598b5eb3598b45046ef08186ab6ac2a5a1a910ffc63c8", func := "bulwark/bulwarklaw18.PartGives", spec := "partGives", inPlace := ["slices.overlaps[bulwark/api.Map]"], unfollowed := true, recurses := true, apart := false, narrowed := true }
def PartGivesUptoSaid : Prop := partGivesUptoRow.holds Tryz.pinned (OpenSpec.upto partGivesSpec)

/-- 'bulwarklaw18.PartTakes', WHERE WHAT IT READS IS OF BULK AT MOST 1048576: true; the input reads as it did. -/
def partTakesUptoRow : OpenClaim := { program := "ytdfkcjjbflcafaagreat", sum := "187be91db038a6976da598b5eb3598b45046ef08186ab6ac2a5a1a910ffc63c8", func := "bulwark/bulwarklaw18.PartTakes", spec := "partTakes", inPlace := ["slices.overlaps[bulwark/api.Map]"], unfollowed := true, recurses := true, apart := false, narrowed := true }
def PartTakesUptoSaid : Prop := partTakesUptoRow.holds Tryz.pinned (OpenSpec.upto partTakesSpec)

/-- 'bulwarklaw18.PartStops', WHERE WHAT IT READS IS OF BULK AT MOST 1048576: true; the input reads as it did. -/
def partStopsUptoRow : OpenClaim := { program := "ytdfkcjjbflcafaagreat", sum := "187be91db038a6976da598b5eb3598b45046ef08186ab6ac2a5a1a910ffc63c8", func := "bulwark/bulwarklaw18.PartStops", spec := "partStops", inPlace := ["slices.overlaps[bulwark/api.Map]"], unfollowed := true, recurses := true, apart := false, narrowed := true }
def PartStopsUptoSaid : Prop := partStopsUptoRow.holds Tryz.pinned (OpenSpec.upto partStopsSpec)

end Rows
end Go.Proofs.YtdfkcjjbflcafaaGreat
