/- Layer 18 (part): a virtual processor run, by both. -/
import Derived.Test.YtjnndchkblnkgaaPtC
namespace Go.Proofs.Ytjnndchkblnkgaa
open Go.RowKit
set_option linter.unusedVariables false
set_option linter.unusedSimpArgs false
set_option maxRecDepth 20000
attribute [local irreducible] Hy St Ops DH DHF
section
variable {P : PtD} {Y : Lay} {bx : Nat} {w : World}
/-- A call of the host's, handed to its own function. -/
theorem hostCallRun_e (h : OwnP P Y) (hN : HereN (Y.hd P bx 66) w) (cpu : Nat) (hc : cpu < P.on.length) (vm fr mid vc cc : Int) (hw : ClD.Wf ⟨8, vm, fr, mid, vc, cc⟩) : Fn Try.prog 25 [.pointer (some ⟨bx, 0, none⟩), .int .i64 (cpu : Int), clV ⟨8, vm, fr, mid, vc, cc⟩].toArray w ((Y.hd P bx 66).map (·.b)) (CallR bx 66 (P.runL cpu vm vc)) := by
  refine enterM _ hN Try.func25 ?_
  refine run ?_
  intro C
  refine runC ?_
  refine callM (Y.hd P bx 66) [⟨C, #[.int .i64 8, .int .i64 vm, .int .i64 fr, .int .i64 mid, .int .i64 vc, .int .i64 cc], 37⟩] (fun wc hG => run_e h hG.hereN cpu hc ⟨8, vm, fr, mid, vc, cc⟩ hw) (fun v hn hR => ?_) (by rw [hdY]; (refine perm_cnt fun a => ?_; simp only [cntB_app, cntB_cons, cntB_nil]; omega))
  refine runC ?_
  refine fin1 ?_
  exact hR.le (by (refine hpLe_cnt fun a => ?_; simp only [cntB_app, cntB_cons, cntB_nil]; omega))
end
end Go.Proofs.Ytjnndchkblnkgaa
