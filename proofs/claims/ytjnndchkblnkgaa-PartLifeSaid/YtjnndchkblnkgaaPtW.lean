/- Layer 18 (part): what the program's calls make of any partition, as one law. -/
import Derived.Test.YtjnndchkblnkgaaPtU
import Derived.Test.YtjnndchkblnkgaaPtZ
namespace Go.Proofs.Ytjnndchkblnkgaa
open Go.RowKit
set_option linter.unusedVariables false
set_option linter.unusedSimpArgs false
set_option maxRecDepth 20000
attribute [local irreducible] Hy St Ops DH DHF
namespace PtD
def NoNil (r : Except Int PtD) : Prop := ∀ e, r = .error e → e ≠ 0
theorem no_err {e : Int} (h : e ≠ 0) : NoNil (.error e) := fun _ h2 => by cases h2; exact h
theorem no_cond {b : Bool} {x y : Except Int PtD} (h1 : NoNil x) (h2 : NoNil y) : NoNil (bif b then x else y) := by cases b <;> assumption
theorem no_ok {Q : PtD} : NoNil (.ok Q) := fun _ h => by cases h
theorem doL_ne (P : PtD) (cpu : Nat) (c : ClD) : NoNil (P.doL cpu c) := by
  unfold doL hostL guestL shareL unshareL donateL reclaimL createL destroyL moreL runL lentL lendL
  repeat' first
    | exact no_err (by decide)
    | exact no_ok
    | refine no_cond ?_ ?_
end PtD
theorem partDoL_e {P : PtD} {w : World} {pv gv ov : Value} (h : PartG w pv gv ov P) (hs : P.Small 1000) (cpu : Nat) (hc : cpu < P.on.length) (c : ClD) (hw : c.Wf) :
    Fn Try.prog 8 [.agg #[pv, gv, ov], .int .i64 (cpu : Int), clV c].toArray w [] (DoR (bif P.may then P.doL cpu c else .error 1)) := by
  refine partDo_e h hs cpu hc c _ (PtD.doL_ne P cpu c) (fun hm hv Y bx w hO hN => ?_) (fun hm hv Y bx w hO hN => ?_)
  · obtain ⟨K, vm, fr, mid, vc, cc⟩ := c
    rw [PtD.doL, show decide ((P.st cpu).vm = 0) = true by simp [hv], cond_true, PtD.hostL]
    dsimp only
    rcases Classical.em (K = 1) with rfl | h1
    · exact hostCallShare_e hO hm hN cpu vm fr mid vc cc hw
    rcases Classical.em (K = 2) with rfl | h2
    · exact hostCallUnshare_e hO hm hN cpu vm fr mid vc cc hw
    rcases Classical.em (K = 3) with rfl | h3
    · exact hostCallDonate_e hO hm hN cpu vm fr mid vc cc hw
    rcases Classical.em (K = 4) with rfl | h4
    · exact hostCallReclaim_e hO hm hN cpu vm fr mid vc cc hw
    rcases Classical.em (K = 5) with rfl | h5
    · exact hostCallCreate_e hO hm hN cpu vm fr mid vc cc hw
    rcases Classical.em (K = 6) with rfl | h6
    · exact hostCallDestroy_e hO hm hN cpu vm fr mid vc cc hw
    rcases Classical.em (K = 7) with rfl | h7
    · exact hostCallVcpu_e hO hN cpu vm fr mid vc cc
    rcases Classical.em (K = 8) with rfl | h8
    · exact hostCallRun_e hO hN cpu hc vm fr mid vc cc hw
    rw [decide_eq_false h1, decide_eq_false h2, decide_eq_false h3, decide_eq_false h4, decide_eq_false h5, decide_eq_false h6, decide_eq_false h7, decide_eq_false h8]
    simp only [cond_false]
    rcases Classical.em (K = 9) with rfl | h9
    · exact hostCallBad_e hO hN (.inl rfl) vm fr mid vc cc cpu
    rcases Classical.em (K = 10) with rfl | h10
    · exact hostCallBad_e hO hN (.inr (.inl rfl)) vm fr mid vc cc cpu
    rcases Classical.em (K = 11) with rfl | h11
    · exact hostCallBad_e hO hN (.inr (.inr rfl)) vm fr mid vc cc cpu
    have hK : NoKind K := ⟨by simp [h1], by simp [h2], by simp [h3], by simp [h4], by simp [h5], by simp [h6], by simp [h7], by simp [h8], by simp [h9], by simp [h10], by simp [h11]⟩
    exact hostCallNo_e hO hN hK vm fr mid vc cc cpu
  · obtain ⟨K, vm, fr, mid, vc, cc⟩ := c
    rw [PtD.doL, show decide ((P.st cpu).vm = 0) = false by simp [hv], cond_false, PtD.guestL]
    dsimp only
    rcases Classical.em (K = 10) with rfl | h10
    · exact guestCallGive_e hO hm hN vm fr mid vc cc cpu hc hv
    rcases Classical.em (K = 11) with rfl | h11
    · exact guestCallTake_e hO hm hN vm fr mid vc cc cpu hc hv
    rcases Classical.em (K = 9) with rfl | h9
    · exact guestCallStop_e hO hm hN vm fr mid vc cc cpu hc hv
    rw [decide_eq_false h10, decide_eq_false h11, decide_eq_false h9]
    simp only [cond_false]
    exact guestCallBad_e hO hN K vm fr mid vc cc cpu hc (decide_eq_false h10) (decide_eq_false h11) (decide_eq_false h9)
end Go.Proofs.Ytjnndchkblnkgaa
