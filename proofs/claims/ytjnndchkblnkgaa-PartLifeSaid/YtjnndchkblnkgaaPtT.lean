/- Layer 18 (part): calls of any kind, on any processor. -/
import Derived.Test.YtjnndchkblnkgaaPtS
namespace Go.Proofs.Ytjnndchkblnkgaa
open Go.RowKit
set_option linter.unusedVariables false
set_option linter.unusedSimpArgs false
set_option maxRecDepth 20000
attribute [local irreducible] Hy St Ops DH DHF
section
variable {P : PtD} {Y : Lay} {bx tx : Nat} {w : World} {pv gv ov : Value}
theorem partDoOut_e (h : PartG w pv gv ov P) (hs : P.Small 1000) (cpu : Int) (hc : P.may = false ∨ PtD.btw cpu 0 ((P.on.length : Int) - 1) = false) (c : ClD) : Fn Try.prog 8 [.agg #[pv, gv, ov], .int .i64 cpu, clV c].toArray w [] (DoR (.error 1)) := by
  obtain ⟨p, pc, g, gc, o, oc, rfl, rfl, rfl, _⟩ := h.slices
  have hlo := hs.on
  refine enter Try.func8 ?_
  refine run ?_
  intro B C R
  refine run ?_
  refine callE (fun wc hG => check_e (h.good hG)) ?_
  cases hm : P.may
  · refine runC ?_
    refine finA1 ?_
    rfl
  refine runC ?_
  refine callEG (fun hg wc hG => between_e _ _ _ wc) ?_
  rw [hc.resolve_left (by rw [hm]; decide)]
  refine runC ?_
  refine finA1 ?_
  rfl
/-- None of the kinds that there are. -/
structure NoKind (K : Int) : Prop where
  k1 : decide (K = 1) = false
  k2 : decide (K = 2) = false
  k3 : decide (K = 3) = false
  k4 : decide (K = 4) = false
  k5 : decide (K = 5) = false
  k6 : decide (K = 6) = false
  k7 : decide (K = 7) = false
  k8 : decide (K = 8) = false
  k9 : decide (K = 9) = false
  k10 : decide (K = 10) = false
  k11 : decide (K = 11) = false
theorem hostCallNo_e (h : OwnP P Y) (hN : HereN (Y.hd P bx 66) w) {K : Int} (hK : NoKind K) (vm fr mid vc cc cpu : Int) : Fn Try.prog 25 [.pointer (some ⟨bx, 0, none⟩), .int .i64 cpu, clV ⟨K, vm, fr, mid, vc, cc⟩].toArray w ((Y.hd P bx 66).map (·.b)) (CallR bx 66 (.error 9)) := by
  refine enterM _ hN Try.func25 ?_
  refine run ?_
  intro C
  refine run ?_
  refine st_cond _ rfl (fun hp => by rw [hK.k1] at hp; cases hp) (fun _ => ?_)
  refine run ?_
  refine st_cond _ rfl (fun hp => by rw [hK.k2] at hp; cases hp) (fun _ => ?_)
  refine run ?_
  refine st_cond _ rfl (fun hp => by rw [hK.k3] at hp; cases hp) (fun _ => ?_)
  refine run ?_
  refine st_cond _ rfl (fun hp => by rw [hK.k4] at hp; cases hp) (fun _ => ?_)
  refine run ?_
  refine st_cond _ rfl (fun hp => by rw [hK.k5] at hp; cases hp) (fun _ => ?_)
  refine run ?_
  refine st_cond _ rfl (fun hp => by rw [hK.k6] at hp; cases hp) (fun _ => ?_)
  refine run ?_
  refine st_cond _ rfl (fun hp => by rw [hK.k7] at hp; cases hp) (fun _ => ?_)
  refine run ?_
  refine st_cond _ rfl (fun hp => by rw [hK.k8] at hp; cases hp) (fun _ => ?_)
  refine run ?_
  refine fin1 ?_
  rfl
end
end Go.Proofs.Ytjnndchkblnkgaa
