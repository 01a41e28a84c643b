/- Layer 18 (part): calls of any kind, on any processor. -/
import Derived.Test.YtjnndchkblnkgaaGreatPtS
namespace Go.Proofs.YtjnndchkblnkgaaGreat
open Go.RowKit
set_option linter.unusedVariables false
set_option linter.unusedSimpArgs false
set_option maxRecDepth 20000
attribute [local irreducible] Hy St Ops DH DHF
section
variable {P : PtD} {Y : Lay} {bx tx : Nat} {w : World} {pv gv ov : Value}
theorem partDoOut_e (h : PartG w pv gv ov P) (hs : P.Small 1000) (cpu : Int) (hc : P.may = false ∨ PtD.btw cpu 0 ((P.on.length : Int) - 1) = false) (c : ClD) : Fn Tryz.prog 12 [.agg #[pv, gv, ov], .int .i64 cpu, clV c].toArray w [] (DoR (.error 1)) := by
  obtain ⟨p, pc, g, gc, o, oc, rfl, rfl, rfl, _⟩ := h.slices
  have hlo := hs.on
  refine enter Tryz.func12 ?_
  refine run ?_
  intro B C R
  refine run ?_
  refine callE (fun wc hG => check_e (h.good hG)) ?_
  cases hm : P.may
  · refine runC ?_
    refine finA1 ?_
    rfl
  refine runC ?_
  refine callEG (fun hg wc hG => between_e _ _ _ wc) ?_
  rw [hc.resolve_left (by rw [hm]; decide)]
  refine runC ?_
  refine finA1 ?_
  rfl
/-- None of the kinds that there are. -/
structure NoKind (K : Int) : Prop where
  k1 : decide (K = 1) = false
  k2 : decide (K = 2) = false
  k3 : decide (K = 3) = false
  k4 : decide (K = 4) = false
  k5 : decide (K = 5) = false
  k6 : decide (K = 6) = false
  k7 : decide (K = 7) = false
  k8 : decide (K = 8) = false
  k9 : decide (K = 9) = false
  k10 : decide (K = 10) = false
  k11 : decide (K = 11) = false
theorem hostCallNo_e (h : OwnP P Y) (hN : HereN (Y.hd P bx 67) w) {K : Int} (hK : NoKind K) (vm fr mid vc cc cpu : Int) : Fn Tryz.prog 30 [.pointer (some ⟨bx, 0, none⟩), .int .i64 cpu, clV ⟨K, vm, fr, mid, vc, cc⟩].toArray w ((Y.hd P bx 67).map (·.b)) (CallR bx 67 (.error 9)) := by
  refine enterM _ hN Tryz.func30 ?_
  refine run ?_
  intro C
  refine run ?_
  refine st_cond _ rfl (fun hp => by rw [hK.k1] at hp; cases hp) (fun _ => ?_)
  refine run ?_
  refine st_cond _ rfl (fun hp => by rw [hK.k2] at hp; cases hp) (fun _ => ?_)
  refine run ?_
  refine st_cond _ rfl (fun hp => by rw [hK.k3] at hp; cases hp) (fun _ => ?_)
  refine run ?_
  refine st_cond _ rfl (fun hp => by rw [hK.k4] at hp; cases hp) (fun _ => ?_)
  refine run ?_
  refine st_cond _ rfl (fun hp => by rw [hK.k5] at hp; cases hp) (fun _ => ?_)
  refine run ?_
  refine st_cond _ rfl (fun hp => by rw [hK.k6] at hp; cases hp) (fun _ => ?_)
  refine run ?_
  refine st_cond _ rfl (fun hp => by rw [hK.k7] at hp; cases hp) (fun _ => ?_)
  refine run ?_
  refine st_cond _ rfl (fun hp => by rw [hK.k8] at hp; cases hp) (fun _ => ?_)
  refine run ?_
  refine fin1 ?_
  rfl
theorem hostNo_e (h : OwnP P Y) (hN : HereN (Y.hd P bx 26) w) {K : Int} (hK : NoKind K) (vm fr mid vc cc cpu : Int) : Fn Tryz.prog 31 [.pointer (some ⟨bx, 0, none⟩), .int .i64 cpu, clV ⟨K, vm, fr, mid, vc, cc⟩].toArray w ((Y.hd P bx 26).map (·.b)) (CallR bx 26 (.error 9)) := by
  refine enterM _ hN Tryz.func31 ?_
  refine run ?_
  intro B
  refine run ?_
  refine callE (v := .bool false) (fun wc hG => Fn.mono (names_e ⟨K, vm, fr, mid, vc, cc⟩ wc) (fun v hp e => by rw [e]; simp only [hK.k3, hK.k6, hK.k7, hK.k8]; rfl)) ?_
  have e1 : (decide (K = 1) || decide (K = 2) || decide (K = 4) || decide (K = 5)) = false := by rw [hK.k1, hK.k2, hK.k4, hK.k5]; rfl
  refine runG ?_
  refine st_cond _ rfl (fun hp => by rw [e1] at hp; cases hp) (fun _ => ?_)
  have e2 : (false || decide (K = 1) && !decide (vm = 0)) = false := by rw [hK.k1]; rfl
  refine runG ?_
  refine st_cond _ rfl (fun hp => by rw [e2] at hp; cases hp) (fun _ => ?_)
  rw [e2]
  refine runG ?_
  refine callEG (fun hg wc hG => frameR_e (bx := bx) (tx := 26) h (hG.here' (by (refine hpLe_cnt fun a => ?_; simp only [cntB_app, cntB_cons, cntB_nil]; omega))) fr) ?_
  refine runG ?_
  refine st_cond _ rfl (fun hp => by rw [hK.k3] at hp; cases hp) (fun _ => ?_)
  refine runG ?_
  refine callEG (fun hg wc hG => num_e _ _ wc) ?_
  have e3 : (decide (K = 3) || decide (K = 1) && !decide (vm = 0)) = false := by rw [hK.k3, hK.k1]; rfl
  refine runG ?_
  refine st_cond _ rfl (fun hp => by rw [e3] at hp; cases hp) (fun _ => ?_)
  refine run ?_
  refine drawAll ?_
  refine runDG ?_
  refine run ?_
  refine st_cond _ rfl (fun hp => by simp at hp) (fun _ => ?_)
  refine run ?_
  refine st_cond _ rfl (fun hp => by rw [hK.k1] at hp; cases hp) (fun _ => ?_)
  refine run ?_
  refine st_cond _ rfl (fun hp => by rw [hK.k3] at hp; cases hp) (fun _ => ?_)
  refine run ?_
  refine st_cond _ rfl (fun hp => by rw [hK.k2] at hp; cases hp) (fun _ => ?_)
  refine run ?_
  refine st_cond _ rfl (fun hp => by rw [hK.k4] at hp; cases hp) (fun _ => ?_)
  refine run ?_
  refine st_cond _ rfl (fun hp => by rw [hK.k5] at hp; cases hp) (fun _ => ?_)
  refine run ?_
  refine st_cond _ rfl (fun hp => by rw [hK.k6] at hp; cases hp) (fun _ => ?_)
  refine run ?_
  refine st_cond _ rfl (fun hp => by rw [hK.k7] at hp; cases hp) (fun _ => ?_)
  refine run ?_
  refine st_cond _ rfl (fun hp => by rw [hK.k8] at hp; cases hp) (fun _ => ?_)
  refine run ?_
  refine fin1 ?_
  rfl
end
theorem kindAll (K : Int) : KindOk K := by
  rcases Classical.em (K = 1) with rfl | h1
  · exact kindShare
  rcases Classical.em (K = 2) with rfl | h2
  · exact kindUnshare
  rcases Classical.em (K = 3) with rfl | h3
  · exact kindDonate
  rcases Classical.em (K = 4) with rfl | h4
  · exact kindReclaim
  rcases Classical.em (K = 5) with rfl | h5
  · exact kindCreate
  rcases Classical.em (K = 6) with rfl | h6
  · exact kindDestroy
  rcases Classical.em (K = 7) with rfl | h7
  · exact kindVcpu
  rcases Classical.em (K = 8) with rfl | h8
  · exact kindRun
  rcases Classical.em (K = 9) with rfl | h9
  · exact kindStop
  rcases Classical.em (K = 10) with rfl | h10
  · exact kindGive
  rcases Classical.em (K = 11) with rfl | h11
  · exact kindTake
  have hK : NoKind K := ⟨by simp [h1], by simp [h2], by simp [h3], by simp [h4], by simp [h5], by simp [h6], by simp [h7], by simp [h8], by simp [h9], by simp [h10], by simp [h11]⟩
  refine kind_host (fun _ _ _ => .error 9) ?_ hK.k10 hK.k11 hK.k9 ?_ ?_
  · intro P c cpu e h
    cases h
    decide
  · rintro P Y bx w ⟨_, vm, fr, mid, vc, cc⟩ cpu rfl hw hm hc hv hO hN
    exact hostCallNo_e hO hN hK vm fr mid vc cc cpu
  · rintro P Y bx w ⟨_, vm, fr, mid, vc, cc⟩ cpu rfl hw hm hc hv hO hN
    exact hostNo_e hO hN hK vm fr mid vc cc cpu
end Go.Proofs.YtjnndchkblnkgaaGreat
