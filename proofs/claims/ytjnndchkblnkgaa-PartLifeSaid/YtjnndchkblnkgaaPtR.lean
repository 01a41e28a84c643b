/- Layer 18 (part): a machine ended: the reference's, and both. -/
import Derived.Test.YtjnndchkblnkgaaPtQ
import Derived.Test.YtjnndchkblnkgaaPtN
namespace Go.Proofs.Ytjnndchkblnkgaa
open Go.RowKit
set_option linter.unusedVariables false
set_option linter.unusedSimpArgs false
set_option maxRecDepth 20000
attribute [local irreducible] Hy St Ops DH DHF
namespace PtD
def sweptR (vm first : Int) (f : Nat) (x : PgD) : PgD := bif decide (first ≤ f) && decide ((f : Int) < first + 5) then ⟨0, (swept vm x).wit⟩ else swept vm x
def sweepR (P : PtD) (vm first : Int) : Nat → PtD
  | 0 => P
  | k + 1 => (sweepR P vm first k).setPg k (sweptR vm first k (P.pg k))
theorem sweepR_len (P : PtD) (vm first : Int) (k : Nat) : (P.sweepR vm first k).pages.length = P.pages.length := by
  induction k with
  | zero => rfl
  | succ k ih => rw [sweepR, setPg]; simpa using ih
theorem sweepR_gs (P : PtD) (vm first : Int) (k : Nat) : (P.sweepR vm first k).guests = P.guests := by
  induction k with
  | zero => rfl
  | succ k ih => rw [sweepR, setPg]; exact ih
theorem sweepR_on (P : PtD) (vm first : Int) (k : Nat) : (P.sweepR vm first k).on = P.on := by
  induction k with
  | zero => rfl
  | succ k ih => rw [sweepR, setPg]; exact ih
theorem sweepR_pg (P : PtD) (vm first : Int) (k : Nat) (hk : k ≤ P.pages.length) (j : Nat) : (P.sweepR vm first k).pg j = if j < k then sweptR vm first j (P.pg j) else P.pg j := by
  induction k with
  | zero => rw [if_neg (by omega)]; rfl
  | succ k ih =>
    rw [sweepR, setPg_pg _ _ _ (by rw [sweepR_len]; omega), ih (by omega)]
    by_cases hj : j = k
    · rw [if_pos hj, if_pos (by omega), hj]
    · rw [if_neg hj]
      by_cases h2 : j < k
      · rw [if_pos h2, if_pos (by omega)]
      · rw [if_neg h2, if_neg (by omega)]
theorem ext_pg {P Q : PtD} (hl : P.pages.length = Q.pages.length) (hp : ∀ j, j < P.pages.length → P.pg j = Q.pg j) (hg : P.guests = Q.guests) (ho : P.on = Q.on) : P = Q := by
  have : P.pages = Q.pages := by
    apply List.ext_getElem hl
    intro j h1 h2
    have := hp j h1
    unfold pg at this
    rw [List.getD_eq_getElem?_getD, List.getD_eq_getElem?_getD, List.getElem?_eq_getElem h1, List.getElem?_eq_getElem h2] at this
    exact this
  cases P
  cases Q
  simp only at this hg ho
  subst this hg ho
  rfl
theorem gone_eq {P : PtD} (hm : P.may = true) {vm : Int} (hv : 1 ≤ vm ∧ vm ≤ 4) (hl : (P.gs (ix vm)).live = true) : P.sweepR vm (P.gs (ix vm)).first P.pages.length = P.gone vm := by
  have hok := may_ok.1 hm
  have hi := ix_lt hv
  obtain ⟨_, f0, f1, _⟩ := hok.liv _ hi hl
  refine ext_pg ?_ (fun j hj => ?_) ?_ ?_
  · rw [sweepR_len, gone, frees_len, sweep_len]
  · rw [sweepR_len] at hj
    rw [sweepR_pg P vm _ _ (Nat.le_refl _), if_pos hj, gone, frees_pg _ _ _ (by rw [sweep_len]; omega), sweep_pg P vm _ (Nat.le_refl _), if_pos hj, sweptR]
    by_cases hr : (P.gs (ix vm)).first ≤ j ∧ (j : Int) < (P.gs (ix vm)).first + 5
    · have hown : (P.pg j).own = -1 := (hok.hyp j hj).2 (.inr ⟨ix vm, hi, hl, hr.1, hr.2⟩)
      have hwit := hok.hypw j hj hown
      have hsw : swept vm (P.pg j) = P.pg j := by
        unfold swept
        have h1 : decide ((P.pg j).own = vm) = false := by rw [hown]; simp; omega
        have h2 : decide ((P.pg j).own = 0) = false := by rw [hown]; rfl
        rw [h1, h2]; rfl
      rw [if_pos (by omega), show (decide ((P.gs (ix vm)).first ≤ j) && decide ((j : Int) < (P.gs (ix vm)).first + 5)) = true by simp [hr.1, hr.2], hsw, hwit]
      rfl
    · rw [if_neg (by omega), show (decide ((P.gs (ix vm)).first ≤ j) && decide ((j : Int) < (P.gs (ix vm)).first + 5)) = false by rw [← Bool.not_eq_true]; simpa using fun h => by omega]
      rfl
  · rw [sweepR_gs, gone, frees_gs, sweep_gs]
  · rw [sweepR_on, gone, frees_on, sweep_on]
end PtD
section
variable {P : PtD} {Y : Lay} {bx tx : Nat} {w : World}
theorem hostCallDestroy_e (h : OwnP P Y) (hm : P.may = true) (hN : HereN (Y.hd P bx 66) w) (cpu vm fr mid vc cc : Int) (hw : ClD.Wf ⟨6, vm, fr, mid, vc, cc⟩) : Fn Try.prog 25 [.pointer (some ⟨bx, 0, none⟩), .int .i64 cpu, clV ⟨6, vm, fr, mid, vc, cc⟩].toArray w ((Y.hd P bx 66).map (·.b)) (CallR bx 66 (P.destroyL vm)) := by
  refine enterM _ hN Try.func25 ?_
  refine run ?_
  intro C
  refine runC ?_
  refine callM (Y.hd P bx 66) [⟨C, #[.int .i64 6, .int .i64 vm, .int .i64 fr, .int .i64 mid, .int .i64 vc, .int .i64 cc], 37⟩] (fun wc hG => destroy_e h hm hG.hereN ⟨6, vm, fr, mid, vc, cc⟩ hw) (fun v hn hR => ?_) (by rw [hdY]; (refine perm_cnt fun a => ?_; simp only [cntB_app, cntB_cons, cntB_nil]; omega))
  refine runC ?_
  refine fin1 ?_
  exact hR.le (by (refine hpLe_cnt fun a => ?_; simp only [cntB_app, cntB_cons, cntB_nil]; omega))
end
end Go.Proofs.Ytjnndchkblnkgaa
