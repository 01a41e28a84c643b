/- Layer 18 (part): a machine begun: the reference's, and both. -/
import Derived.Test.YtjnndchkblnkgaaPtO
import Derived.Test.YtjnndchkblnkgaaPtN
namespace Go.Proofs.Ytjnndchkblnkgaa
open Go.RowKit
set_option linter.unusedVariables false
set_option linter.unusedSimpArgs false
set_option maxRecDepth 20000
attribute [local irreducible] Hy St Ops DH DHF
namespace PtD
theorem five_eq (P : PtD) (f : Nat) (hf : f + 5 ≤ P.pages.length) : P.five f = (List.range 5).map fun j => P.pg (f + j) := by
  apply List.ext_getElem?
  intro i
  rw [five, List.getElem?_take, List.getElem?_map]
  by_cases hi : i < 5
  · rw [if_pos hi, List.getElem?_drop, List.getElem?_range hi, Option.map_some]
    show _ = some (P.pages.getD (f + i) default)
    rw [List.getD_eq_getElem?_getD, List.getElem?_eq_getElem (by omega)]; rfl
  · rw [if_neg hi, List.getElem?_eq_none (by rw [List.length_range]; omega)]; rfl
theorem five_any {P : PtD} {f : Nat} (hf : f + 5 ≤ P.pages.length) {p : PgD → Bool} : (P.five f).any p = true ↔ ∃ j, j < 5 ∧ p (P.pg (f + j)) = true := by
  rw [five_eq P f hf]
  simp [List.any_eq_true]
theorem five_no {P : PtD} {f : Nat} (hf : f + 5 ≤ P.pages.length) {p : PgD → Bool} (h : ∀ j, j < 5 → p (P.pg (f + j)) = false) : (P.five f).any p = false := by
  rw [← Bool.not_eq_true, five_any hf]
  rintro ⟨j, hj, hp⟩
  rw [h j hj] at hp
  cases hp
theorem claim_pg (P : PtD) (f k : Nat) (hf : f + k ≤ P.pages.length) (j : Nat) : (P.claim f k).pg j = if f ≤ j ∧ j < f + k then ⟨-1, -2⟩ else P.pg j := by
  induction k with
  | zero => rw [if_neg (by omega)]; rfl
  | succ k ih =>
    rw [claim, setPg_pg _ _ _ (by rw [claim_len]; omega), ih (by omega)]
    by_cases hj : j = f + k
    · rw [if_pos hj, if_pos (by omega)]
    · rw [if_neg hj]
      by_cases h2 : f ≤ j ∧ j < f + k
      · rw [if_pos h2, if_pos (by omega)]
      · rw [if_neg h2, if_neg (by omega)]
end PtD
section
variable {P : PtD} {Y : Lay} {bx tx : Nat} {w : World}
theorem hostCallCreate_e (h : OwnP P Y) (hm : P.may = true) (hN : HereN (Y.hd P bx 66) w) (cpu vm fr mid vc cc : Int) (hw : ClD.Wf ⟨5, vm, fr, mid, vc, cc⟩) : Fn Try.prog 25 [.pointer (some ⟨bx, 0, none⟩), .int .i64 cpu, clV ⟨5, vm, fr, mid, vc, cc⟩].toArray w ((Y.hd P bx 66).map (·.b)) (CallR bx 66 (P.createL fr)) := by
  refine enterM _ hN Try.func25 ?_
  refine run ?_
  intro C
  refine runC ?_
  refine callM (Y.hd P bx 66) [⟨C, #[.int .i64 5, .int .i64 vm, .int .i64 fr, .int .i64 mid, .int .i64 vc, .int .i64 cc], 37⟩] (fun wc hG => create_e h hm hG.hereN ⟨5, vm, fr, mid, vc, cc⟩ hw) (fun v hn hR => ?_) (by rw [hdY]; (refine perm_cnt fun a => ?_; simp only [cntB_app, cntB_cons, cntB_nil]; omega))
  refine runC ?_
  refine fin1 ?_
  exact hR.le (by (refine hpLe_cnt fun a => ?_; simp only [cntB_app, cntB_cons, cntB_nil]; omega))
end
end Go.Proofs.Ytjnndchkblnkgaa
