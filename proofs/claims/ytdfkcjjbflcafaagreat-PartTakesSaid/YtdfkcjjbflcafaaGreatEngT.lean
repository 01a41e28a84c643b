/- The engine: arrays built at once. No program in sight. -/
import Derived.Test.YtdfkcjjbflcafaaGreatEngS
namespace Go.Proofs.YtdfkcjjbflcafaaGreat
open Go.RowKit
set_option linter.unusedVariables false
set_option linter.unusedSimpArgs false
theorem fill_mono {p p' : Nat → Option (Nat × Nat)} (h : ∀ i x, p i = some x → p' i = some x) : ∀ (vs : List (Nat × Value)) (cs out : Array Value), Instr.fill p cs vs = some out → Instr.fill p' cs vs = some out := by
  intro vs
  induction vs with
  | nil => intro cs out h; exact h
  | cons q r ih =>
    obtain ⟨i, v⟩ := q
    intro cs out hf
    simp only [Instr.fill] at hf ⊢
    cases hp : p i with
    | none => rw [hp] at hf; cases hf
    | some x =>
      rw [hp] at hf
      rw [h i x hp]
      simp only at hf ⊢
      split
      · rename_i hc; rw [if_pos hc] at hf; cases hf
      · rename_i hc; rw [if_neg hc] at hf; exact ih _ _ hf
/-- The places of an array's elements. -/
def plR (s : Nat) (m : Nat) : List (Nat × Nat) := (List.range m).map fun i => (i * s, s)
section
variable {P : Program} {T : Tab} {n : Nat} {w0 : World} {mu : List Nat} {l : Fm} {hp : Hp} {dd : Option Tmp} {ty : TypeId} {pos : String} {af : Array Edge} {gg : Option (Nat × Bool)}
theorem x_buildR (ok : TabOk P T) {t e s m : Nat} {ps : List (Nat × Operand)} {vs : List (Nat × Value)} {z : Value} {zc out out' : Array Value} (hz : lk T.zs t = some z) (hzc : z.cells = zc) (hpl : lk T.ar t = some (m, e, s)) (hv : evp l ps = some vs) (hf : fl (plR s m) zc vs = some out) (hn : out = out') : Hy P n w0 mu l hp ⟨dd, .build t ps.toArray, ty, pos, af, gg⟩ (.agg out') := by
  subst hn hzc
  obtain ⟨hu, hsz⟩ := ok.gar hpl
  have hfill : Instr.fill (fun i => some (i * s, s)) z.cells vs = some out := by
    refine fill_mono (fun i x hx => ?_) _ _ _ (fl_fill _ _ _ _ hf)
    simp only [plR, List.getElem?_toArray, List.getElem?_map] at hx
    cases hr : (List.range m)[i]? with
    | none => rw [hr] at hx; cases hx
    | some j =>
      obtain ⟨hj, rfl⟩ := List.getElem?_eq_some_iff.1 hr
      rw [hr] at hx
      simpa using hx
  refine hy_run fun a w hk _ => ?_
  have e : (ps.toArray.map fun x => (x.1, a.eval x.2)) = vs.toArray := by rw [← hk.evp hv]; simp
  simp only [execOp]
  simp only [Instr.build, Sem.run_bind, run_zero (ok.gzs hz) w, Result.andThen_ok, run_underlying hu w, e, run_sizeOf hsz w]
  simp [hfill, run_zero (ok.gzs hz) w, run_underlying hu w, run_sizeOf hsz w, Instr.build, e]
theorem st_cutS {Q : Exit → Fm → Hp → Prop} {c y : Code} (R : Fm → Hp → Prop) (first : St P n w0 mu c l hp (nx (Kp R) Q)) (rest : ∀ l hp, R l hp → St P n w0 mu y l hp Q) : St P n w0 mu c l hp (nx (fun l' hp' => St P n w0 mu y l' hp' Q) Q) :=
  st_cut R first rest fun l l' hp hp' h1 h2 h a w hk hg => h a w (hk.sub h1) (hg.sub h2)
end
end Go.Proofs.YtdfkcjjbflcafaaGreat
