/- The engine: arrays as values: built, indexed. -/
import Derived.Test.YtiaelhhmlbfkmaaGreatEng2
namespace Go.Proofs.YtiaelhhmlbfkmaaGreat
open Go.RowKit
set_option linter.unusedVariables false
set_option linter.unusedSimpArgs false
set_option maxRecDepth 20000
section
variable {n : Nat} {w0 : World} {mu : List Nat} {l : Fm} {hp : Hp} {ty : TypeId} {pos : String} {af : Array Edge} {dd : Option Nat} {gg : Option (Nat × Bool)}
theorem x_buildA {t e m s : Nat} {ps : List (Nat × Operand)} {vs : List (Nat × Value)} {z : Value} {out out' : Array Value} (ht : lk Tb.ar t = some (m, e, s)) (hz : lk Tb.zs t = some z) (hv : evp l ps = some vs) (hf : Instr.fill (fun i => some (i * s, s)) z.cells vs = some out) (hn : out = out') : Hy Tryz.prog n w0 mu l hp ⟨dd, .build t ps.toArray, ty, pos, af, gg⟩ (.agg out') := by
  subst hn
  obtain ⟨hu, hs⟩ := tb_ok.gar ht
  exact hy_run fun a w hk _ => by
    have e : (ps.toArray.map fun x => (x.1, a.eval x.2)) = vs.toArray := by rw [← hk.evp hv]; simp
    simp only [execOp, Instr.build, Sem.run_bind, run_zero (tb_ok.gzs hz) w, Result.andThen_ok, run_underlying hu w, run_sizeOf hs w, e]
    simp [hf]
theorem x_indexV {t e m : Nat} {x y : Operand} {cs : Array Value} {k : IntKind} {i : Int} {v : Value} (ht : lk Tb.ar t = some (m, e, 1)) (hsc : mem Tb.sc e = true) (hx : ev l x = some (.agg cs)) (hy : ev l y = some (.int k i)) (h0 : 0 ≤ i) (h1 : i < m) (hn : cs[i.toNat]? = some v) {ty2 : TypeId} : Hy Tryz.prog n w0 mu l hp ⟨dd, .index t x y, ty2, pos, af, gg⟩ v := by
  obtain ⟨hu, hs⟩ := tb_ok.gar ht
  have hg := tb_ok.gsc hsc
  exact hy_run fun a w hk _ => by
    simp only [execOp, hk.ev hx, hk.ev hy]
    simp [Instr.index, run_underlying hu w, asIntOf, h0, h1, run_sizeOf hs w, part, run_isAgg_sc hg w, hn]
end
end Go.Proofs.YtiaelhhmlbfkmaaGreat
