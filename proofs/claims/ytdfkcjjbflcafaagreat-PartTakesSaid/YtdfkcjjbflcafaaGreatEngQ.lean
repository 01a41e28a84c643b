/- The engine: closures, slices that are made. No program in sight. -/
import Derived.Test.YtdfkcjjbflcafaaGreatEngP
import Derived.Laws.MakeOwn
namespace Go.Proofs.YtdfkcjjbflcafaaGreat
open Go.RowKit
set_option linter.unusedVariables false
set_option linter.unusedSimpArgs false
section
variable {P : Program} {T : Tab} {n : Nat} {w0 : World} {mu : List Nat} {l : Fm} {hp : Hp} {dd : Option Tmp} {ty : TypeId} {pos : String} {af : Array Edge} {gg : Option (Nat × Bool)} {Q : Exit → Fm → Hp → Prop} {all : Array Oper} {rest : List Oper}
theorem x_makeFunc {f : FuncId} {fs cs : List Operand} {vs us : List Value} (hf : evs l fs = some vs) (hc : evs l cs = some us) : Hy P n w0 mu l hp ⟨dd, .makeFunc (.func f) fs.toArray cs.toArray, ty, pos, af, gg⟩ (.func (.func f) vs.toArray us.toArray) :=
  hy_run fun a w hk _ => by
    have e1 : fs.toArray.map a.eval = vs.toArray := by rw [← hk.evs hf]; simp
    have e2 : cs.toArray.map a.eval = us.toArray := by rw [← hk.evs hc]; simp
    simp [execOp, Instr.makeFunc, e1, e2]
theorem run_callV {f : FuncId} {fn : Func} {c : Code} {x : Operand} {xs : List Operand} {vs fs us : List Value} {tys : Array TypeId} {a : Act} {o : Oper} (hop : o.op = .call { callee := .value x, args := xs.toArray, argTypes := tys })
    (hx : ev l x = some (.func (.func f) fs.toArray us.toArray)) (hf : P.funcs[f]? = some fn) (hname : (fn.name == "runtime.NumGoroutine") = false) (hb : fn.body = some c) (hk : Knows n l a) (hv : evs l xs = some vs) (w : World) : (execOp a.eval o).run P w = .ok (.enter f (fs ++ vs ++ us).toArray) w := by
  have e : xs.toArray.map a.eval = vs.toArray := by rw [← hk.evs hv]; simp
  have h := MuLone.run_callFunc_enter (P := P) hf hname hb (fs ++ vs ++ us).toArray w
  unfold execOp
  simp only [hop, resolve, hk.ev hx, e]
  simpa [Deferred.ofValue, invoke] using h
/-- A call of a closure whose answer is known. -/
theorem x_callF {f : FuncId} {x : Operand} {xs : List Operand} {vs fs us : List Value} {tys : Array TypeId} {v : Value} (hcal : Cal P f) (hx : ev l x = some (.func (.func f) fs.toArray us.toArray)) (hv : evs l xs = some vs)
    (hc : ∀ w, Good w0 mu hp w → Fn P f (fs ++ vs ++ us).toArray w [] (fun u _ => u = v)) : Hy P n w0 mu l hp ⟨dd, .call { callee := .value x, args := xs.toArray, argTypes := tys }, ty, pos, af, gg⟩ v := by
  obtain ⟨fn, c, hf, hname, hb⟩ := hcal
  intro a w hk hG K Q' hK
  unfold Oper.wp
  rw [run_callV rfl hx hf hname hb hk hv w]
  refine Calls.mono (hc w hG) ?_
  rintro e w' ⟨u, hn, rfl, hg', rfl⟩
  exact hK w' ((hG.trans hg').sub (List.sublist_append_right _ _))
/-- A slice made, its room its length. -/
theorem z_make (ok : TabOk P T) {t d e sz by_ : Nat} {x y : Operand} {z : Value} {k k' : IntKind} {m : Nat} (hd : Nat.blt d n = true) (hx : ev l x = some (.int k (m : Int))) (hy : ev l y = some (.int k' (m : Int))) (ht : lk T.sl t = some (e, sz)) (hz : lk T.zs e = some z) (hb : lk T.eb e = some by_)
    (h24 : m * sz ≤ 16777216) (h48 : by_ * m ≤ 281474976710656) (h63 : m ≤ 9223372036854775807)
    (h : ∀ b, Ops P n w0 mu all rest ((d, .slice (some ⟨b, 0, none⟩) m m) :: l) (⟨b, madeCells z.cells (m * sz), e⟩ :: hp) Q) : Ops P n w0 mu all (⟨some d, .makeSlice t x y, ty, pos, af, none⟩ :: rest) l hp Q := by
  intro ac w hk hG
  have hput : ∀ v, Knows n ((d, v) :: l) (ac.put (some d) v) := fun v => Knows.put (d := some d) hk (fun t ht => by cases ht; simpa using hd) v
  obtain ⟨hu, hsz⟩ := ok.gsl ht
  have hbb := List.all_eq_true.1 ok.eb _ (lk_mem hb)
  simp only [beq_iff_eq] at hbb
  obtain ⟨i, hi, hiz, his, hib⟩ := info_of hsz hbb (ok.gzs hz)
  subst his hib
  refine wpList_plain rfl fun K hK => ?_
  have hr := run_makeSlice (P := P) w t e i z hu hi hiz k k' (m : Int) (m : Int) (by omega) (by omega) (by rw [Int.toNat_natCast]; exact h24) (by have : (((i.bytes * m : Nat)) : Int) ≤ 281474976710656 := (by omega); rw [Int.natCast_mul] at this; exact this) (by omega)
  simp only [Int.toNat_natCast] at hr
  unfold Oper.wp execOp
  simp only [Sem.run_bind, Sem.run_pure, Result.andThen_ok, hk.ev hx, hk.ev hy, hr]
  exact hK _ _ (h _ _ _ (hput _) (hG.alloc _ _))
end
end Go.Proofs.YtdfkcjjbflcafaaGreat
