/- The engine: how much room a slice has; zeros. No program in sight. -/
import Derived.Test.YtjnndchkblnkgaaLay2
namespace Go.Proofs.Ytjnndchkblnkgaa
open Go.RowKit
set_option linter.unusedVariables false
set_option linter.unusedSimpArgs false
set_option maxRecDepth 20000
section
variable {P : Program} {T : Tab} {n : Nat} {w0 : World} {mu : List Nat} {l : Fm} {hp : Hp} {dd : Option Tmp} {ty : TypeId} {pos : String} {af : Array Edge} {gg : Option (Nat × Bool)} {Q : Exit → Fm → Hp → Prop} {all : Array Oper} {rest : List Oper}
/-- A part of one's own block cleared. -/
theorem z_clear0 (ok : TabOk P T) {t e sz b o m c : Nat} {cs : Array Value} {tb : TypeId} {x : Operand} {z : Value} {hp' : Hp} (hx : ev l x = some (.slice (some ⟨b, o, none⟩) m c)) (ht : lk T.sl t = some (e, sz)) (hz : lk T.zs e = some z) (hzs : z.cells.size = sz) (hz1 : z.cells.toList.all (·.oneCell') = true) (hm : 0 < m)
    (hperm : (⟨b, cs, tb⟩ :: hp').Perm hp) (hfit : o + m * sz ≤ cs.size)
    (h : ∀ vs : List Value, vs.length = m * sz → Ops P n w0 mu all rest l (⟨b, putAt cs o vs, tb⟩ :: hp') Q) : Ops P n w0 mu all (⟨none, .call { callee := .builtin .clear, args := #[x], argTypes := #[t] }, ty, pos, af, none⟩ :: rest) l hp Q := by
  intro ac w hk hG
  obtain ⟨hu, hsz⟩ := ok.gsl ht
  have hG' := hG.perm hperm
  have hb := hG'.here _ (List.mem_cons_self ..)
  have hlen : (Builtin.zeroCells z.cells m).toList.length = m * sz := by rw [Array.length_toList, size_zeroCells, hzs]
  have hst := run_storeCells_cells (P := P) b o (Builtin.zeroCells z.cells m).toList 0 w
    (fun j hj => by rw [cell_of_block hb]; simp [show o + j < cs.size by omega])
    (fun j _ => free_of_block hb) (fun u hu => by
      refine (List.all_eq_true.1 hz1) u ?_
      simp only [Builtin.zeroCells, Array.mem_toList_iff, Array.mem_map, Array.mem_range] at hu
      obtain ⟨i, hi, rfl⟩ := hu
      have hpos : 0 < z.cells.size := by
        rcases Nat.eq_zero_or_pos z.cells.size with h0 | h0
        · rw [h0] at hi; omega
        · exact h0
      rw [getElem!_pos z.cells _ (Nat.mod_lt _ hpos)]
      simp)
  simp only [Nat.add_zero] at hst
  refine wpList_plain rfl fun K hK => ?_
  unfold Oper.wp execOp
  have hr : (Builtin.clear_ #[t] ty #[.slice (some ⟨b, o, none⟩) m c]).run P w = .ok (.tuple #[]) (w.setCells b o (Builtin.zeroCells z.cells m).toList) := by
    obtain ⟨m', rfl⟩ : ∃ m', m = m' + 1 := ⟨m - 1, by omega⟩
    simp [Builtin.clear_, run_underlying hu, run_zero (ok.gzs hz) w, hst]
  simp only [resolve, invoke, builtin, Sem.run_bind, Sem.run_pure, Result.andThen_ok, List.map_toArray, List.map_cons, List.map_nil, hk.ev hx, hr]
  exact hK _ _ (h _ hlen _ _ hk (Good.sets (w := w) _ cs o w hG'))
theorem x_cap (ok : TabOk P T) {t e sz m c : Nat} {p : Option Addr} {x : Operand} (hx : ev l x = some (.slice p m c)) (ht : lk T.sl t = some (e, sz)) :
    Hy P n w0 mu l hp ⟨dd, .call { callee := .builtin .cap, args := #[x], argTypes := #[t] }, ty, pos, af, gg⟩ (.int .i64 c) := by
  obtain ⟨hu, hsz⟩ := ok.gsl ht
  refine hy_run fun a w hk _ => ?_
  have hr := run_cap_slice (P := P) w t ty p m c (elem_of hu)
  simp only [execOp, resolve, invoke, builtin, Sem.run_bind, Sem.run_pure, Result.andThen_ok, List.map_toArray, List.map_cons, List.map_nil, hk.ev hx, hr]
  rfl
/-- A slice built, out of turn. -/
theorem eo_bslice (ok : TabOk P T) {lf : Fm} {t len e sz : Nat} {z : Value} {ps : List (Nat × Operand)} {vs : List (Nat × Value)} {zl : List Value} {out : Array Value} {out' : List Value} (ht : lk T.sl t = some (e, sz)) (hz : lk T.zs e = some z) (hzc : z.cells = zl.toArray) (hzs : Nat.beq zl.length sz = true) (hpos : (Nat.blt 0 (len * sz) && Nat.ble (len * sz) 16777216) = true) (hv : evp lf ps = some vs) (hf : flS sz (rep zl len).toArray vs = some out) (hn : out = out'.toArray) :
    EoR P n w0 mu lf hp ⟨dd, .buildSlice t len ps.toArray, ty, pos, af, none⟩ (fun v hn => ∃ b, v = .slice (some ⟨b, 0, none⟩) len len ∧ hn = [⟨b, out'.toArray, e⟩]) := by
  subst hn
  have hzs' : zl.length = sz := by simpa using hzs
  rw [Bool.and_eq_true] at hpos
  obtain ⟨hp1, hp2⟩ := hpos
  replace hp1 : 0 < len * sz := by simpa using hp1
  replace hp2 : len * sz ≤ 16777216 := Nat.le_of_ble_eq_true hp2
  have hsp : 0 < sz := by rcases Nat.eq_zero_or_pos sz with h | h; · rw [h] at hp1; simp at hp1
                          · exact h
  refine eo_new (F := fun b => .slice (some ⟨b, 0, none⟩) len len) rfl _ _ fun a w hk => ?_
  have e1 : (ps.toArray.map fun x => (x.1, a.eval x.2)) = vs.toArray := by rw [← hk.evp hv]; simp
  obtain ⟨hu, hs⟩ := ok.gsl ht
  have hr := rep_eq z.cells (by rw [hzc]; simpa [hzs'] using hsp) len
  have hsz : z.cells.size = sz := by rw [hzc]; simpa using hzs'
  rw [hsz] at hr
  simp only [execOp, Instr.buildSlice, Sem.run_bind, run_underlying hu w, Result.andThen_ok, run_sizeOf hs w, e1]
  rw [if_neg (by omega)]
  simp only [Sem.run_bind, Sem.run_pure, Result.andThen_ok, if_neg (show ¬ len * sz = 0 by omega), run_zero (ok.gzs hz) w, hsz, hr]
  rw [show z.cells.toList = zl by rw [hzc]]
  simp only [List.toList_toArray, flS_fill _ _ _ _ hf]
  simp [go_sem]
end
end Go.Proofs.Ytjnndchkblnkgaa
