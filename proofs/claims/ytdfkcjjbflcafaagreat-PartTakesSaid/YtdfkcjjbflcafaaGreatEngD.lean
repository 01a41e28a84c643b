/- The engine: a function's beginning and end. No program in sight. -/
import Derived.Test.YtdfkcjjbflcafaaGreatEngC
namespace Go.Proofs.YtdfkcjjbflcafaaGreat
open Go.RowKit
set_option linter.unusedVariables false
set_option linter.unusedSimpArgs false

/-- What a result variable holds. -/
def Res1 (P : Program) (l : Fm) (hp : Hp) : ResultVar → Value → Prop
  | .tmp t, v => look l t = some v
  | .cell a t, v => ∃ e ∈ hp, look l a = some (.pointer (some ⟨e.b, 0, none⟩)) ∧ ((isSc P t = true ∧ e.cs[0]? = some v) ∨ (isAg P t = true ∧ szOf P t = some e.cs.size ∧ v = .agg e.cs))
def ResAll (P : Program) (l : Fm) (hp : Hp) : List ResultVar → List Value → Prop
  | [], [] => True
  | r :: rs, v :: vs => Res1 P l hp r v ∧ ResAll P l hp rs vs
  | _, _ => False
def packed : List Value → Value
  | [v] => v
  | vs => .tuple vs.toArray
/-- What a function's end is asked: the values, and what is said of them. -/
def Fin (P : Program) (fn : Func) (R : Value → Hp → Prop) (e : Exit) (l : Fm) (hp : Hp) : Prop :=
  (e = .ret ∨ e = .normal) ∧ ∃ vs, ResAll P l hp fn.results.toList vs ∧ R (packed vs) hp
def argFm : Nat → List Value → Fm
  | _, [] => []
  | i, v :: r => (i, v) :: argFm (i + 1) r

section
variable {P : Program} {n : Nat} {w0 : World} {mu : List Nat} {l : Fm} {hp : Hp}
theorem look_argFm : ∀ (args : List Value) (i t : Nat) (v : Value), look (argFm i args) t = some v → i ≤ t ∧ args[t - i]? = some v := by
  intro args
  induction args with
  | nil => intro i t v h; simp [argFm, look] at h
  | cons u r ih =>
    intro i t v h
    simp only [argFm, look] at h
    cases hb : Nat.beq i t with
    | true =>
      rw [hb] at h
      have := beq_iff.1 hb
      subst this
      simp at h
      subst h
      simp
    | false =>
      rw [hb] at h
      have hne : i ≠ t := fun e => by rw [beq_iff.2 e] at hb; cases hb
      obtain ⟨h1, h2⟩ := ih (i + 1) t v (by simpa using h)
      refine ⟨by omega, ?_⟩
      rw [show t - i = (t - (i + 1)) + 1 by omega]
      simpa using h2
def resSem (tmps : Array Value) (r : ResultVar) : Sem Value := ResultVar.casesOn r (fun t => pure (tmps.getD t undef)) (fun a t => do loadVar t (← asAddr (tmps.getD a undef)))
theorem results_eq (fn : Func) (tmps : Array Value) : results fn tmps = (do let vs ← fn.results.mapM (resSem tmps); pure (if h : vs.size = 1 then vs[0] else .tuple vs)) := by
  unfold results
  congr 1
  congr 1
  funext r
  cases r <;> rfl
theorem run_res1 {a : Act} {w : World} (hk : Knows n l a) (hG : Good w0 mu hp w) {r : ResultVar} {v : Value} (h : Res1 P l hp r v) : (resSem a.tmps r).run P w = .ok v w := by
  cases r with
  | tmp t => simp only [resSem, Sem.run_pure, hk.has t v h]
  | cell x t =>
    obtain ⟨e, he, hx, h⟩ := h
    have hb := hG.here e he
    simp only [resSem, hk.has x _ hx]
    rcases h with ⟨hs, hc⟩ | ⟨ha, hs, rfl⟩
    · have hc' : w.cell? ⟨e.b, 0, none⟩ = some v := by rw [cell_of_block hb]; exact hc
      simp only [asAddr, Sem.run_bind, Sem.run_pure, Result.andThen_ok, loadVar, run_isAgg_sc hs w]
      simp [load, Sem.run, hc']
    · have hr : w.rangeAt e.b 0 e.cs.toList := fun j v hj => by rw [cell_of_block hb]; simpa using hj
      have := run_load_ag (P := P) ha (by simpa using hs) hr
      simpa [asAddr, Instr.loadAt, Instr.sureAddr] using this
theorem run_resAll {a : Act} {w : World} (hk : Knows n l a) (hG : Good w0 mu hp w) : ∀ {rs : List ResultVar} {vs : List Value}, ResAll P l hp rs vs →
    (rs.mapM (resSem a.tmps)).run P w = .ok vs w := by
  intro rs
  induction rs with
  | nil =>
    intro vs h
    cases vs with
    | nil => simp
    | cons v vs => exact h.elim
  | cons r rs ih =>
    intro vs h
    cases vs with
    | nil => exact h.elim
    | cons v vs =>
      rw [List.mapM_cons]
      simp only [Sem.run_bind, run_res1 hk hG h.1, Result.andThen_ok, ih h.2, Sem.run_pure]
theorem run_results {fn : Func} {a : Act} {w : World} (hk : Knows n l a) (hG : Good w0 mu hp w) {vs : List Value} (h : ResAll P l hp fn.results.toList vs) : (results fn a.tmps).run P w = .ok (packed vs) w := by
  have hm := run_resAll (a := a) (w := w) hk hG h
  rw [results_eq, ← Array.toArray_toList (xs := fn.results)]
  rw [Sem.run_bind, List.mapM_toArray]
  show (Sem.run P ((List.mapM _ _) >>= fun x => pure x.toArray) w).andThen _ = _
  simp only [Sem.run_bind]
  rw [hm]
  simp only [Result.andThen_ok, Sem.run_pure]
  congr 1
  match vs with
  | [] => rfl
  | [v] => rfl
  | v :: u :: r => simp [packed]
/-- A function, from its body. -/
theorem fn_enter {f : FuncId} {fn : Func} {c : Code} {args : List Value} {w : World} {R : Value → Hp → Prop} (hf : P.funcs[f]? = some fn) (hb : fn.body = some c) (n : Nat) (hn : fn.ntmps = n) (ha : args.length ≤ n)
    (h : St P n w [] c (argFm 0 args) [] (Fin P fn R)) : Fn P f args.toArray w [] R := by
  refine calls_of_wp hf hb (Code.wp_mono ?_ (h _ w ⟨?_, rfl, ?_⟩ (Good.nil w [])))
  · rintro e a w' ⟨l', hp', hk, hG, he, vs, hr, hR⟩
    have := run_results hk hG hr
    rcases he with rfl | rfl
    · exact ⟨hk.defers, packed vs, this, packed vs, hp', rfl, hG, hR⟩
    · exact ⟨hk.defers, packed vs, this, packed vs, hp', rfl, hG, hR⟩
  · simp [hn]; omega
  · intro t v ht
    obtain ⟨_, h2⟩ := look_argFm args 0 t v ht
    simp only [Nat.sub_zero] at h2
    have hlt := (List.getElem?_eq_some_iff.1 h2).1
    have h3 : args[t] = v := (List.getElem?_eq_some_iff.1 h2).2
    simp [Array.getElem?_append, hlt, h3]
/-- .. of one that may write the known blocks 'hi'. -/
theorem fn_enterM {f : FuncId} {fn : Func} {c : Code} {args : List Value} {w : World} {R : Value → Hp → Prop} (hi : Hp) (hhere : ∀ e ∈ hi, w.heap[e.b]? = some (.cells e.cs e.t (0, 0))) (hnd : (hi.map (·.b)).Nodup)
    (hf : P.funcs[f]? = some fn) (hb : fn.body = some c) (n : Nat) (hn : fn.ntmps = n) (ha : args.length ≤ n)
    (h : St P n w (hi.map (·.b)) c (argFm 0 args) hi (Fin P fn R)) : Fn P f args.toArray w (hi.map (·.b)) R := by
  refine calls_of_wp hf hb (Code.wp_mono ?_ (h _ w ⟨?_, rfl, ?_⟩ ⟨rfl, rfl, rfl, Nat.le_refl _, hnd, hhere, fun e he => .inl (List.mem_map.2 ⟨e, he, rfl⟩), fun _ _ _ => rfl⟩))
  · rintro e a w' ⟨l', hp', hk, hG, he, vs, hr, hR⟩
    have := run_results hk hG hr
    rcases he with rfl | rfl
    · exact ⟨hk.defers, packed vs, this, packed vs, hp', rfl, hG, hR⟩
    · exact ⟨hk.defers, packed vs, this, packed vs, hp', rfl, hG, hR⟩
  · simp [hn]; omega
  · intro t v ht
    obtain ⟨_, h2⟩ := look_argFm args 0 t v ht
    simp only [Nat.sub_zero] at h2
    have hlt := (List.getElem?_eq_some_iff.1 h2).1
    have h3 : args[t] = v := (List.getElem?_eq_some_iff.1 h2).2
    simp [Array.getElem?_append, hlt, h3]
end
section
variable {P : Program} {n : Nat} {w0 : World} {mu : List Nat} {l : Fm} {hp : Hp} {Q : Exit → Fm → Hp → Prop} {N : Fm → Hp → Prop} {all : Array Oper} {rest : List Oper}
theorem nx_normal (h : N l hp) : nx N Q .normal l hp := h
theorem nx_ret (h : Q .ret l hp) : nx N Q .ret l hp := h
theorem nx_exit {id : Nat} (h : Q (.exit id) l hp) : nx N Q (.exit id) l hp := h
theorem inb_normal {id : Nat} (h : Q .normal l hp) : inb id Q .normal l hp := h
theorem inb_ret {id : Nat} (h : Q .ret l hp) : inb id Q .ret l hp := h
theorem inb_here {id : Nat} (h : Q .normal l hp) : inb id Q (.exit id) l hp := by
  show bif Nat.beq id id then Q .normal l hp else _
  rw [beq_iff.2 rfl]; exact h
theorem inb_past {id id' : Nat} (hne : Nat.beq id' id = false) (h : Q (.exit id') l hp) : inb id Q (.exit id') l hp := by
  show bif Nat.beq id' id then Q .normal l hp else _
  rw [hne]; exact h
theorem op1 {d : Nat} {op : Op} {ty : TypeId} {pos : String} {af : Array Edge} {v : Value} (hd : Nat.blt d n = true) (hy : Hy P n w0 mu l hp ⟨some d, op, ty, pos, af, none⟩ v)
    (h : Ops P n w0 mu all rest ((d, v) :: l) hp Q) : Ops P n w0 mu all (⟨some d, op, ty, pos, af, none⟩ :: rest) l hp Q := ops_hy rfl hd v hy h
theorem op1g {d : Nat} {op : Op} {ty : TypeId} {pos : String} {af : Array Edge} {v : Value} {j : Nat} {want : Bool} {dj : Nat} {b : Bool} (hd : Nat.blt d n = true) (hj : (all[j]?).bind (·.dst) = some dj) (hb : look l dj = some (.bool b)) (hdj : Nat.blt dj n = true)
    (hy : wnt b want = true → Hy P n w0 mu l hp ⟨some d, op, ty, pos, af, some (j, want)⟩ v)
    (h : Ops P n w0 mu all rest ((d, gv (wnt b want) v) :: l) hp Q) : Ops P n w0 mu all (⟨some d, op, ty, pos, af, some (j, want)⟩ :: rest) l hp Q := ops_hyg j want rfl hd dj hj true b hb hdj v (fun _ => hy) h
theorem op1gg {d : Nat} {op : Op} {ty : TypeId} {pos : String} {af : Array Edge} {v : Value} {j : Nat} {want : Bool} {dj : Nat} {c0 b : Bool} (hd : Nat.blt d n = true) (hj : (all[j]?).bind (·.dst) = some dj) (hb : look l dj = some (gv c0 (.bool b))) (hdj : Nat.blt dj n = true)
    (hy : c0 = true → wnt b want = true → Hy P n w0 mu l hp ⟨some d, op, ty, pos, af, some (j, want)⟩ v)
    (h : Ops P n w0 mu all rest ((d, gv (c0 && wnt b want) v) :: l) hp Q) : Ops P n w0 mu all (⟨some d, op, ty, pos, af, some (j, want)⟩ :: rest) l hp Q := ops_hyg j want rfl hd dj hj c0 b hb hdj v hy h
end
end Go.Proofs.YtdfkcjjbflcafaaGreat
